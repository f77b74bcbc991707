/- Parts of the proof of CKeysBack: K2, KSh, K3, K4, K5, K6, K7, K8, K9, SyEx. No conditions. -/
import Derived.Test.YtlonlnagmfdlbaaDoorM4
import Derived.Shelf.Strings.Replace
import Derived.Test.YtlonlnagmfdlbaaDoorProg
import Derived.Laws.Externs
import Derived.Lib.BytesEntry
namespace Go.Sy
open Go.Proofs
def fillK (l:List UInt8) (k:Nat):List UInt8:=l.take k++List.replicate (l.length - k) 0
theorem fillK_all (l:List UInt8):fillK l l.length=l:=by unfold fillK;simp
theorem fillK_set {l:List UInt8} {k:Nat} {x:UInt8} (h:l[k]?=some x):(fillK l k).set k x=fillK l (k+1):=by
  obtain ⟨hk,he⟩:=List.getElem?_eq_some_iff.1 h
  unfold fillK
  have hl:(l.take k).length=k:=by rw [List.length_take];omega
  rw [List.take_succ_eq_append_getElem hk,he,show l.length - k=(l.length - (k+1))+1 by omega,List.replicate_succ,List.set_append_right _ _ (by omega),hl,Nat.sub_self,List.set_cons_zero,List.append_assoc]
  rfl
theorem u8Xs_set (l:List UInt8) (k:Nat) (x:UInt8):(u8Xs l).set k (.int .u8 (x.toNat:Int))=u8Xs (l.set k x):=by
  unfold u8Xs
  rw [List.map_set]
theorem u8Xs_zeros (n:Nat):(List.replicate n ([.int .u8 0]:List Value)).flatten=u8Xs (List.replicate n 0):=by
  induction n with
  | zero=>rfl
  | succ n ih =>
    rw [List.replicate_succ,List.replicate_succ,List.flatten_cons,ih]
    rfl
theorem turnG_get {l:List UInt8} {k:Nat} {x:UInt8} (h:l[k]?=some x):(turnG l)[k]?=some (255 - x):=by unfold turnG;rw [List.getElem?_map,h];rfl
theorem turnG_len (l:List UInt8):(turnG l).length=l.length:=by simp [turnG]
set_option maxRecDepth 100000 in
set_option maxHeartbeats 2000000 in
theorem turned_c (σ:Snap) (l:List UInt8) (hl:l.length<=1000000) (ao:Option Addr) (cap:Nat) (H:SlAt σ ao l.length cap 1 (u8Rows l)) :
    PureS Tryd.prog 35 [.a (.v (.slice ao l.length cap))] σ (fun v σ'=>∃ bo bc,v=.slice bo l.length bc/\SlAt σ' bo l.length bc 1 (u8Rows (turnG l))):=by
  refine enter_s Tryd.func35 rfl rfl (by (repeat' (first | exact trivial | constructor))) fun w=>?_
  (repeat (first | refine cj_seq ?_ | refine cjr TT rfl ?_ | refine oj_then ?_))
  refine oj_makeSliceN (n:=l.length) TT _ rfl rfl rfl rfl rfl rfl rfl rfl rfl rfl (by show l.length*1<=_;omega) (by omega) (madeCells_rep [.int .u8 0] l.length) fun g=>?_
  rw [u8Xs_zeros]
  refine oj_run TT rfl ?_
  (repeat (first | refine cj_seq ?_ | refine cjr TT rfl ?_ | refine oj_then ?_ | refine cj_block ?_))
  refine cj_loop (fun (_:Nat)=>σ) (fun k=>[(3,.a (.v (.slice (some ⟨g,0,none⟩) l.length l.length))),(9,.a (.v (.slice ao l.length cap))),(10,.a (.v (.int .i64 l.length))),(11,.a (.v (.int .i64 (k:Nat))))]) (fun _=>[]) (fun k=>[⟨some ⟨g,0,none⟩,l.length,l.length,5,1,u8Xs (fillK (turnG l) k)⟩]) 0
    (fun k=>k<=l.length) (fun k=>l.length - k) 0 (Nat.zero_le _) rfl (by (repeat first | exact trivial | refine ⟨rfl,?_⟩)) (by (repeat first | exact trivial | refine ⟨rfl,?_⟩)) (by unfold fillK;rw [turnG_len];rfl) (by (repeat' (first | exact trivial | constructor))) (by (repeat' exact trivial)) fun k hk=>?_
  (repeat (first | refine cj_seq ?_ | refine cjr TT rfl ?_ | refine oj_then ?_))
  refine cj_if rfl (fun h=>?_) (fun h=>?_)
  rotate_left
  · have hk0:k=l.length:=by have:=of_decide_eq_false h;omega
    have e:fillK (turnG l) k=turnG l:=by rw [hk0,<-turnG_len l,fillK_all]
    rw [e]
    (repeat (first | refine cj_seq ?_ | refine cjr TT rfl ?_ | refine oj_then ?_ | refine cj_exit ?_ | refine cj_ret ?_ | refine nj_then ?_ | refine nj_then_exit ?_ | refine nj_block_out ?_))
    refine nj_seal 0 rfl rfl fun s1 hle1 hS=>?_
    refine nj_ret TT rfl fun β w' _ _=>?_
    have hS:ArrSealed s1 (u8E (some ⟨g,0,none⟩) l.length (turnG l)):=by unfold u8E;rw [turnG_len];exact hS
    have:=u8_sealed hS (by rw [turnG_len];exact Nat.le_refl _)
    rw [turnG_len] at this
    exact ⟨_,_,rfl,this⟩
  have hkl:k<l.length:=by have:=of_decide_eq_true h;omega
  have hx:=List.getElem?_eq_getElem hkl
  have hrow:=u8Rows_get hx
  have hset:=fillK_set (turnG_get hx)
  generalize l[k]=x at *
  (repeat (first | refine cj_seq ?_ | refine cjr TT rfl ?_ | refine cj_skip ?_ | refine cj_block ?_ | refine nj_then ?_))
  refine oj_idx TT rfl rfl rfl rfl rfl rfl rfl rfl rfl H (by omega) hrow (oj_run TT rfl ?_)
  (repeat (first | refine cjr TT rfl ?_ | refine oj_then ?_))
  refine oj_compl8 rfl rfl rfl rfl rfl (oj_run TT rfl ?_)
  refine oj_indexAddr TT rfl rfl rfl rfl rfl rfl rfl rfl rfl ⟨by omega,by omega⟩ (oj_run TT rfl ?_)
  refine oj_stA 0 (off:=k) (A':=[⟨some ⟨g,0,none⟩,l.length,l.length,5,1,u8Xs (fillK (turnG l) (k+1))⟩]) (c:=.v (.int .u8 ((255 - x).toNat:Int))) TT rfl rfl rfl rfl (by rw [add0];show some (SV.a (AT.v (.pointer (some ⟨g,((k:Nat):Int).toNat*1,none⟩))))=_;rw [Nat.mul_one];rfl) rfl rfl rfl rfl rfl (by show k<l.length*1;omega) trivial rfl (by rw [<-hset,<-u8Xs_set];rfl) (oj_run TT rfl ?_)
  (repeat (first | refine cjr TT rfl ?_ | refine oj_nil ?_ | refine nj_then ?_ | refine nj_block ?_ | (refine oj_add rfl rfl rfl rfl rfl rfl (by omega) ?_;refine oj_run TT rfl ?_)))
  refine nj_again (k+1) hkl (by omega) rfl (by (repeat first | exact trivial | refine ⟨rfl,?_⟩)) (by (repeat first | exact trivial | refine ⟨rfl,?_⟩)) rfl (by (repeat' (first | exact trivial | constructor))) (by (repeat' exact trivial))
theorem wrap8 (x:Int):IntKind.u8.wrap x=((byteOf x).toNat:Int):=by
  rw [byteOf_nat]
  rfl
theorem shr8 (h:Int):bShr .i64 h 8=h / 256:=by
  show h.fdiv 256=_
  rw [Int.fdiv_eq_ediv_of_nonneg _ (by decide)]
theorem wrap8_sub:∀ c:UInt8,IntKind.u8.wrap ((c.toNat:Int) - 48)=((c - 48).toNat:Int):=all8 (by decide +kernel)
theorem wrap8_inc:∀ c:UInt8,IntKind.u8.wrap ((c.toNat:Int)+1)=((c+1).toNat:Int):=all8 (by decide +kernel)
def szK (h:Int) (l:List UInt8) (k:Nat):List UInt8:=byteOf (h / 256)::byteOf h::(l.take k).map (fun c=>c - 48+1)
theorem szK_len (h:Int) (l:List UInt8) (k:Nat):(szK h l k).length<=2+l.length:=by
  unfold szK
  rw [List.length_cons,List.length_cons,List.length_map,List.length_take]
  omega
theorem szK_succ {h:Int} {l:List UInt8} {k:Nat} {c:UInt8} (hc:l[k]?=some c):szK h l (k+1)=szK h l k++[c - 48+1]:=by
  obtain ⟨hk,he⟩:=List.getElem?_eq_some_iff.1 hc
  unfold szK
  rw [List.take_succ_eq_append_getElem hk,he,List.map_append]
  rfl
structure SzS where
  k:Nat
  oo:Option Addr
  oc:Nat
set_option maxRecDepth 100000 in
set_option maxHeartbeats 2000000 in
theorem size_c (σ:Snap) (d:GDec) (hs:decSane d=true) (h0:d.dg.size≠0):PureS Tryd.prog 36 [.agg (decCells d)] σ (fun v σ'=>∃ ao cap,v=.slice ao (sizeG d).length cap/\SlAt σ' ao (sizeG d).length cap 1 (u8Rows (sizeG d))):=by
  obtain ⟨hdig,h1,h2⟩:=sane_size hs h0
  obtain ⟨ng,dg,ex⟩:=d
  obtain ⟨l,rfl⟩:=mkB_ex dg
  have hsz:=mkB_size l
  dsimp only at h0 h1 h2
  rw [hsz] at h0
  have hl40:l.length<=40:=by
    rw [decSane_mk _ _ _ h0] at hs
    simp only [Bool.and_eq_true,decide_eq_true_eq] at hs
    exact hs.1.1.1.1.1.1.1
  refine enter_s Tryd.func36 rfl rfl (by (repeat' (first | exact trivial | exact decCells_lt _ _ | constructor))) fun w=>?_
  (repeat (first | refine cj_seq ?_ | refine cjr TT rfl ?_ | refine oj_then ?_))
  refine oj_add rfl rfl rfl rfl rfl rfl (by dsimp only;omega) (oj_run TT rfl ?_)
  refine oj_add rfl rfl rfl rfl rfl rfl (by dsimp only;omega) (oj_run TT rfl ?_)
  dsimp only
  have hH1:0<=((mkB l).size:Int)+ex+1000:=by omega
  have hH2:((mkB l).size:Int)+ex+1000<=1400:=by omega
  have hsz0:sizeG ⟨ng,mkB l,ex⟩=byteOf ((((mkB l).size:Int)+ex+1000) / 256)::byteOf (((mkB l).size:Int)+ex+1000)::(l.map (fun c=>c - 48+1)++[0]):=by
    unfold sizeG
    dsimp only
    rw [mkB_list]
  generalize ((mkB l).size:Int)+ex+1000=h at *
  (repeat (first | refine cj_seq ?_ | refine cjr TT rfl ?_ | refine oj_then ?_ | (refine oj_conv TT _ rfl rfl rfl rfl rfl rfl rfl rfl rfl ?_;refine oj_run TT rfl ?_) | (refine oj_bshr rfl rfl rfl rfl rfl rfl (by decide) ?_;refine oj_run TT rfl ?_)))
  have e1:IntKind.u8.wrap (bShr .i64 h 8)=((byteOf (h / 256)).toNat:Int):=by rw [wrap8,shr8]
  have e2:IntKind.u8.wrap h=((byteOf h).toNat:Int):=wrap8 h
  rw [e1,e2]
  refine oj_own 1 2 1 rfl (by (repeat' (first | exact trivial | refine AllLt.of ?_ | constructor))) rfl (by decide) fun g=>?_
  refine oj_bytes (y:=mkB l) TT rfl rfl rfl rfl rfl rfl rfl rfl rfl rfl rfl fun ao cap s1 hle1 HB=>?_
  rw [byteRows_u8,mkB_list,hsz] at HB
  refine oj_set 22 (.a (.v (.slice ao l.length cap))) rfl trivial (fun β=>by rw [hsz]) (oj_run TT rfl ?_)
  (repeat (first | refine oj_then ?_ | refine cj_block ?_))
  refine cj_loop (fun (_:SzS)=>s1) (fun t=>[(4,.a (.v (.slice t.oo (szK h l t.k).length t.oc))),(22,.a (.v (.slice ao l.length cap))),(23,.a (.v (.int .i64 l.length))),(24,.a (.v (.int .i64 (t.k:Nat))))]) (fun _=>[]) (fun t=>[u8E t.oo t.oc (szK h l t.k)]) 0
    (fun t=>t.k<=l.length/\(szK h l t.k).length<=t.oc) (fun t=>l.length - t.k) ⟨0,some ⟨g,0,none⟩,2⟩ ⟨Nat.zero_le _,Nat.le_refl _⟩ rfl (by (repeat first | exact trivial | refine ⟨rfl,?_⟩)) (by (repeat first | exact trivial | refine ⟨rfl,?_⟩)) rfl (by (repeat' (first | exact trivial | constructor))) (by (repeat' exact trivial)) fun ⟨k,oo,oc⟩ ⟨hk,hoc⟩=>?_
  dsimp only at hk hoc ⊢
  have hlen:=szK_len h l k
  (repeat (first | refine cj_seq ?_ | refine cjr TT rfl ?_ | refine oj_then ?_))
  refine cj_if rfl (fun hc=>?_) (fun hc=>?_)
  rotate_left
  · have hk0:k=l.length:=by have:=of_decide_eq_false hc;omega
    have e:szK h l k++[0]=sizeG ⟨ng,mkB l,ex⟩:=by
      rw [hsz0,hk0]
      unfold szK
      rw [List.take_length]
      rfl
    (repeat (first | refine cj_seq ?_ | refine cjr TT rfl ?_ | refine cj_exit ?_ | refine nj_then ?_ | refine nj_then_exit ?_ | refine nj_block_out ?_))
    refine oj_append_lit TT 0 rfl rfl rfl rfl rfl rfl rfl rfl rfl rfl rfl rfl rfl rfl rfl rfl rfl rfl (by (repeat' (first | exact trivial | refine AllLt.of ?_ | constructor))) rfl (by omega) (by show ((szK h l k).length+1)*1<=_;omega) fun oo' oc' hoc'=>oj_run TT rfl ?_
    (repeat (first | refine oj_then ?_ | refine cj_ret ?_))
    refine nj_seal 0 rfl rfl fun s2 hle2 hS=>?_
    refine nj_ret TT rfl fun β w' _ _=>?_
    have hl1:(szK h l k++[0]).length=(szK h l k).length+1:=by simp
    have hS:ArrSealed s2 (u8E oo' oc' (szK h l k++[0])):=by unfold u8E;rw [hl1,u8Xs_append];exact hS
    have:=u8_sealed hS (by rw [hl1];exact hoc')
    rw [<-e]
    exact ⟨oo',oc',by rw [hl1];rfl,this⟩
  have hkl:k<l.length:=by have:=of_decide_eq_true hc;omega
  have hx:=List.getElem?_eq_getElem hkl
  have hrow:=u8Rows_get hx
  have hs1:=szK_succ (h:=h) hx
  generalize l[k]=c at *
  (repeat (first | refine cj_seq ?_ | refine cjr TT rfl ?_ | refine cj_skip ?_ | refine cj_block ?_ | refine nj_then ?_))
  refine oj_idx TT rfl rfl rfl rfl rfl rfl rfl rfl rfl HB (by omega) hrow (oj_run TT rfl ?_)
  (repeat (first | refine cjr TT rfl ?_ | refine oj_then ?_))
  refine oj_arith ((c - 48).toNat:Int) rfl rfl rfl rfl rfl rfl (run_sub (wrap8_sub c)) (oj_run TT rfl ?_)
  refine oj_arith ((c - 48+1).toNat:Int) rfl rfl rfl rfl rfl rfl (run_add (wrap8_inc (c - 48))) (oj_run TT rfl ?_)
  refine oj_append_lit TT 0 rfl rfl rfl rfl rfl rfl rfl rfl rfl rfl rfl rfl rfl rfl rfl rfl rfl rfl (by (repeat' (first | exact trivial | refine AllLt.of ?_ | constructor))) rfl (by omega) (by show ((szK h l k).length+1)*1<=_;omega) fun oo' oc' hoc'=>oj_run TT rfl ?_
  (repeat (first | refine cjr TT rfl ?_ | refine oj_nil ?_ | refine nj_then ?_ | refine nj_block ?_ | (refine oj_add rfl rfl rfl rfl rfl rfl (by omega) ?_;refine oj_run TT rfl ?_)))
  have hl1:(szK h l (k+1)).length=(szK h l k).length+1:=by rw [hs1];simp
  refine nj_again (⟨k+1,oo',oc'⟩:SzS) ⟨hkl,by dsimp only;omega⟩ (by dsimp only;omega) rfl ?_ (by (repeat first | exact trivial | refine ⟨rfl,?_⟩)) ?_ (by (repeat' (first | exact trivial | constructor))) (by (repeat' exact trivial))
  · dsimp only
    rw [hl1]
    (repeat first | exact trivial | refine ⟨rfl,?_⟩)
  · show [_]=[_]
    dsimp only
    unfold u8E
    rw [hl1,hs1,u8Xs_append]
    rfl
end Go.Sy
/- The library's strings.ReplaceAll at this program: the shelf's contract, laid by its program. -/
namespace Go.Proofs
open Go.Shelf
def Tryd.lays155_ren:Go.Shelf.Ren:=⟨fun | 155=>37 | 154=>49 | 138=>63 | 165=>64 | 143=>65 | 166=>66 | 197=>67 | 169=>68 | 195=>75 | 218=>76 | 240=>77 | 241=>78 | 219=>79 | 260=>80 | 276=>84 | 277=>85 | 217=>86 | 225=>87 | 224=>88 | 267=>89 | 266=>92 | 314=>93 | n=>n,fun | 9=>9 | 3=>3 | 4=>4 | 72=>97 | 0=>0 | 76=>101 | 105=>103 | 21=>21 | 5=>5 | 70=>95 | 20=>20 | 37=>22 | 75=>100 | 127=>111 | 164=>113 | 46=>73 | 119=>117 | 139=>120 | 138=>119 | 146=>123 | 51=>122 | 80=>105 | n=>n,fun | 1=>0 | 3=>1 | 4=>2 | n=>n⟩
theorem Tryd.lays155:Go.Proofs.Lays.n155 Tryd.prog Tryd.lays155_ren:={
  mixed:=by kernel_rfl
  f138:=Tryd.func63.trans (congrArg some (by kernel_rfl))
  f143:=Tryd.func65.trans (congrArg some (by kernel_rfl))
  f154:=Tryd.func49.trans (congrArg some (by kernel_rfl))
  f155:=Tryd.func37.trans (congrArg some (by kernel_rfl))
  f165:=Tryd.func64.trans (congrArg some (by kernel_rfl))
  f166:=Tryd.func66.trans (congrArg some (by kernel_rfl))
  f169:=Tryd.func68.trans (congrArg some (by kernel_rfl))
  f195:=Tryd.func75.trans (congrArg some (by kernel_rfl))
  f197:=Tryd.func67.trans (congrArg some (by kernel_rfl))
  f217:=Tryd.func86.trans (congrArg some (by kernel_rfl))
  f218:=Tryd.func76.trans (congrArg some (by kernel_rfl))
  f219:=Tryd.func79.trans (congrArg some (by kernel_rfl))
  f224:=Tryd.func88.trans (congrArg some (by kernel_rfl))
  f225:=Tryd.func87.trans (congrArg some (by kernel_rfl))
  f240:=Tryd.func77.trans (congrArg some (by kernel_rfl))
  f241:=Tryd.func78.trans (congrArg some (by kernel_rfl))
  f260:=Tryd.func80.trans (congrArg some (by kernel_rfl))
  f266:=Tryd.func92.trans (congrArg some (by kernel_rfl))
  f267:=Tryd.func89.trans (congrArg some (by kernel_rfl))
  f276:=Tryd.func84.trans (congrArg some (by kernel_rfl))
  f277:=Tryd.func85.trans (congrArg some (by kernel_rfl))
  f314:=Tryd.func93.trans (congrArg some (by kernel_rfl))
  t0:=Tryd.underlying0
  a0:=Tryd.isAgg0
  z0:=Tryd.sizeOf0
  v0:=Tryd.zeroValue0
  t3:=Tryd.underlying3
  a3:=Tryd.isAgg3
  z3:=Tryd.sizeOf3
  v3:=Tryd.zeroValue3
  t4:=Tryd.underlying4
  a4:=Tryd.isAgg4
  z4:=Tryd.sizeOf4
  v4:=Tryd.zeroValue4
  t5:=Tryd.underlying5
  a5:=Tryd.isAgg5
  z5:=Tryd.sizeOf5
  v5:=Tryd.zeroValue5
  t9:=Tryd.underlying9
  a9:=Tryd.isAgg9
  z9:=Tryd.sizeOf9
  v9:=Tryd.zeroValue9
  t20:=Tryd.underlying20
  a20:=Tryd.isAgg20
  z20:=Tryd.sizeOf20
  v20:=Tryd.zeroValue20
  t21:=Tryd.underlying21
  a21:=Tryd.isAgg21
  z21:=Tryd.sizeOf21
  v21:=Tryd.zeroValue21
  t37:=Tryd.underlying22
  a37:=Tryd.isAgg22
  z37:=Tryd.sizeOf22
  v37:=Tryd.zeroValue22
  t46:=Tryd.underlying73
  a46:=Tryd.isAgg73
  z46:=Tryd.sizeOf73
  v46:=Tryd.zeroValue73
  t51:=Tryd.underlying122
  a51:=Tryd.isAgg122
  z51:=Tryd.sizeOf122
  v51:=Tryd.zeroValue122
  t70:=Tryd.underlying95
  a70:=Tryd.isAgg95
  z70:=Tryd.sizeOf95
  v70:=Tryd.zeroValue95
  t72:=Tryd.underlying97
  a72:=Tryd.isAgg97
  z72:=Tryd.sizeOf97
  v72:=Tryd.zeroValue97
  t75:=Tryd.underlying100
  a75:=Tryd.isAgg100
  z75:=Tryd.sizeOf100
  v75:=Tryd.zeroValue100
  t76:=Tryd.underlying101
  a76:=Tryd.isAgg101
  z76:=Tryd.sizeOf101
  v76:=Tryd.zeroValue101
  t105:=Tryd.underlying103
  a105:=Tryd.isAgg103
  z105:=Tryd.sizeOf103
  v105:=Tryd.zeroValue103
  t119:=Tryd.underlying117
  a119:=Tryd.isAgg117
  z119:=Tryd.sizeOf117
  t127:=Tryd.underlying111
  a127:=Tryd.isAgg111
  z127:=Tryd.sizeOf111
  v127:=Tryd.zeroValue111
  t138:=Tryd.underlying119
  a138:=Tryd.isAgg119
  z138:=Tryd.sizeOf119
  v138:=Tryd.zeroValue119
  t139:=Tryd.underlying120
  a139:=Tryd.isAgg120
  z139:=Tryd.sizeOf120
  v139:=Tryd.zeroValue120
  t146:=Tryd.underlying123
  a146:=Tryd.isAgg123
  z146:=Tryd.sizeOf123
  v146:=Tryd.zeroValue123
  t164:=Tryd.underlying113
  a164:=Tryd.isAgg113
  z164:=Tryd.sizeOf113
  v164:=Tryd.zeroValue113
  g1:=by kernel_rfl
  g3:=by kernel_rfl
  g4:=by kernel_rfl }
theorem Tryd.Builder_Extra_155:Builder.Extra Tryd.prog Tryd.lays155_ren:={
  sizeBuilder:=by kernel_rfl
  liesBuilder:=by kernel_rfl
  t5:=Tryd.underlying5
  a5:=Tryd.isAgg5
  z5:=Tryd.sizeOf5
  v5:=Tryd.zeroValue5
  infoByte:=by kernel_rfl
  cellsByte:=by kernel_rfl
  sizeByte:=by kernel_rfl
  neB5:=by decide }
open Go.RowKit Go.Lib in
theorem Tryd.strings_ReplaceAll (s old new:ByteArray) (m:Int) (w:World) (hs:s.size<4294967281) (hm:w.cell? ⟨0,0,none⟩=some (.int .i64 m)) (h1:1<=old.size) (hlen:s.size+Lib.countB s old*new.size<=140737488355328) :
    Calls Tryd.prog 37 #[.string s,.string old,.string new] w fun e w' =>
      e=.returned (.string ⟨(Lib.replaceAll s.data.toList old.data.toList new.data.toList).toArray⟩)/\Below w.heap.size w w':=Any.strings_ReplaceAll Tryd.lays155 Tryd.Builder_Extra_155 s old new m w hs hm h1 hlen
end Go.Proofs
namespace Go.Sy
open Go.Proofs
theorem esc_none:∀ {s:List UInt8},(∀ c∈s,c≠0)->escG s=s
  | [],_=>rfl
  | c::s,h=>by
    rw [escG,if_neg (h c List.mem_cons_self),esc_none fun x hx=>h x (List.mem_cons_of_mem c hx)]
theorem esc_hit:∀ (a r:List UInt8),(∀ c∈a,c≠0)->escG (a++0::r)=a++[0,255]++escG r
  | [],r,_=>by rw [List.nil_append,escG,if_pos rfl];rfl
  | c::a,r,h=>by
    rw [List.cons_append,escG,if_neg (h c List.mem_cons_self),esc_hit a r fun x hx=>h x (List.mem_cons_of_mem c hx)]
    rfl
theorem idx_split (s:List UInt8):(Lib.index s [0] = -1/\∀ c∈s,c≠0)\/∃ a r,s=a++0::r/\(∀ c∈a,c≠0)/\Lib.index s [0]=(a.length:Nat):=by
  rw [Lib.index_one]
  have hge:=Lib.indexByte_ge s 0
  by_cases h:Lib.indexByte s 0 = -1
  · refine .inl ⟨h,fun c hc h0=>?_⟩
    obtain ⟨k,hk,rfl⟩:=List.mem_iff_getElem.1 hc
    exact Lib.indexByte_none h k (by rw [List.getElem?_eq_getElem hk,h0])
  · obtain ⟨o,ho⟩:∃ o:Nat,Lib.indexByte s 0=o:=⟨(Lib.indexByte s 0).toNat,by omega⟩
    obtain ⟨h1,h2⟩:=Lib.indexByte_some ho
    obtain ⟨hl,he⟩:=List.getElem?_eq_some_iff.1 h1
    refine .inr ⟨s.take o,s.drop (o+1),?_,fun c hc h0=>?_,by rw [ho,List.length_take,Nat.min_eq_left (by omega)]⟩
    · rw [<-he,<-List.drop_eq_getElem_cons hl,List.take_append_drop]
    · obtain ⟨k,hk,hk3⟩:=List.mem_iff_getElem.1 hc
      have hk2:=List.getElem?_eq_getElem hk
      rw [hk3] at hk2
      rw [List.length_take] at hk
      rw [List.getElem?_take,if_pos (by omega),h0] at hk2
      exact h2 k (by omega) hk2
theorem replaceK_esc:∀ (fuel:Nat) (s:List UInt8),s.length<fuel->Lib.replaceK [0] [0,255] (Lib.countFrom [0] fuel s) s=escG s
  | 0,s,h=>by omega
  | fuel+1,s,h=>by
    rcases idx_split s with ⟨h1,h2⟩ | ⟨a,r,rfl,h2,h3⟩
    · rw [Lib.countFrom,h1]
      exact (esc_none h2).symm
    · have hne:¬ (Lib.index (a++0::r) [0] == -1)=true:=by rw [h3];intro e;have:=beq_iff_eq.1 e;omega
      have hd:(a++0::r).drop (a.length+1)=r:=by
        rw [List.drop_append,List.drop_of_length_le (by omega)]
        simp
      have ih:=replaceK_esc fuel r (by simp at h;omega)
      rw [Lib.countFrom,if_neg hne,Nat.add_comm,Lib.replaceK_hit _ _ _ _ _ h3,h3]
      show (a++0::r).take a.length++[0,255]++Lib.replaceK [0] [0,255] (Lib.countFrom [0] fuel ((a++0::r).drop (a.length+1))) ((a++0::r).drop (a.length+1))=_
      rw [hd,ih,esc_hit a r h2,List.take_left]
theorem replaceAll_esc (s:List UInt8):Lib.replaceAll s [0] [0,255]=escG s:=replaceK_esc (s.length+1) s (Nat.lt_succ_self _)
theorem plain_of_below {P:Program} {f:FuncId} {svs:List SV} {σ:Snap} {Φ:Value->Prop} (h:∀ w,Sealed σ w->Calls P f (svs.map (SV.den β0)).toArray w fun e w'=>∃ v,e=.returned v/\Φ v/\Go.RowKit.Below w.heap.size w w'):PlainS P f svs σ Φ:=by
  intro w hw
  refine Calls.mono (h w hw) fun e w' ⟨v,he,hv,hb⟩=>⟨v,σ,he,⟨hb.os,hb.tape,hb.output,hb.size,fun b hb' _=>hb.block b hb'⟩,⟨Snap.le_refl _,fun b hb'=>.inl hb'⟩,fun b o ho=>?_,hv⟩
  have h1:=hw b o ho
  rw [hb.block b (Array.getElem?_eq_some_iff.1 h1).1]
  exact h1
theorem ReplaceAll_c (σ:Snap) (m:Int) (hm:σ.cell ⟨0,0,none⟩=some (.int .i64 m)) (s:ByteArray) (hs:s.size<=1000000) :
    PlainS Tryd.prog 37 [.a (.v (.string s)),.a (.v (.string ⟨#[0]⟩)),.a (.v (.string ⟨#[0,255]⟩))] σ (fun v=>v=.string (mkB (escG s.data.toList))):=by
  refine plain_of_below fun w hw=>?_
  have hc:=Lib.countB_mul_le ⟨#[0]⟩ (by decide) s.size s (Nat.le_refl _)
  have hz:(⟨#[0]⟩:ByteArray).size=1:=rfl
  have hz2:(⟨#[0,255]⟩:ByteArray).size=2:=rfl
  rw [hz,Nat.mul_one] at hc
  refine Calls.mono (Tryd.strings_ReplaceAll s ⟨#[0]⟩ ⟨#[0,255]⟩ m w (by omega) (sealed_cell hw hm) (by decide) (by rw [hz2];omega)) fun e w' ⟨he,hb⟩=>⟨_,he,?_,hb⟩
  show Value.string ⟨(Lib.replaceAll s.data.toList [0] [0,255]).toArray⟩=_
  rw [replaceAll_esc]
  rfl
end Go.Sy
namespace Go.Sy
open Go.Proofs
theorem u8E_app {ao:Option Addr} {cap:Nat} {a b:List UInt8} {n:Nat} (hn:n=(a++b).length):(⟨ao,n,cap,5,1,u8Xs a++u8Xs b⟩:AE)=u8E ao cap (a++b):=by
  subst hn
  unfold u8E
  rw [u8Xs_append]
theorem u8Xs_flat (l:List UInt8):(u8Rows l).flatten.map AT.val=u8Xs l:=(u8Xs_rows l).symm
theorem esc_len:∀ (l:List UInt8),(escG l).length<=2*l.length
  | []=>Nat.le_refl _
  | c::l=>by
    have:=esc_len l
    unfold escG
    split<;>simp only [List.length_cons]<;>omega
theorem size_le {d:GDec} (h:decSane d=true) (h0:d.dg.size≠0):(sizeG d).length<=43:=by
  rw [size_len]
  obtain ⟨ng,dg,ex⟩:=d
  obtain ⟨l,rfl⟩:=mkB_ex dg
  have hsz:=mkB_size l
  dsimp only at h0 ⊢
  rw [hsz] at h0 ⊢
  rw [decSane_mk _ _ _ h0] at h
  simp only [Bool.and_eq_true,decide_eq_true_eq] at h
  have:=h.1.1.1.1.1.1.1
  omega
theorem shrA (i:Int):bShr .i64 i 24=i / 16777216:=by
  show i.fdiv 16777216=_
  rw [Int.fdiv_eq_ediv_of_nonneg _ (by decide)]
theorem shrB (i:Int):bShr .i64 i 16=i / 65536:=by
  show i.fdiv 65536=_
  rw [Int.fdiv_eq_ediv_of_nonneg _ (by decide)]
set_option maxRecDepth 100000 in
set_option maxHeartbeats 4000000 in
theorem put_c (σ:Snap) (m:Int) (hm:σ.cell ⟨0,0,none⟩=some (.int .i64 m)) (p:GPart) (hp:Rt p) (hps:p.s.size<=1000000) (o:List UInt8) (ho:o.length<=100000000) (oo:Option Addr) (oc:Nat) (hoc:o.length<=oc) :
    FnS Tryd.prog 26 [.a (.v (.slice oo o.length oc)),.agg (paCells p)] σ [u8E oo oc o] (fun v _ A'=>∃ oo' oc',v=.slice oo' (o++putG p).length oc'/\(o++putG p).length<=oc'/\A'=[u8E oo' oc' (o++putG p)]):=by
  obtain ⟨kd,b,n,s,i⟩:=p
  dsimp only at hps
  have hnum:kd=2->decSane n=true:=fun h=>by
    have hr:=(right_iff _).2 hp
    subst h
    have:(decide ((⟨0,b,dec0,s,i⟩:GPart)=part0)&&decSane n)=true:=hr
    rw [Bool.and_eq_true] at this
    exact this.2
  have hfin:∀ (l:List UInt8) (e:putG ⟨kd,b,n,s,i⟩=l) {k:Nat} (hk:k=l.length) (oo':Option Addr) (oc':Nat),o.length+k<=oc'->∃ ao ac,Value.slice oo' (o.length+k) oc'=.slice ao (o++putG ⟨kd,b,n,s,i⟩).length ac/\(o++putG ⟨kd,b,n,s,i⟩).length<=ac/\[(⟨oo',o.length+k,oc',5,1,u8Xs o++u8Xs l⟩:AE)]=[u8E ao ac (o++putG ⟨kd,b,n,s,i⟩)]:=by
    intro l e k hk oo' oc' h
    have hl:o.length+k=(o++l).length:=by rw [List.length_append,hk]
    rw [e]
    rw [hl] at h ⊢
    exact ⟨oo',oc',rfl,h,congrArg (fun x=>[x]) (u8E_app rfl)⟩
  refine enter_f Tryd.func26 rfl rfl ⟨trivial,paCells_lt 0 _,trivial⟩ fun w=>?_
  (repeat (first | refine cj_seq ?_ | refine cjr TT rfl ?_ | refine oj_then ?_ | refine cj_block ?_))
  refine cj_if rfl (fun h=>?_) (fun h0=>?_)
  · have h:=of_decide_eq_true (show decide (kd=0)=true from h)
    (repeat (first | refine cj_seq ?_ | refine cjr TT rfl ?_))
    refine oj_append_lit TT 0 rfl rfl rfl rfl rfl rfl rfl rfl rfl rfl rfl rfl rfl rfl rfl rfl rfl rfl (by (repeat' (first | exact trivial | refine AllLt.of ?_ | constructor))) rfl (by omega) (by show (o.length+1)*1<=_;omega) fun oo' oc' hoc'=>oj_run TT rfl ?_
    (repeat (first | refine oj_then ?_ | refine cj_ret ?_ | refine nj_then_ret ?_ | refine nj_block_ret ?_))
    refine nj_fret TT rfl fun β w' _ _=>?_
    have e:putG ⟨kd,b,n,s,i⟩=[16]:=by unfold putG;dsimp only;rw [if_pos h]
    exact hfin _ e rfl oo' oc' hoc'
  have h0:=of_decide_eq_false (show decide (kd=0)=false from h0)
  (repeat (first | refine cj_seq ?_ | refine cjr TT rfl ?_))
  refine oj_split 16 rfl (fun h1=>?_) (fun h1=>?_)
  · have h1:=of_decide_eq_true (show decide (kd=1)=true from h1)
    refine oj_run TT rfl ?_
    (repeat refine oj_then ?_)
    refine cj_if rfl (fun hb=>?_) (fun hb=>?_)
    · have hb:b=true:=hb
      (repeat (first | refine cj_seq ?_ | refine cjr TT rfl ?_))
      refine oj_append_lit TT 0 rfl rfl rfl rfl rfl rfl rfl rfl rfl rfl rfl rfl rfl rfl rfl rfl rfl rfl (by (repeat' (first | exact trivial | refine AllLt.of ?_ | constructor))) rfl (by omega) (by show (o.length+1)*1<=_;omega) fun oo' oc' hoc'=>oj_run TT rfl ?_
      (repeat (first | refine oj_then ?_ | refine cj_ret ?_ | refine nj_then_ret ?_ | refine nj_block_ret ?_))
      refine nj_fret TT rfl fun β w' _ _=>?_
      have e:putG ⟨kd,b,n,s,i⟩=[33]:=by unfold putG;dsimp only;rw [if_neg h0,if_pos h1,hb];rfl
      exact hfin _ e rfl oo' oc' hoc'
    · have hb:b=false:=hb
      (repeat (first | refine cj_seq ?_ | refine cjr TT rfl ?_ | refine oj_then ?_))
      refine cj_if rfl (fun _=>?_) (fun h=>absurd h1 (of_decide_eq_false (show decide (kd=1)=false from h)))
      (repeat (first | refine cj_seq ?_ | refine cjr TT rfl ?_))
      refine oj_append_lit TT 0 rfl rfl rfl rfl rfl rfl rfl rfl rfl rfl rfl rfl rfl rfl rfl rfl rfl rfl (by (repeat' (first | exact trivial | refine AllLt.of ?_ | constructor))) rfl (by omega) (by show (o.length+1)*1<=_;omega) fun oo' oc' hoc'=>oj_run TT rfl ?_
      (repeat (first | refine oj_then ?_ | refine cj_ret ?_ | refine nj_then_ret ?_ | refine nj_block_ret ?_))
      refine nj_fret TT rfl fun β w' _ _=>?_
      have e:putG ⟨kd,b,n,s,i⟩=[32]:=by unfold putG;dsimp only;rw [if_neg h0,if_pos h1,hb];rfl
      exact hfin _ e rfl oo' oc' hoc'
  have h1:=of_decide_eq_false (show decide (kd=1)=false from h1)
  refine oj_run TT rfl ?_
  (repeat (first | refine cj_seq ?_ | refine cjr TT rfl ?_ | refine oj_then ?_ | refine cj_if_f rfl ?_))
  refine cj_if rfl (fun h=>absurd (of_decide_eq_true (show decide (kd=1)=true from h)) h1) (fun _=>?_)
  (repeat (first | refine cj_seq ?_ | refine cjr TT rfl ?_))
  refine oj_split 34 rfl (fun h2=>?_) (fun h2=>?_)
  · have h2:=of_decide_eq_true (show decide (kd=2)=true from h2)
    have hs:=hnum h2
    refine oj_run TT rfl ?_
    (repeat refine oj_then ?_)
    refine cj_if rfl (fun hz=>?_) (fun hz=>?_)
    · have hz:n.dg.size=0:=by have:=of_decide_eq_true hz;rw [this];rfl
      (repeat (first | refine cj_seq ?_ | refine cjr TT rfl ?_))
      refine oj_append_lit TT 0 rfl rfl rfl rfl rfl rfl rfl rfl rfl rfl rfl rfl rfl rfl rfl rfl rfl rfl (by (repeat' (first | exact trivial | refine AllLt.of ?_ | constructor))) rfl (by omega) (by show (o.length+1)*1<=_;omega) fun oo' oc' hoc'=>oj_run TT rfl ?_
      (repeat (first | refine oj_then ?_ | refine cj_ret ?_ | refine nj_then_ret ?_ | refine nj_block_ret ?_))
      refine nj_fret TT rfl fun β w' _ _=>?_
      have e:putG ⟨kd,b,n,s,i⟩=[49]:=by unfold putG;dsimp only;rw [if_neg h0,if_neg h1,if_pos h2,if_pos hz]
      exact hfin _ e rfl oo' oc' hoc'
    have hz:n.dg.size≠0:=fun h=>by
      refine absurd ?_ (of_decide_eq_false hz)
      obtain ⟨l,hl⟩:=mkB_ex n.dg
      show n.dg=_
      rw [hl,mkB_size] at h
      rw [hl,List.eq_nil_of_length_eq_zero h]
      rfl
    have hsl:=size_le hs hz
    (repeat (first | refine cj_seq ?_ | refine cjr TT rfl ?_))
    refine oj_split 47 rfl (fun _=>?_) (fun h=>absurd h2 (of_decide_eq_false (show decide (kd=2)=false from h)))
    refine oj_run TT rfl ?_
    (repeat refine oj_then ?_)
    refine cj_if rfl (fun hn=>?_) (fun hn=>?_)
    · have hn:n.neg=true:=hn
      (repeat refine cj_seq ?_)
      refine cj_drawB 9 [0,3,8] [(0,.loc 49,paCells ⟨kd,b,n,s,i⟩)] mixed (by kernel_rfl) rfl (subH_of (by (repeat first | exact trivial | refine ⟨rfl,?_⟩))) ?_
      refine gb_val (i:=0) TT rfl (by kernel_rfl) (by kernel_rfl) rfl rfl rfl rfl rfl ?_
      refine gb_val (i:=3) TT rfl (by kernel_rfl) (by kernel_rfl) rfl rfl rfl rfl rfl ?_
      refine gb_val (i:=4) TT rfl (by kernel_rfl) (by kernel_rfl) rfl rfl rfl rfl rfl ?_
      refine gb_one (i:=1) (by kernel_rfl) ?_
      refine gb_new TT rfl rfl rfl rfl rfl ?_
      refine gb_one (i:=2) (by kernel_rfl) ?_
      refine gb_append_lit TT 0 rfl rfl rfl rfl rfl rfl rfl rfl rfl rfl rfl rfl rfl rfl rfl rfl rfl rfl (by (repeat' (first | exact trivial | refine AllLt.of ?_ | constructor))) rfl (by omega) (by show (o.length+1)*1<=_;omega) fun o1 c1 hc1=>?_
      refine gb_order [(5,.keep),(6,.keep),(7,.sink),(8,.pure)] rfl rfl (by kernel_rfl) ?_
      refine oj_run TT rfl ?_
      refine oj_callS rfl rfl rfl rfl rfl Tryd.call36 ⟨decCells_lt 0 n,trivial⟩ (size_c σ n hs hz) fun v s1 hle1 ⟨ao,ac,hv,HS⟩=>⟨.a (.v (.slice ao (sizeG n).length ac)),trivial,hv.symm,?_⟩
      refine oj_run TT rfl ?_
      refine oj_callS rfl rfl rfl rfl rfl Tryd.call35 ⟨trivial,trivial⟩ (turned_c s1 (sizeG n) (by omega) ao ac HS) fun v s2 hle2 ⟨bo,bc,hv,HT⟩=>⟨.a (.v (.slice bo (sizeG n).length bc)),trivial,hv.symm,?_⟩
      refine oj_run TT rfl ?_
      refine oj_append_sl TT 0 rfl rfl rfl rfl rfl rfl rfl HT rfl rfl rfl rfl rfl rfl rfl rfl rfl (fun r hr=>(u8Rows_all _ r hr).2.2) (by omega) (by show (o.length+1+(sizeG n).length)*1<=_;omega) fun o2 c2 hc2=>oj_run TT rfl ?_
      (repeat (first | refine oj_then ?_ | refine cj_ret ?_ | refine nj_then_ret ?_ | refine nj_block_ret ?_))
      refine nj_fret TT rfl fun β w' _ _=>?_
      have e:putG ⟨kd,b,n,s,i⟩=48::turnG (sizeG n):=by unfold putG;dsimp only;rw [if_neg h0,if_neg h1,if_pos h2,if_neg hz,if_pos hn]
      have hx:(u8Xs o++[.int .u8 48])++(u8Rows (turnG (sizeG n))).flatten.map AT.val=u8Xs o++u8Xs (48::turnG (sizeG n)):=by rw [u8Xs_flat,List.append_assoc];rfl
      have hf:=hfin _ e (k:=1+(sizeG n).length) (by rw [List.length_cons,turnG_len];omega) o2 c2 (by omega)
      rw [<-hx,<-Nat.add_assoc] at hf
      exact hf
    · have hn:n.neg=false:=hn
      (repeat (first | refine cj_seq ?_ | refine cjr TT rfl ?_ | refine oj_then ?_))
      refine cj_if rfl (fun _=>?_) (fun h=>absurd h2 (of_decide_eq_false (show decide (kd=2)=false from h)))
      (repeat refine cj_seq ?_)
      refine cj_drawB 8 [0,3,7] [(0,.loc 49,paCells ⟨kd,b,n,s,i⟩)] mixed (by kernel_rfl) rfl (subH_of (by (repeat first | exact trivial | refine ⟨rfl,?_⟩))) ?_
      refine gb_val (i:=0) TT rfl (by kernel_rfl) (by kernel_rfl) rfl rfl rfl rfl rfl ?_
      refine gb_val (i:=3) TT rfl (by kernel_rfl) (by kernel_rfl) rfl rfl rfl rfl rfl ?_
      refine gb_val (i:=4) TT rfl (by kernel_rfl) (by kernel_rfl) rfl rfl rfl rfl rfl ?_
      refine gb_one (i:=1) (by kernel_rfl) ?_
      refine gb_new TT rfl rfl rfl rfl rfl ?_
      refine gb_one (i:=2) (by kernel_rfl) ?_
      refine gb_append_lit TT 0 rfl rfl rfl rfl rfl rfl rfl rfl rfl rfl rfl rfl rfl rfl rfl rfl rfl rfl (by (repeat' (first | exact trivial | refine AllLt.of ?_ | constructor))) rfl (by omega) (by show (o.length+1)*1<=_;omega) fun o1 c1 hc1=>?_
      refine gb_order [(5,.keep),(6,.sink),(7,.pure)] rfl rfl (by kernel_rfl) ?_
      refine oj_run TT rfl ?_
      refine oj_callS rfl rfl rfl rfl rfl Tryd.call36 ⟨decCells_lt 0 n,trivial⟩ (size_c σ n hs hz) fun v s1 hle1 ⟨ao,ac,hv,HS⟩=>⟨.a (.v (.slice ao (sizeG n).length ac)),trivial,hv.symm,?_⟩
      refine oj_run TT rfl ?_
      refine oj_append_sl TT 0 rfl rfl rfl rfl rfl rfl rfl HS rfl rfl rfl rfl rfl rfl rfl rfl rfl (fun r hr=>(u8Rows_all _ r hr).2.2) (by omega) (by show (o.length+1+(sizeG n).length)*1<=_;omega) fun o2 c2 hc2=>oj_run TT rfl ?_
      (repeat (first | refine oj_then ?_ | refine cj_ret ?_ | refine nj_then_ret ?_ | refine nj_block_ret ?_))
      refine nj_fret TT rfl fun β w' _ _=>?_
      have e:putG ⟨kd,b,n,s,i⟩=50::sizeG n:=by unfold putG;dsimp only;rw [if_neg h0,if_neg h1,if_pos h2,if_neg hz,if_neg (by rw [hn];decide)]
      have hx:(u8Xs o++[.int .u8 50])++(u8Rows (sizeG n)).flatten.map AT.val=u8Xs o++u8Xs (50::sizeG n):=by rw [u8Xs_flat,List.append_assoc];rfl
      have hf:=hfin _ e (k:=1+(sizeG n).length) (by rw [List.length_cons];omega) o2 c2 (by omega)
      rw [<-hx,<-Nat.add_assoc] at hf
      exact hf
  have h2:=of_decide_eq_false (show decide (kd=2)=false from h2)
  refine oj_run TT rfl ?_
  (repeat (first | refine cj_seq ?_ | refine cjr TT rfl ?_ | refine oj_then ?_ | refine cj_if_f rfl ?_))
  refine oj_split 47 rfl (fun h=>absurd (of_decide_eq_true (show decide (kd=2)=true from h)) h2) (fun _=>?_)
  refine oj_run TT rfl ?_
  (repeat (first | refine cj_seq ?_ | refine cjr TT rfl ?_ | refine oj_then ?_ | refine cj_if_f rfl ?_))
  refine cj_if rfl (fun h=>absurd (of_decide_eq_true (show decide (kd=2)=true from h)) h2) (fun _=>?_)
  (repeat (first | refine cj_seq ?_ | refine cjr TT rfl ?_ | refine oj_then ?_))
  refine cj_if rfl (fun h3=>?_) (fun h3=>?_)
  · have h3:=of_decide_eq_true (show decide (kd=3)=true from h3)
    (repeat (first | refine cj_seq ?_ | refine cjr TT rfl ?_))
    have hel:=esc_len s.data.toList
    have hsl:s.data.toList.length=s.size:=Array.length_toList
    rw [hsl] at hel
    refine oj_append_lit TT 0 rfl rfl rfl rfl rfl rfl rfl rfl rfl rfl rfl rfl rfl rfl rfl rfl rfl rfl (by (repeat' (first | exact trivial | refine AllLt.of ?_ | constructor))) rfl (by omega) (by show (o.length+1)*1<=_;omega) fun o1 c1 hc1=>oj_run TT rfl ?_
    (repeat (first | refine cj_seq ?_ | refine cjr TT rfl ?_ | refine oj_then ?_))
    refine oj_callP rfl rfl rfl rfl rfl Tryd.call37 (by (repeat' (first | exact trivial | constructor))) (ReplaceAll_c σ m hm s hps) fun v hv=>⟨.a (.v (.string (mkB (escG s.data.toList)))),trivial,hv.symm,?_⟩
    have e:putG ⟨kd,b,n,s,i⟩=64::(escG s.data.toList++[0,0]):=by unfold putG;dsimp only;rw [if_neg h0,if_neg h1,if_neg h2,if_pos h3]
    generalize escG s.data.toList=E at *
    have hE:=mkB_size E
    refine oj_run TT rfl ?_
    refine oj_append_str TT 0 rfl rfl rfl rfl rfl rfl rfl rfl rfl rfl rfl rfl rfl rfl rfl rfl rfl (by rw [hE];omega) (by rw [hE];show (o.length+1+E.length)*1<=_;omega) fun o2 c2 hc2=>?_
    rw [hE] at hc2 ⊢
    refine oj_run TT rfl ?_
    (repeat (first | refine cj_seq ?_ | refine cjr TT rfl ?_ | refine oj_then ?_))
    refine oj_append_lit TT 0 rfl rfl rfl rfl rfl rfl rfl rfl rfl rfl rfl rfl rfl rfl rfl rfl rfl rfl (by (repeat' (first | exact trivial | refine AllLt.of ?_ | constructor))) rfl (by omega) (by show (o.length+1+E.length+2)*1<=_;omega) fun o3 c3 hc3=>oj_run TT rfl ?_
    (repeat (first | refine oj_then ?_ | refine cj_ret ?_ | refine nj_then_ret ?_ | refine nj_block_ret ?_))
    refine nj_fret TT rfl fun β w' _ _=>?_
    have hx:(u8Xs o++[.int .u8 64])++u8Xs (mkB E).data.toList++[.int .u8 0,.int .u8 0]=u8Xs o++u8Xs (64::(E++[0,0])):=by
      rw [mkB_list,show (64:UInt8)::(E++[0,0])=[64]++E++[0,0] by simp,u8Xs_append,u8Xs_append,List.append_assoc,List.append_assoc,List.append_assoc]
      rfl
    have hf:=hfin _ e (k:=1+E.length+2) (by rw [List.length_cons,List.length_append];show _=E.length+2+1;omega) o3 c3 (by omega)
    rw [<-hx,<-Nat.add_assoc,<-Nat.add_assoc] at hf
    exact hf
  have h3:=of_decide_eq_false (show decide (kd=3)=false from h3)
  (repeat (first | refine cj_seq ?_ | refine cjr TT rfl ?_ | refine cj_skip ?_ | refine nj_then ?_ | refine nj_block ?_ | (refine oj_conv TT _ rfl rfl rfl rfl rfl rfl rfl rfl rfl ?_;refine oj_run TT rfl ?_) | (refine oj_bshr rfl rfl rfl rfl rfl rfl (by decide) ?_;refine oj_run TT rfl ?_)))
  have e1:IntKind.u8.wrap (bShr .i64 i 24)=((byteOf (i / 16777216)).toNat:Int):=by rw [wrap8,shrA]
  have e2:IntKind.u8.wrap (bShr .i64 i 16)=((byteOf (i / 65536)).toNat:Int):=by rw [wrap8,shrB]
  have e3:IntKind.u8.wrap (bShr .i64 i 8)=((byteOf (i / 256)).toNat:Int):=by rw [wrap8,shr8]
  have e4:IntKind.u8.wrap i=((byteOf i).toNat:Int):=wrap8 i
  dsimp only
  rw [e1,e2,e3,e4]
  refine oj_append_lit TT 0 rfl rfl rfl rfl rfl rfl rfl rfl rfl rfl rfl rfl rfl rfl rfl rfl rfl rfl (by (repeat' (first | exact trivial | refine AllLt.of ?_ | constructor))) rfl (by omega) (by show (o.length+5)*1<=_;omega) fun o1 c1 hc1=>oj_run TT rfl ?_
  (repeat (first | refine oj_then ?_ | refine cj_ret ?_))
  refine nj_fret TT rfl fun β w' _ _=>?_
  have e:putG ⟨kd,b,n,s,i⟩=[80,byteOf (i / 16777216),byteOf (i / 65536),byteOf (i / 256),byteOf i]:=by unfold putG;dsimp only;rw [if_neg h0,if_neg h1,if_neg h2,if_neg h3]
  exact hfin _ e rfl o1 c1 hc1
end Go.Sy
namespace Go.Sy
open Go.Proofs
def paE (t:Nat) (ao:Option Addr) (cap:Nat) (l:List GPart):AE:=⟨ao,l.length,cap,t,7,paXs l⟩
theorem pa_sealed {t:Nat} {σ:Snap} {ao:Option Addr} {cap:Nat} {l:List GPart} (hS:ArrSealed σ (paE t ao cap l)) (hc:l.length<=cap):SlAt σ ao l.length cap 7 (paRows l) :=
  hS.sl (E:=paE t ao cap l) rfl (fun r hr=>⟨(paRows_all l r hr).1,(paRows_all l r hr).2.1⟩) (by simp [paRows]) rfl hc
structure PaS where
  k:Nat
  oo:Option Addr
  oc:Nat
set_option maxRecDepth 100000 in
set_option maxHeartbeats 1000000 in
theorem ours_c (σ:Snap) (xs:List GPart) (hl:xs.length<=1000000) (ao:Option Addr) (cap:Nat) (H:SlAt σ ao xs.length cap 7 (paRows xs)) :
    PureS Tryd.prog 13 [.a (.v (.slice ao xs.length cap))] σ (fun v σ'=>∃ bo bc,v=.slice bo xs.length bc/\SlAt σ' bo xs.length bc 7 (paRows xs)):=by
  refine enter_s Tryd.func13 rfl rfl (by (repeat' (first | exact trivial | constructor))) fun w=>?_
  (repeat (first | refine cj_seq ?_ | refine cjr TT rfl ?_ | refine oj_then ?_ | refine cj_block ?_))
  refine cj_nilarr 49 7 ?_
  refine cj_loop (fun (_:PaS)=>σ) (fun t=>[(0,.a (.v (.slice ao xs.length cap))),(3,.a (.v (.slice t.oo (xs.take t.k).length t.oc))),(4,.a (.v (.int .i64 (t.k:Nat))))]) (fun _=>[]) (fun t=>[paE 49 t.oo t.oc (xs.take t.k)]) 0
    (fun t=>t.k<=xs.length/\t.k<=t.oc) (fun t=>xs.length - t.k) ⟨0,none,0⟩ ⟨Nat.zero_le _,Nat.le_refl _⟩ rfl (by (repeat first | exact trivial | refine ⟨rfl,?_⟩)) (by (repeat first | exact trivial | refine ⟨rfl,?_⟩)) rfl (by (repeat' (first | exact trivial | constructor))) (by (repeat' exact trivial)) fun ⟨k,bo,bc⟩ ⟨hk,hbc⟩=>?_
  dsimp only at hk hbc ⊢
  (repeat (first | refine cj_seq ?_ | refine cjr TT rfl ?_ | refine oj_then ?_))
  refine cj_if rfl (fun h=>?_) (fun h=>?_)
  rotate_left
  · have hk0:k=xs.length:=by have:=of_decide_eq_false h;omega
    subst hk0
    rw [List.take_length]
    (repeat (first | refine cj_seq ?_ | refine cjr TT rfl ?_ | refine oj_then ?_ | refine cj_exit ?_ | refine cj_ret ?_ | refine nj_then ?_ | refine nj_then_exit ?_ | refine nj_block_out ?_))
    refine nj_seal 0 rfl rfl fun s2 hle2 hS=>?_
    refine nj_ret TT rfl fun β w' _ _=>?_
    exact ⟨bo,bc,rfl,pa_sealed hS hbc⟩
  have hkl:k<xs.length:=by have:=of_decide_eq_true h;omega
  have hra:=paRows_get (List.getElem?_eq_getElem hkl)
  have htk:xs.take (k+1)=xs.take k++[xs[k]]:=List.take_succ_eq_append_getElem hkl
  have hlk:(xs.take k).length=k:=by rw [List.length_take];omega
  generalize xs[k]=x at *
  have hlk1:(xs.take (k+1)).length=k+1:=by rw [List.length_take];omega
  have hE0:paE 49 bo bc (xs.take k)=⟨bo,k,bc,49,7,paXs (xs.take k)⟩:=by unfold paE;rw [hlk]
  rw [hlk,hE0]
  (repeat (first | refine cj_seq ?_ | refine cj_skip ?_ | refine cj_block ?_ | refine nj_then ?_))
  refine cj_draw [(0,.pure),(1,.pure),(2,.pure),(3,.pure),(4,.pure),(5,.quiet),(6,.pure),(7,.pure),(8,.pure),(9,.pure),(10,.quiet),(11,.pure),(12,.pure),(13,.pure),(14,.pure),(15,.quiet),(16,.pure),(17,.pure),(18,.pure),(19,.pure),(20,.quiet),(21,.pure),(22,.pure),(23,.pure),(24,.pure),(25,.quiet),(26,.pure),(27,.keep),(28,.sink),(29,.pure)] mixed (by kernel_rfl) (oj_run TT rfl ?_)
  refine oj_idx TT rfl rfl rfl rfl rfl rfl rfl rfl rfl H (by omega) hra (oj_run TT rfl ?_)
  refine oj_idx TT rfl rfl rfl rfl rfl rfl rfl rfl rfl H (by omega) hra (oj_run TT rfl ?_)
  refine oj_idx TT rfl rfl rfl rfl rfl rfl rfl rfl rfl H (by omega) hra (oj_run TT rfl ?_)
  refine oj_idx TT rfl rfl rfl rfl rfl rfl rfl rfl rfl H (by omega) hra (oj_run TT rfl ?_)
  refine oj_idx TT rfl rfl rfl rfl rfl rfl rfl rfl rfl H (by omega) hra (oj_run TT rfl ?_)
  refine oj_append_lit TT 0 rfl rfl rfl rfl rfl rfl rfl rfl rfl rfl rfl rfl rfl rfl rfl rfl rfl rfl (by (repeat' (first | exact trivial | refine AllLt.of ?_ | constructor))) rfl (by omega) (by show (k+1)*72<=_;omega) fun ao' cap' hcap'=>oj_run TT rfl ?_
  (repeat (first | refine cjr TT rfl ?_ | refine oj_nil ?_ | refine nj_then ?_ | refine nj_block ?_ | (refine oj_add rfl rfl rfl rfl rfl rfl (by omega) ?_;refine oj_run TT rfl ?_)))
  refine nj_again (⟨k+1,ao',cap'⟩:PaS) ⟨hkl,hcap'⟩ (by dsimp only;omega) rfl ?_ (by (repeat first | exact trivial | refine ⟨rfl,?_⟩)) ?_ (by (repeat' (first | exact trivial | constructor))) (by (repeat' exact trivial))
  · dsimp only
    rw [hlk1]
    (repeat first | exact trivial | refine ⟨rfl,?_⟩)
  · show [_]=[_]
    dsimp only
    unfold paE
    rw [hlk1,htk,paXs_append]
    rfl
set_option maxRecDepth 100000 in
set_option maxHeartbeats 1000000 in
theorem theirs_c (σ:Snap) (xs:List GPart) (hl:xs.length<=1000000) (ao:Option Addr) (cap:Nat) (H:SlAt σ ao xs.length cap 7 (paRows xs)) :
    PureS Tryd.prog 16 [.a (.v (.slice ao xs.length cap))] σ (fun v σ'=>∃ bo bc,v=.slice bo xs.length bc/\SlAt σ' bo xs.length bc 7 (paRows xs)):=by
  refine enter_s Tryd.func16 rfl rfl (by (repeat' (first | exact trivial | constructor))) fun w=>?_
  (repeat (first | refine cj_seq ?_ | refine cjr TT rfl ?_ | refine oj_then ?_ | refine cj_block ?_))
  refine cj_nilarr 52 7 ?_
  refine cj_loop (fun (_:PaS)=>σ) (fun t=>[(0,.a (.v (.slice ao xs.length cap))),(3,.a (.v (.slice t.oo (xs.take t.k).length t.oc))),(4,.a (.v (.int .i64 (t.k:Nat))))]) (fun _=>[]) (fun t=>[paE 52 t.oo t.oc (xs.take t.k)]) 0
    (fun t=>t.k<=xs.length/\t.k<=t.oc) (fun t=>xs.length - t.k) ⟨0,none,0⟩ ⟨Nat.zero_le _,Nat.le_refl _⟩ rfl (by (repeat first | exact trivial | refine ⟨rfl,?_⟩)) (by (repeat first | exact trivial | refine ⟨rfl,?_⟩)) rfl (by (repeat' (first | exact trivial | constructor))) (by (repeat' exact trivial)) fun ⟨k,bo,bc⟩ ⟨hk,hbc⟩=>?_
  dsimp only at hk hbc ⊢
  (repeat (first | refine cj_seq ?_ | refine cjr TT rfl ?_ | refine oj_then ?_))
  refine cj_if rfl (fun h=>?_) (fun h=>?_)
  rotate_left
  · have hk0:k=xs.length:=by have:=of_decide_eq_false h;omega
    subst hk0
    rw [List.take_length]
    (repeat (first | refine cj_seq ?_ | refine cjr TT rfl ?_ | refine oj_then ?_ | refine cj_exit ?_ | refine cj_ret ?_ | refine nj_then ?_ | refine nj_then_exit ?_ | refine nj_block_out ?_))
    refine nj_seal 0 rfl rfl fun s2 hle2 hS=>?_
    refine nj_ret TT rfl fun β w' _ _=>?_
    exact ⟨bo,bc,rfl,pa_sealed hS hbc⟩
  have hkl:k<xs.length:=by have:=of_decide_eq_true h;omega
  have hra:=paRows_get (List.getElem?_eq_getElem hkl)
  have htk:xs.take (k+1)=xs.take k++[xs[k]]:=List.take_succ_eq_append_getElem hkl
  have hlk:(xs.take k).length=k:=by rw [List.length_take];omega
  generalize xs[k]=x at *
  have hlk1:(xs.take (k+1)).length=k+1:=by rw [List.length_take];omega
  have hE0:paE 52 bo bc (xs.take k)=⟨bo,k,bc,52,7,paXs (xs.take k)⟩:=by unfold paE;rw [hlk]
  rw [hlk,hE0]
  (repeat (first | refine cj_seq ?_ | refine cj_skip ?_ | refine cj_block ?_ | refine nj_then ?_))
  refine cj_draw [(0,.pure),(1,.pure),(2,.pure),(3,.pure),(4,.pure),(5,.quiet),(6,.pure),(7,.pure),(8,.pure),(9,.pure),(10,.quiet),(11,.pure),(12,.pure),(13,.pure),(14,.pure),(15,.quiet),(16,.pure),(17,.pure),(18,.pure),(19,.pure),(20,.quiet),(21,.pure),(22,.pure),(23,.pure),(24,.pure),(25,.quiet),(26,.pure),(27,.keep),(28,.sink),(29,.pure)] mixed (by kernel_rfl) (oj_run TT rfl ?_)
  refine oj_idx TT rfl rfl rfl rfl rfl rfl rfl rfl rfl H (by omega) hra (oj_run TT rfl ?_)
  refine oj_idx TT rfl rfl rfl rfl rfl rfl rfl rfl rfl H (by omega) hra (oj_run TT rfl ?_)
  refine oj_idx TT rfl rfl rfl rfl rfl rfl rfl rfl rfl H (by omega) hra (oj_run TT rfl ?_)
  refine oj_idx TT rfl rfl rfl rfl rfl rfl rfl rfl rfl H (by omega) hra (oj_run TT rfl ?_)
  refine oj_idx TT rfl rfl rfl rfl rfl rfl rfl rfl rfl H (by omega) hra (oj_run TT rfl ?_)
  refine oj_append_lit TT 0 rfl rfl rfl rfl rfl rfl rfl rfl rfl rfl rfl rfl rfl rfl rfl rfl rfl rfl (by (repeat' (first | exact trivial | refine AllLt.of ?_ | constructor))) rfl (by omega) (by show (k+1)*72<=_;omega) fun ao' cap' hcap'=>oj_run TT rfl ?_
  (repeat (first | refine cjr TT rfl ?_ | refine oj_nil ?_ | refine nj_then ?_ | refine nj_block ?_ | (refine oj_add rfl rfl rfl rfl rfl rfl (by omega) ?_;refine oj_run TT rfl ?_)))
  refine nj_again (⟨k+1,ao',cap'⟩:PaS) ⟨hkl,hcap'⟩ (by dsimp only;omega) rfl ?_ (by (repeat first | exact trivial | refine ⟨rfl,?_⟩)) ?_ (by (repeat' (first | exact trivial | constructor))) (by (repeat' exact trivial))
  · dsimp only
    rw [hlk1]
    (repeat first | exact trivial | refine ⟨rfl,?_⟩)
  · show [_]=[_]
    dsimp only
    unfold paE
    rw [hlk1,htk,paXs_append]
    rfl
def fewG (l:List GPart):Bool:=decide (l.length<=40)&&l.all fun p=>decide (p.s.size<=300)&&decide (p.n.dg.size<=200)
theorem few_iff {l:List GPart}:fewG l=true↔l.length<=40/\∀ p∈l,p.s.size<=300/\p.n.dg.size<=200:=by simp [fewG]
set_option maxRecDepth 100000 in
set_option maxHeartbeats 1000000 in
theorem Few_c (σ:Snap) (l:List GPart) (hl:l.length<=140737488355328) (ao:Option Addr) (cap:Nat) (H:SlAt σ ao l.length cap 7 (paRows l)) :
    PlainS Tryd.prog 11 [.a (.v (.slice ao l.length cap))] σ (fun v=>v=.bool (fewG l)):=by
  refine enter_p Tryd.func11 rfl rfl (by (repeat' (first | exact trivial | constructor))) fun w=>?_
  (repeat (first | refine cj_seq ?_ | refine cjr TT rfl ?_ | refine oj_then ?_))
  refine cj_if rfl (fun h=>?_) (fun h=>?_)
  · have h:=of_decide_eq_true h
    (repeat (first | refine cj_seq ?_ | refine cjr TT rfl ?_ | refine oj_then ?_ | refine cj_ret ?_ | refine nj_then_ret ?_))
    refine nj_ret TT rfl fun β w' _ _=>?_
    show Value.bool false=.bool (decide (l.length<=40)&&_)
    rw [decide_eq_false (by omega),Bool.false_and]
  have h40:l.length<=40:=by have:=of_decide_eq_false h;omega
  (repeat (first | refine cj_seq ?_ | refine cjr TT rfl ?_ | refine oj_then ?_ | refine cj_skip ?_ | refine cj_block ?_ | refine nj_then ?_))
  refine cj_loop (fun (_:Nat)=>σ) (fun k=>[(0,.a (.v (.slice ao l.length cap))),(3,.a (.v (.int .i64 k)))]) (fun _=>[]) (fun _=>[]) 0 (fun k=>k<=l.length/\∀ p∈l.take k,p.s.size<=300/\p.n.dg.size<=200) (fun k=>l.length - k) 0 ⟨Nat.zero_le _,fun p h=>(by cases h)⟩ rfl (by (repeat first | exact trivial | refine ⟨rfl,?_⟩)) (by (repeat first | exact trivial | refine ⟨rfl,?_⟩)) rfl (by (repeat' (first | exact trivial | constructor))) (by (repeat' exact trivial)) fun k ⟨hk,hw⟩=>?_
  (repeat (first | refine cj_seq ?_ | refine cjr TT rfl ?_ | refine oj_then ?_))
  refine cj_if rfl (fun h=>?_) (fun h=>?_)
  rotate_left
  · have hk0:k=l.length:=by have:=of_decide_eq_false h;omega
    rw [hk0,List.take_length] at hw
    (repeat (first | refine cj_seq ?_ | refine cjr TT rfl ?_ | refine oj_then ?_ | refine cj_exit ?_ | refine cj_ret ?_ | refine nj_then ?_ | refine nj_then_exit ?_ | refine nj_block_out ?_))
    refine nj_ret TT rfl fun β w' _ _=>?_
    rw [few_iff.2 ⟨h40,hw⟩]
    rfl
  have hkl:k<l.length:=by have:=of_decide_eq_true h;omega
  have hrow:=paRows_get (List.getElem?_eq_getElem hkl)
  have hmem:=List.getElem_mem hkl
  have htk:l.take (k+1)=l.take k++[l[k]]:=List.take_succ_eq_append_getElem hkl
  generalize l[k]=p at *
  have hbad:¬(p.s.size<=300/\p.n.dg.size<=200)->fewG l=false:=fun hn=>by
    rw [Bool.eq_false_iff]
    intro h
    exact hn ((few_iff.1 h).2 p hmem)
  (repeat (first | refine cj_seq ?_ | refine cjr TT rfl ?_ | refine cj_skip ?_ | refine cj_block ?_ | refine nj_then ?_))
  refine oj_idx TT rfl rfl rfl rfl rfl rfl rfl rfl rfl H (by omega) hrow (oj_run TT rfl ?_)
  refine oj_split 20 rfl (fun h1=>?_) (fun h1=>?_)
  · have h1:=of_decide_eq_true (show decide ((300:Int)<p.s.size)=true from h1)
    refine oj_run TT rfl ?_
    (repeat (first | refine cj_seq ?_ | refine cjr TT rfl ?_ | refine oj_then ?_ | refine cj_if_t rfl ?_ | refine cj_ret ?_ | refine nj_then_ret ?_ | refine nj_block_ret ?_))
    refine nj_ret TT rfl fun β w' _ _=>?_
    rw [hbad (by omega)]
    rfl
  have h1:=of_decide_eq_false (show decide ((300:Int)<p.s.size)=false from h1)
  refine oj_run TT rfl ?_
  refine oj_idx TT rfl rfl rfl rfl rfl rfl rfl rfl rfl H (by omega) hrow (oj_run TT rfl ?_)
  (repeat refine oj_then ?_)
  refine cj_if rfl (fun h2=>?_) (fun h2=>?_)
  · have h2:=of_decide_eq_true (show decide ((200:Int)<p.n.dg.size)=true from h2)
    (repeat (first | refine cj_seq ?_ | refine cjr TT rfl ?_ | refine oj_then ?_ | refine cj_ret ?_ | refine nj_then_ret ?_ | refine nj_block_ret ?_))
    refine nj_ret TT rfl fun β w' _ _=>?_
    rw [hbad (by omega)]
    rfl
  have h2:=of_decide_eq_false (show decide ((200:Int)<p.n.dg.size)=false from h2)
  (repeat (first | refine cjr TT rfl ?_ | refine oj_nil ?_ | refine cj_skip ?_ | refine nj_then ?_ | refine nj_block ?_ | (refine oj_add rfl rfl rfl rfl rfl rfl (by omega) ?_;refine oj_run TT rfl ?_)))
  refine nj_again (k+1) ⟨hkl,fun x hx=>?_⟩ (by omega) rfl (by (repeat first | exact trivial | refine ⟨rfl,?_⟩)) (by (repeat first | exact trivial | refine ⟨rfl,?_⟩)) rfl (by (repeat' (first | exact trivial | constructor))) (by (repeat' exact trivial))
  rw [htk] at hx
  rcases List.mem_append.1 hx with hx | hx
  · exact hw x hx
  · rw [List.mem_singleton] at hx
    subst hx
    omega
theorem partT52:PartT 52:=⟨by kernel_rfl,by kernel_rfl,by kernel_rfl,by kernel_rfl⟩
set_option maxRecDepth 100000 in
set_option maxHeartbeats 1000000 in
theorem Same_c (σ:Snap) (a b:List GPart) (hl:a.length<=140737488355328) (ao:Option Addr) (ac:Nat) (HA:SlAt σ ao a.length ac 7 (paRows a)) (bo:Option Addr) (bc:Nat) (HB:SlAt σ bo b.length bc 7 (paRows b)) :
    PlainS Tryd.prog 14 [.a (.v (.slice ao a.length ac)),.a (.v (.slice bo b.length bc))] σ (fun v=>v=.bool (decide (a=b))):=by
  refine enter_p Tryd.func14 rfl rfl (by (repeat' (first | exact trivial | constructor))) fun w=>?_
  (repeat (first | refine cj_seq ?_ | refine cjr TT rfl ?_ | refine oj_then ?_))
  refine cj_if rfl (fun h=>?_) (fun h=>?_)
  · have h:(!decide ((a.length:Int)=b.length))=true:=h
    have hne:a≠b:=fun e=>by rw [e] at h;simp at h
    (repeat (first | refine cj_seq ?_ | refine cjr TT rfl ?_ | refine oj_then ?_ | refine cj_ret ?_ | refine nj_then_ret ?_))
    refine nj_ret TT rfl fun β w' _ _=>?_
    rw [decide_eq_false hne]
    rfl
  have hlen:a.length=b.length:=by
    have h:(!decide ((a.length:Int)=b.length))=false:=h
    simp at h
    omega
  (repeat (first | refine cj_seq ?_ | refine cjr TT rfl ?_ | refine oj_then ?_ | refine cj_skip ?_ | refine cj_block ?_ | refine nj_then ?_))
  refine cj_loop (fun (_:Nat)=>σ) (fun k=>[(0,.a (.v (.slice ao a.length ac))),(1,.a (.v (.slice bo b.length bc))),(5,.a (.v (.int .i64 k)))]) (fun _=>[]) (fun _=>[]) 0 (fun k=>k<=a.length/\a.take k=b.take k) (fun k=>a.length - k) 0 ⟨Nat.zero_le _,rfl⟩ rfl (by (repeat first | exact trivial | refine ⟨rfl,?_⟩)) (by (repeat first | exact trivial | refine ⟨rfl,?_⟩)) rfl (by (repeat' (first | exact trivial | constructor))) (by (repeat' exact trivial)) fun k ⟨hk,hw⟩=>?_
  (repeat (first | refine cj_seq ?_ | refine cjr TT rfl ?_ | refine oj_then ?_))
  refine cj_if rfl (fun h=>?_) (fun h=>?_)
  rotate_left
  · have hk0:k=a.length:=by have:=of_decide_eq_false h;omega
    rw [hk0,List.take_length,hlen,List.take_length] at hw
    (repeat (first | refine cj_seq ?_ | refine cjr TT rfl ?_ | refine oj_then ?_ | refine cj_exit ?_ | refine cj_ret ?_ | refine nj_then ?_ | refine nj_then_exit ?_ | refine nj_block_out ?_))
    refine nj_ret TT rfl fun β w' _ _=>?_
    rw [decide_eq_true hw]
    rfl
  have hkl:k<a.length:=by have:=of_decide_eq_true h;omega
  have hkb:k<b.length:=by omega
  have hra:=paRows_get (List.getElem?_eq_getElem hkl)
  have hrb:=paRows_get (List.getElem?_eq_getElem hkb)
  have hta:a.take (k+1)=a.take k++[a[k]]:=List.take_succ_eq_append_getElem hkl
  have htb:b.take (k+1)=b.take k++[b[k]]:=List.take_succ_eq_append_getElem hkb
  have hab:a=b->a[k]=b[k]:=fun e=>by subst e;rfl
  generalize a[k]=x at *
  generalize b[k]=y at *
  (repeat (first | refine cj_seq ?_ | refine cj_skip ?_ | refine cj_block ?_ | refine nj_then ?_))
  refine cj_draw [(0,.pure),(1,.pure),(2,.pure),(3,.quiet),(4,.pure),(5,.pure),(6,.pure),(7,.quiet),(8,.pure)] mixed (by kernel_rfl) (oj_run TT rfl ?_)
  refine oj_idx TT rfl rfl rfl rfl rfl rfl rfl rfl rfl HA (by omega) hra (oj_run TT rfl ?_)
  refine oj_idx TT rfl rfl rfl rfl rfl rfl rfl rfl rfl HB (by omega) hrb (oj_run TT rfl ?_)
  refine oj_nePart partT52 x y rfl rfl rfl rfl rfl rfl rfl (fun _=>rfl) (fun _=>rfl) (oj_run TT rfl ?_)
  (repeat refine oj_then ?_)
  refine cj_if rfl (fun h=>?_) (fun h=>?_)
  · have h:(!decide (x=y))=true:=h
    have hne:a≠b:=fun e=>by rw [hab e] at h;simp at h
    (repeat (first | refine cj_seq ?_ | refine cjr TT rfl ?_ | refine oj_then ?_ | refine cj_ret ?_ | refine nj_then_ret ?_ | refine nj_block_ret ?_))
    refine nj_ret TT rfl fun β w' _ _=>?_
    rw [decide_eq_false hne]
    rfl
  have hxy:x=y:=by
    have h:(!decide (x=y))=false:=h
    simpa using h
  (repeat (first | refine cjr TT rfl ?_ | refine oj_nil ?_ | refine cj_skip ?_ | refine nj_then ?_ | refine nj_block ?_ | (refine oj_add rfl rfl rfl rfl rfl rfl (by omega) ?_;refine oj_run TT rfl ?_)))
  refine nj_again (k+1) ⟨hkl,by rw [hta,htb,hw,hxy]⟩ (by omega) rfl (by (repeat first | exact trivial | refine ⟨rfl,?_⟩)) (by (repeat first | exact trivial | refine ⟨rfl,?_⟩)) rfl (by (repeat' (first | exact trivial | constructor))) (by (repeat' exact trivial))
end Go.Sy
namespace Go.Sy
open Go.Proofs
theorem put_len {p:GPart} (h:Rt p):(putG p).length<=2*p.s.size+60:=by
  cases h with
  | null=>show 1<=_;omega
  | bool b=>show 1<=_;omega
  | num n h =>
    unfold putG
    dsimp only
    rw [if_neg (by decide),if_neg (by decide),if_pos rfl]
    by_cases h0:n.dg.size=0
    · rw [if_pos h0];show 1<=_;omega
    have:=size_le h h0
    rw [if_neg h0]
    split<;>rw [List.length_cons]
    · rw [turnG_len];omega
    · omega
  | str s =>
    have:=esc_len s.data.toList
    have hs:s.data.toList.length=s.size:=Array.length_toList
    show (64::(escG s.data.toList++[0,0])).length<=_
    rw [List.length_cons,List.length_append]
    show (escG s.data.toList).length+2+1<=2*s.size+60
    omega
  | whole i h1 h2=>show 5<=_;omega
def enK (l:List GPart) (k:Nat):List UInt8:=(l.take k).flatMap putG
theorem enK_succ {l:List GPart} {k:Nat} {p:GPart} (h:l[k]?=some p):enK l (k+1)=enK l k++putG p:=by
  obtain ⟨hk,he⟩:=List.getElem?_eq_some_iff.1 h
  unfold enK
  rw [List.take_succ_eq_append_getElem hk,he,List.flatMap_append]
  simp
theorem putF_len {l:List GPart} (h:∀ p∈l,Rt p/\p.s.size<=1000000):(l.flatMap putG).length<=l.length*2000060:=by
  induction l with
  | nil=>exact Nat.le_refl _
  | cons p l ih =>
    have h1:=ih fun q hq=>h q (List.mem_cons_of_mem p hq)
    obtain ⟨h2,h3⟩:=h p List.mem_cons_self
    have h4:=put_len h2
    rw [List.flatMap_cons,List.length_append,List.length_cons,Nat.succ_mul]
    omega
structure EnS where
  k:Nat
  oo:Option Addr
  oc:Nat
set_option maxRecDepth 100000 in
set_option maxHeartbeats 4000000 in
theorem Encode_c (σ:Snap) (m:Int) (hm:σ.cell ⟨0,0,none⟩=some (.int .i64 m)) (l:List GPart) (hl:l.length<=140737488355328) (hb:∀ p∈l,p.n.dg.size<=mostLen/\p.s.size<=1000000) (lo:Option Addr) (lc:Nat) (H:SlAt σ lo l.length lc 7 (paRows l)) :
    PureS Tryd.prog 12 [.a (.v (.slice lo l.length lc))] σ (fun v σ'=>∃ bo bc,v=.tuple #[.slice bo (encG l).1.length bc,.int .i64 (encG l).2]/\SlAt σ' bo (encG l).1.length bc 1 (u8Rows (encG l).1)):=by
  refine enter_s Tryd.func12 rfl rfl (by (repeat' (first | exact trivial | constructor))) fun w=>?_
  (repeat (first | refine cj_seq ?_ | refine cjr TT rfl ?_ | refine oj_then ?_))
  refine cj_if rfl (fun h=>?_) (fun h=>?_)
  · have h:=of_decide_eq_true (show decide ((16:Int)<l.length)=true from h)
    have e:encG l=([],4):=by unfold encG;rw [if_pos (by omega)]
    rw [e]
    (repeat (first | refine cj_seq ?_ | refine cjr TT rfl ?_ | refine oj_then ?_ | refine cj_ret ?_ | refine nj_then_ret ?_))
    refine nj_ret TT rfl fun β w' _ _=>?_
    exact ⟨none,0,rfl,SlAt.nil _ none 0 1⟩
  have h16:l.length<=16:=by have:=of_decide_eq_false (show decide ((16:Int)<l.length)=false from h);omega
  (repeat (first | refine cj_seq ?_ | refine cjr TT rfl ?_ | refine oj_then ?_ | refine cj_skip ?_ | refine cj_block ?_ | refine nj_then ?_))
  refine cj_nilarr 5 1 ?_
  refine cj_loop2 (fun (s:Snap) (_:EnS)=>s) (fun _ t=>[(4,.a (.v (.slice t.oo (enK l t.k).length t.oc))),(10,.a (.v (.slice lo l.length lc))),(11,.a (.v (.int .i64 l.length))),(12,.a (.v (.int .i64 (t.k:Nat))))]) (fun _ _=>[]) (fun _ t=>[u8E t.oo t.oc (enK l t.k)]) 0
    (fun s t=>σ.le s/\t.k<=l.length/\(enK l t.k).length<=t.oc/\∀ p∈l.take t.k,Rt p) (fun _ t=>l.length - t.k) σ ⟨0,none,0⟩ ⟨Snap.le_refl _,Nat.zero_le _,Nat.le_refl _,fun _ h=>(by cases h)⟩ rfl (by (repeat first | exact trivial | refine ⟨rfl,?_⟩)) (by (repeat first | exact trivial | refine ⟨rfl,?_⟩)) rfl (by (repeat' (first | exact trivial | constructor))) (by (repeat' exact trivial)) fun s ⟨k,oo,oc⟩ ⟨hle,hk,hoc,hr⟩=>?_
  dsimp only at hk hoc hr ⊢
  have H:=H.mono hle
  have hm:=hle.cell hm
  (repeat (first | refine cj_seq ?_ | refine cjr TT rfl ?_ | refine oj_then ?_))
  refine cj_if rfl (fun h=>?_) (fun h=>?_)
  rotate_left
  · have hk0:k=l.length:=by have:=of_decide_eq_false h;omega
    rw [hk0,List.take_length] at hr
    have e:encG l=(enK l k,0):=by
      unfold encG enK
      rw [if_neg (by omega),if_pos (all_rt.2 hr),hk0,List.take_length]
    rw [e]
    (repeat (first | refine cj_seq ?_ | refine cjr TT rfl ?_ | refine oj_then ?_ | refine cj_exit ?_ | refine cj_ret ?_ | refine nj_then ?_ | refine nj_then_exit ?_ | refine nj_block_out ?_))
    refine nj_seal 0 rfl rfl fun s1 hle1 hS=>?_
    refine nj_ret TT rfl fun β w' _ _=>?_
    exact ⟨oo,oc,rfl,u8_sealed hS hoc⟩
  have hkl:k<l.length:=by have:=of_decide_eq_true h;omega
  have hx:=List.getElem?_eq_getElem hkl
  have hmem:=List.getElem_mem hkl
  have hrow:=paRows_get hx
  have hs1:=enK_succ hx
  have htk:l.take (k+1)=l.take k++[l[k]]:=List.take_succ_eq_append_getElem hkl
  have hbk:(enK l k).length<=16*2000060:=by
    have h1:=putF_len (l:=l.take k) fun p hp=>⟨hr p hp,(hb p (List.mem_of_mem_take hp)).2⟩
    have h2:(l.take k).length<=16:=by rw [List.length_take];omega
    exact Nat.le_trans h1 (Nat.mul_le_mul_right _ h2)
  obtain ⟨hb1,hb2⟩:=hb l[k] hmem
  generalize l[k]=p at *
  (repeat (first | refine cj_seq ?_ | refine cjr TT rfl ?_ | refine cj_skip ?_ | refine cj_block ?_ | refine nj_then ?_))
  refine oj_idx TT rfl rfl rfl rfl rfl rfl rfl rfl rfl H (by omega) hrow (oj_run TT rfl ?_)
  (repeat (first | refine cj_seq ?_ | refine cjr TT rfl ?_ | refine oj_then ?_))
  refine oj_callP rfl rfl rfl rfl rfl Tryd.call25 (by (repeat' (first | exact trivial | refine AllLt.of ?_ | constructor))) (right_c s p hb1) fun v hv=>⟨.a (.b (rightG p)),trivial,hv.symm,?_⟩
  refine oj_run TT rfl ?_
  (repeat refine oj_then ?_)
  refine cj_if rfl (fun hq=>?_) (fun hq=>?_)
  · have hq:rightG p=false:=by simpa using hq
    have e:encG l=([],1):=by
      unfold encG
      rw [if_neg (by omega),if_neg]
      intro ha
      have:=List.all_eq_true.1 ha p hmem
      rw [hq] at this
      cases this
    rw [e]
    (repeat (first | refine cj_seq ?_ | refine cjr TT rfl ?_ | refine oj_then ?_ | refine cj_ret ?_ | refine nj_then_ret ?_ | refine nj_block_ret ?_))
    refine nj_ret TT rfl fun β w' _ _=>?_
    exact ⟨none,0,rfl,SlAt.nil _ none 0 1⟩
  have hq:rightG p=true:=by simpa using hq
  have hrt:=(right_iff p).1 hq
  (repeat (first | refine cjr TT rfl ?_ | refine cj_skip ?_ | refine nj_then ?_))
  refine oj_callF [0] (A0:=[u8E oo oc (enK l k)]) (Ar:=[]) rfl rfl rfl rfl rfl rfl rfl Tryd.call26 ⟨trivial,paCells_lt 0 p,trivial⟩ (put_c s m hm p hrt hb2 (enK l k) (by omega) oo oc hoc) fun v s1 A' hle1 ⟨o1,c1,hv,hc1,hA⟩=>⟨.a (.v (.slice o1 (enK l k++putG p).length c1)),trivial,hv.symm,?_⟩
  subst hA
  rw [<-hs1] at hc1 ⊢
  refine oj_run TT rfl ?_
  (repeat (first | refine cjr TT rfl ?_ | refine oj_nil ?_ | refine nj_then ?_ | refine nj_block ?_ | (refine oj_add rfl rfl rfl rfl rfl rfl (by omega) ?_;refine oj_run TT rfl ?_)))
  refine nj_again (s1,(⟨k+1,o1,c1⟩:EnS)) ⟨Snap.le_trans hle hle1,hkl,hc1,fun q hq'=>?_⟩ (by dsimp only;omega) rfl (by (repeat first | exact trivial | refine ⟨rfl,?_⟩)) (by (repeat first | exact trivial | refine ⟨rfl,?_⟩)) rfl (by (repeat' (first | exact trivial | constructor))) (by (repeat' exact trivial))
  rw [htk] at hq'
  rcases List.mem_append.1 hq' with hq' | hq'
  · exact hr q hq'
  · rw [List.mem_singleton] at hq'
    subst hq'
    exact hrt
def cmpV (a b:Int):Int:=if a<b then -1 else if b<a then 1 else 0
set_option maxRecDepth 100000 in
set_option maxHeartbeats 1000000 in
theorem compare09_c (σ:Snap) (a b:Int):PlainS Tryd.prog 33 [.a (.v (.int .i64 a)),.a (.v (.int .i64 b))] σ (fun v=>v=.int .i64 (cmpV a b)):=by
  refine enter_p Tryd.func33 rfl rfl (by (repeat' (first | exact trivial | constructor))) fun w=>?_
  (repeat (first | refine cj_seq ?_ | refine cjr TT rfl ?_ | refine oj_then ?_))
  refine cj_if rfl (fun h=>?_) (fun h=>?_)
  · have h:=of_decide_eq_true h
    (repeat (first | refine cj_seq ?_ | refine cjr TT rfl ?_ | refine oj_then ?_ | refine cj_ret ?_ | refine nj_then_ret ?_))
    refine nj_ret TT rfl fun β w' _ _=>?_
    show Value.int .i64 (-1)=_
    unfold cmpV
    rw [if_pos h]
  have h:=of_decide_eq_false h
  (repeat (first | refine cj_seq ?_ | refine cjr TT rfl ?_ | refine oj_then ?_ | refine cj_skip ?_ | refine nj_then ?_))
  refine cj_if rfl (fun h2=>?_) (fun h2=>?_)
  · have h2:=of_decide_eq_true h2
    (repeat (first | refine cj_seq ?_ | refine cjr TT rfl ?_ | refine oj_then ?_ | refine cj_ret ?_ | refine nj_then_ret ?_))
    refine nj_ret TT rfl fun β w' _ _=>?_
    show Value.int .i64 1=_
    unfold cmpV
    rw [if_neg h,if_pos h2]
  · have h2:=of_decide_eq_false h2
    (repeat (first | refine cj_seq ?_ | refine cjr TT rfl ?_ | refine oj_then ?_ | refine cj_skip ?_ | refine cj_ret ?_ | refine nj_then ?_))
    refine nj_ret TT rfl fun β w' _ _=>?_
    show Value.int .i64 0=_
    unfold cmpV
    rw [if_neg h,if_neg h2]
theorem wrap64 (u:UInt8):IntKind.i64.wrap (u.toNat:Int)=(u.toNat:Int):=by
  have h:∀ n:Fin 256,IntKind.i64.wrap (n.val:Int)=(n.val:Int):=by decide +kernel
  exact h ⟨u.toNat,u.toNat_lt⟩
theorem cmpU_end:∀ {a b:List UInt8},(a=[]\/b=[])->cmpU a b=cmpV a.length b.length
  | [],[],_=>rfl
  | [],y::b,_=>by
    show (-1:Int)=cmpV 0 ((b.length+1:Nat):Int)
    unfold cmpV
    rw [if_pos (by omega)]
  | x::a,[],_=>by
    show (1:Int)=cmpV ((a.length+1:Nat):Int) 0
    unfold cmpV
    rw [if_neg (by omega),if_pos (by omega)]
  | _::_,_::_,h=>by rcases h with h | h<;>cases h
theorem cmpU_ne {x y:UInt8} {a b:List UInt8} (h:x≠y):cmpU (x::a) (y::b)=cmpV x.toNat y.toNat:=by
  have hn:x.toNat≠y.toNat:=fun e=>h (UInt8.toNat_inj.1 e)
  unfold cmpU cmpV
  by_cases h1:x<y
  · have:=UInt8.lt_iff_toNat_lt.1 h1
    rw [if_pos h1,if_pos (by omega)]
  · have h2:¬ x.toNat<y.toNat:=fun e=>h1 (UInt8.lt_iff_toNat_lt.2 e)
    have h3:y<x:=UInt8.lt_iff_toNat_lt.2 (by omega)
    rw [if_neg h1,if_pos h3,if_neg (by omega),if_pos (by omega)]
theorem cmpU_eq (x:UInt8) (a b:List UInt8):cmpU (x::a) (x::b)=cmpU a b:=cmp_front [x] a b
set_option maxRecDepth 100000 in
set_option maxHeartbeats 2000000 in
theorem bytes09_c (σ:Snap) (a b:List UInt8) (ha:a.length<=140737488355328):PlainS Tryd.prog 24 [.a (.v (.string (mkB a))),.a (.v (.string (mkB b)))] σ (fun v=>v=.int .i64 (cmpU a b)):=by
  have hza:=mkB_size a
  have hzb:=mkB_size b
  refine enter_p Tryd.func24 rfl rfl (by (repeat' (first | exact trivial | constructor))) fun w=>?_
  (repeat (first | refine cj_seq ?_ | refine cjr TT rfl ?_ | refine oj_then ?_ | refine cj_block ?_))
  refine cj_cutB (fun _=>σ) (fun (k:Nat)=>[(0,.a (.v (.string (mkB a)))),(1,.a (.v (.string (mkB b))))]) (fun _=>[]) (fun _=>[]) 0 (fun k=>k<=a.length/\k<=b.length/\cmpU a b=cmpU (a.drop k) (b.drop k)/\(k=a.length\/k=b.length)) ?_ (fun k ⟨hka,hkb,hc,he⟩=>?_)
  rotate_left
  · (repeat (first | refine cj_seq ?_ | refine cjr TT rfl ?_))
    rw [hza,hzb]
    refine oj_callP rfl rfl rfl rfl rfl Tryd.call33 (by (repeat' (first | exact trivial | constructor))) (compare09_c σ a.length b.length) fun v hv=>⟨.a (.v (.int .i64 (cmpV a.length b.length))),trivial,hv.symm,?_⟩
    refine oj_run TT rfl ?_
    (repeat (first | refine oj_then ?_ | refine cj_ret ?_))
    refine nj_ret TT rfl fun β w' _ _=>?_
    rw [hc,cmpU_end (by
      rcases he with he | he
      · exact .inl (List.drop_of_length_le (by omega))
      · exact .inr (List.drop_of_length_le (by omega))),List.length_drop,List.length_drop]
    show Value.int .i64 (cmpV a.length b.length)=.int .i64 (cmpV ((a.length - k:Nat):Int) ((b.length - k:Nat):Int))
    congr 1
    unfold cmpV
    by_cases h1:a.length<b.length
    · rw [if_pos (by omega),if_pos (by omega)]
    · rw [if_neg (by omega),if_neg (show ¬ ((a.length - k:Nat):Int)<((b.length - k:Nat):Int) by omega)]
      by_cases h2:b.length<a.length
      · rw [if_pos (by omega),if_pos (by omega)]
      · rw [if_neg (by omega),if_neg (by omega)]
  refine cj_loop (fun (_:Nat)=>σ) (fun k=>[(0,.a (.v (.string (mkB a)))),(1,.a (.v (.string (mkB b)))),(5,.a (.v (.int .i64 (k:Nat))))]) (fun _=>[]) (fun _=>[]) 0 (fun k=>k<=a.length/\k<=b.length/\cmpU a b=cmpU (a.drop k) (b.drop k)) (fun k=>a.length - k) 0 ⟨Nat.zero_le _,Nat.zero_le _,rfl⟩ rfl (by (repeat first | exact trivial | refine ⟨rfl,?_⟩)) (by (repeat first | exact trivial | refine ⟨rfl,?_⟩)) rfl (by (repeat' (first | exact trivial | constructor))) (by (repeat' exact trivial)) fun k ⟨hka,hkb,hc⟩=>?_
  (repeat (first | refine cj_seq ?_ | refine cjr TT rfl ?_))
  rw [hza]
  refine oj_split 10 rfl (fun h1=>?_) (fun h1=>?_)
  rotate_left
  · have h1:=of_decide_eq_false (show decide ((k:Int)<a.length)=false from h1)
    refine oj_run TT rfl ?_
    (repeat (first | refine oj_then ?_ | refine cj_if_f rfl ?_ | refine cj_exit ?_ | refine nj_then_exit ?_ | refine nj_block_out ?_))
    refine nj_again k ⟨hka,hkb,hc,.inl (by omega)⟩ Nat.zero_lt_one rfl (by (repeat first | exact trivial | refine ⟨rfl,?_⟩)) (by (repeat first | exact trivial | refine ⟨rfl,?_⟩)) rfl (by (repeat' (first | exact trivial | constructor))) (by (repeat' exact trivial))
  have h1:=of_decide_eq_true (show decide ((k:Int)<a.length)=true from h1)
  refine oj_run TT rfl ?_
  (repeat refine oj_then ?_)
  rw [hzb]
  refine cj_if rfl (fun h2=>?_) (fun h2=>?_)
  rotate_left
  · have h2:=of_decide_eq_false (show decide ((k:Int)<b.length)=false from h2)
    (repeat (first | refine cj_exit ?_ | refine nj_then_exit ?_ | refine nj_block_out ?_))
    refine nj_again k ⟨hka,hkb,hc,.inr (by omega)⟩ Nat.zero_lt_one rfl (by (repeat first | exact trivial | refine ⟨rfl,?_⟩)) (by (repeat first | exact trivial | refine ⟨rfl,?_⟩)) rfl (by (repeat' (first | exact trivial | constructor))) (by (repeat' exact trivial))
  have h2:=of_decide_eq_true (show decide ((k:Int)<b.length)=true from h2)
  have hla:k<a.length:=by omega
  have hlb:k<b.length:=by omega
  have hxa:=List.getElem?_eq_getElem hla
  have hxb:=List.getElem?_eq_getElem hlb
  have hda:=List.drop_eq_getElem_cons hla
  have hdb:=List.drop_eq_getElem_cons hlb
  generalize a[k]=x at *
  generalize b[k]=y at *
  have hia:∀ z:Int,z=(k:Int)->(mkB a).data.toList[z.toNat]?=some x:=fun z hz=>by rw [hz,mkB_list];exact hxa
  have hib:∀ z:Int,z=(k:Int)->(mkB b).data.toList[z.toNat]?=some y:=fun z hz=>by rw [hz,mkB_list];exact hxb
  (repeat (first | refine cj_seq ?_ | refine cj_skip ?_ | refine cj_block ?_ | refine nj_then ?_))
  refine cj_draw [(0,.pure),(1,.pure),(2,.pure),(3,.pure),(4,.pure),(5,.pure),(6,.pure)] mixed (by kernel_rfl) (oj_run TT rfl ?_)
  refine oj_index_str (u:=x) TT rfl rfl rfl rfl rfl rfl rfl rfl (by omega) (hia _ rfl) (oj_run TT rfl ?_)
  refine oj_index_str (u:=y) TT rfl rfl rfl rfl rfl rfl rfl rfl (by omega) (hib _ rfl) (oj_run TT rfl ?_)
  (repeat refine oj_then ?_)
  refine cj_if rfl (fun hne=>?_) (fun heq=>?_)
  · have hne:x≠y:=by
      intro e
      have h:(!decide ((x.toNat:Int)=y.toNat))=true:=hne
      rw [e] at h
      simp at h
    (repeat refine cj_seq ?_)
    refine cj_draw [(0,.pure),(1,.pure),(2,.pure),(3,.pure),(4,.pure),(5,.pure),(6,.pure),(7,.pure),(8,.keep),(9,.pure)] mixed (by kernel_rfl) (oj_run TT rfl ?_)
    refine oj_index_str (u:=x) TT rfl rfl rfl rfl rfl rfl rfl rfl (by omega) (hia _ rfl) (oj_run TT rfl ?_)
    refine oj_conv TT (x.toNat:Int) rfl rfl rfl rfl rfl rfl rfl rfl (wrap64 x) (oj_run TT rfl ?_)
    refine oj_index_str (u:=y) TT rfl rfl rfl rfl rfl rfl rfl rfl (by omega) (hib _ rfl) (oj_run TT rfl ?_)
    refine oj_conv TT (y.toNat:Int) rfl rfl rfl rfl rfl rfl rfl rfl (wrap64 y) (oj_run TT rfl ?_)
    refine oj_callP rfl rfl rfl rfl rfl Tryd.call33 (by (repeat' (first | exact trivial | constructor))) (compare09_c σ x.toNat y.toNat) fun v hv=>⟨.a (.v (.int .i64 (cmpV x.toNat y.toNat))),trivial,hv.symm,?_⟩
    refine oj_run TT rfl ?_
    (repeat (first | refine oj_then ?_ | refine cj_ret ?_ | refine nj_then_ret ?_ | refine nj_block_ret ?_))
    refine nj_ret TT rfl fun β w' _ _=>?_
    rw [hc,hda,hdb,cmpU_ne hne]
    rfl
  have heq:x=y:=by
    have h:(!decide ((x.toNat:Int)=y.toNat))=false:=heq
    simp only [Bool.not_eq_false',decide_eq_true_eq] at h
    exact UInt8.toNat_inj.1 (by omega)
  (repeat (first | refine cjr TT rfl ?_ | refine oj_nil ?_ | refine cj_skip ?_ | refine nj_then ?_ | refine nj_block ?_ | (refine oj_add rfl rfl rfl rfl rfl rfl (by omega) ?_;refine oj_run TT rfl ?_)))
  refine nj_again (k+1) ⟨hla,hlb,by rw [hc,hda,hdb,heq,cmpU_eq]⟩ (by omega) rfl (by (repeat first | exact trivial | refine ⟨rfl,?_⟩)) (by (repeat first | exact trivial | refine ⟨rfl,?_⟩)) rfl (by (repeat' (first | exact trivial | constructor))) (by (repeat' exact trivial))
set_option maxRecDepth 100000 in
set_option maxHeartbeats 1000000 in
theorem Bytes_c (σ:Snap) (a b:List UInt8) (ha:a.length<=140737488355328) (ao:Option Addr) (ac:Nat) (HA:SlAt σ ao a.length ac 1 (u8Rows a)) (bo:Option Addr) (bc:Nat) (HB:SlAt σ bo b.length bc 1 (u8Rows b)) :
    PlainS Tryd.prog 10 [.a (.v (.slice ao a.length ac)),.a (.v (.slice bo b.length bc))] σ (fun v=>v=.int .i64 (cmpU a b)):=by
  refine enter_p Tryd.func10 rfl rfl (by (repeat' (first | exact trivial | constructor))) fun w=>?_
  (repeat (first | refine cj_seq ?_ | refine cjr TT rfl ?_ | refine oj_then ?_))
  refine oj_strOf TT rfl rfl rfl rfl rfl rfl rfl rfl rfl rfl rfl rfl HA (oj_run TT rfl ?_)
  refine oj_strOf TT rfl rfl rfl rfl rfl rfl rfl rfl rfl rfl rfl rfl HB (oj_run TT rfl ?_)
  refine oj_callP rfl rfl rfl rfl rfl Tryd.call24 (by (repeat' (first | exact trivial | constructor))) (bytes09_c σ a b ha) fun v hv=>⟨.a (.v (.int .i64 (cmpU a b))),trivial,hv.symm,?_⟩
  refine oj_run TT rfl ?_
  (repeat (first | refine oj_then ?_ | refine cj_ret ?_))
  refine nj_ret TT rfl fun β w' _ _=>?_
  rfl
end Go.Sy
namespace Go.Sy
open Go.Proofs
set_option maxRecDepth 100000 in
set_option maxHeartbeats 1000000 in
theorem Clone09_c (σ:Snap) (l:List UInt8) (hl:l.length<=1000000) (h0:0<l.length) (ao:Option Addr) (cap:Nat) (H:SlAt σ ao l.length cap 1 (u8Rows l)) :
    FnS Tryd.prog 23 [.a (.v (.slice ao l.length cap))] σ [] (fun v _ A'=>∃ bo bc,v=.slice bo l.length bc/\l.length<=bc/\A'=[u8E bo bc l]):=by
  refine enter_f Tryd.func23 rfl rfl (by (repeat' (first | exact trivial | constructor))) fun w=>?_
  (repeat (first | refine cj_seq ?_ | refine cjr TT rfl ?_ | refine oj_then ?_ | (refine oj_slnil TT rfl rfl rfl rfl rfl rfl rfl rfl ?_;refine oj_run TT rfl ?_)))
  refine cj_if rfl (fun h=>?_) (fun h=>?_)
  · exfalso
    have h0':ao=none:=by simpa using h
    rcases H.at_ with h1 | ⟨ad,h1,_⟩
    · omega
    · rw [h0'] at h1;cases h1
  (repeat (first | refine cj_seq ?_ | refine cjr TT rfl ?_ | refine cj_skip ?_ | refine nj_then ?_))
  refine oj_own 0 0 1 rfl (by (repeat' (first | exact trivial | refine AllLt.of ?_))) rfl (by decide) fun gb=>?_
  refine oj_append_sl TT 0 rfl rfl rfl rfl rfl rfl rfl H rfl rfl rfl rfl rfl rfl rfl rfl rfl (fun r hr=>(u8Rows_all l r hr).2.2) (by omega) (by show (0+l.length)*1<=_;omega) fun ao' cap' hcap'=>oj_run TT rfl ?_
  (repeat (first | refine oj_then ?_ | refine cj_ret ?_))
  refine nj_fret TT rfl fun β w' _ _=>?_
  refine ⟨ao',cap',by show Value.slice ao' (0+l.length) cap'=_;rw [Nat.zero_add],by omega,?_⟩
  show [_]=[_]
  rw [Nat.zero_add,u8Xs_flat]
  rfl
theorem strip_all:∀ {l:List UInt8},(∀ c∈l,c=255)->stripF l=[]
  | [],_=>rfl
  | c::l,h=>by rw [stripF,if_pos (h c List.mem_cons_self),strip_all fun x hx=>h x (List.mem_cons_of_mem c hx)]
theorem strip_front:∀ {l:List UInt8} {c:UInt8} {m:List UInt8},(∀ x∈l,x=255)->c≠255->stripF (l++c::m)=c::m
  | [],c,m,_,hc=>by rw [List.nil_append,stripF,if_neg hc]
  | x::l,c,m,h,hc=>by rw [List.cons_append,stripF,if_pos (h x List.mem_cons_self),strip_front (fun y hy=>h y (List.mem_cons_of_mem x hy)) hc]
theorem after_zero {b:List UInt8} (h:∀ c∈b,c=255):afterG b=[]:=by
  unfold afterG
  rw [strip_all fun c hc=>h c (List.mem_reverse.1 hc)]
theorem after_at {b:List UInt8} {k:Nat} {c:UInt8} (hc:b[k]?=some c) (hne:c≠255) (h:∀ x∈b.drop (k+1),x=255):afterG b=b.take k++[c+1]:=by
  obtain ⟨hk,he⟩:=List.getElem?_eq_some_iff.1 hc
  have e:b=b.take k++c::b.drop (k+1):=by rw [<-he,<-List.drop_eq_getElem_cons hk,List.take_append_drop]
  have hr:b.reverse=(b.drop (k+1)).reverse++c::(b.take k).reverse:=by
    conv=>lhs;rw [e]
    simp
  unfold afterG
  rw [hr,strip_front (fun x hx=>h x (List.mem_reverse.1 hx)) hne]
  show (b.take k).reverse.reverse++[c+1]=_
  rw [List.reverse_reverse]
theorem take_set_last {b:List UInt8} {k:Nat} {c:UInt8} (hc:b[k]?=some c) (x:UInt8):(b.take (k+1)).set k x=b.take k++[x]:=by
  obtain ⟨hk,he⟩:=List.getElem?_eq_some_iff.1 hc
  have hl:(b.take k).length=k:=by rw [List.length_take];omega
  rw [List.take_succ_eq_append_getElem hk,List.set_append_right _ _ (by omega),hl,Nat.sub_self,List.set_cons_zero]
set_option maxRecDepth 100000 in
set_option maxHeartbeats 2000000 in
theorem After_c (σ:Snap) (b:List UInt8) (hl:b.length<=1000000) (ao:Option Addr) (cap:Nat) (H:SlAt σ ao b.length cap 1 (u8Rows b)) :
    PureS Tryd.prog 9 [.a (.v (.slice ao b.length cap))] σ (fun v σ'=>∃ bo bc,v=.slice bo (afterG b).length bc/\SlAt σ' bo (afterG b).length bc 1 (u8Rows (afterG b))):=by
  refine enter_s Tryd.func9 rfl rfl (by (repeat' (first | exact trivial | constructor))) fun w=>?_
  (repeat (first | refine cj_seq ?_ | refine cjr TT rfl ?_ | refine oj_then ?_ | refine cj_block ?_))
  refine cj_cutB (fun _=>σ) (fun (n:Nat)=>[(0,.a (.v (.slice ao b.length cap))),(2,.a (.v (.slice none 0 0))),(3,.a (.v (.int .i64 (n:Nat))))]) (fun _=>[]) (fun _=>[]) 0 (fun n=>n<=b.length/\(∀ x∈b.drop n,x=255)/\(n=0\/∃ k c,n=k+1/\b[k]?=some c/\c≠255)) ?_ (fun n ⟨hn,hd,he⟩=>?_)
  · refine cj_loop (fun (_:Nat)=>σ) (fun n=>[(0,.a (.v (.slice ao b.length cap))),(2,.a (.v (.slice none 0 0))),(3,.a (.v (.int .i64 (n:Nat))))]) (fun _=>[]) (fun _=>[]) 0 (fun n=>n<=b.length/\∀ x∈b.drop n,x=255) (fun n=>n) b.length ⟨Nat.le_refl _,fun x hx=>(by rw [List.drop_length] at hx;cases hx)⟩ rfl (by (repeat first | exact trivial | refine ⟨rfl,?_⟩)) (by (repeat first | exact trivial | refine ⟨rfl,?_⟩)) rfl (by (repeat' (first | exact trivial | constructor))) (by (repeat' exact trivial)) fun n ⟨hn,hd⟩=>?_
    (repeat (first | refine cj_seq ?_ | refine cjr TT rfl ?_))
    refine oj_split 9 rfl (fun h=>?_) (fun h=>?_)
    rotate_left
    · have h:=of_decide_eq_false (show decide ((0:Int)<n)=false from h)
      refine oj_run TT rfl ?_
      (repeat (first | refine oj_then ?_ | refine cj_if_f rfl ?_ | refine cj_exit ?_ | refine nj_then_exit ?_ | refine nj_block_out ?_))
      refine nj_again n ⟨hn,hd,.inl (by omega)⟩ Nat.zero_lt_one rfl (by (repeat first | exact trivial | refine ⟨rfl,?_⟩)) (by (repeat first | exact trivial | refine ⟨rfl,?_⟩)) rfl (by (repeat' (first | exact trivial | constructor))) (by (repeat' exact trivial))
    have h:=of_decide_eq_true (show decide ((0:Int)<n)=true from h)
    obtain ⟨k,rfl⟩:∃ k,n=k+1:=⟨n - 1,by omega⟩
    have hkl:k<b.length:=by omega
    have hx:=List.getElem?_eq_getElem hkl
    have hrow:=u8Rows_get hx
    have hdk:=List.drop_eq_getElem_cons hkl
    generalize b[k]=c at *
    have hr1':∀ z:Int,z=((k+1:Nat):Int) - 1->(u8Rows b)[z.toNat]?=some [.v (.int .u8 c.toNat)]:=fun z hz=>by rw [hz,show (((k+1:Nat):Int) - 1).toNat=k by omega];exact hrow
    refine oj_run TT rfl ?_
    refine oj_minus rfl rfl rfl rfl rfl rfl (by omega) (oj_run TT rfl ?_)
    refine oj_idx TT rfl rfl rfl rfl rfl rfl rfl rfl rfl H (by omega) (hr1' _ rfl) (oj_run TT rfl ?_)
    (repeat refine oj_then ?_)
    refine cj_if rfl (fun hc=>?_) (fun hc=>?_)
    · have hc:c=255:=by
        have:=of_decide_eq_true (show decide ((c.toNat:Int)=255)=true from hc)
        exact UInt8.toNat_inj.1 (by show c.toNat=255;omega)
      (repeat (first | refine cjr TT rfl ?_ | refine oj_nil ?_ | refine cj_skip ?_ | refine cj_block ?_ | refine nj_then ?_ | refine nj_block ?_ | (refine oj_minus rfl rfl rfl rfl rfl rfl (by omega) ?_;refine oj_run TT rfl ?_)))
      refine nj_set 3 (.a (.v (.int .i64 (k:Nat)))) rfl trivial (fun _=>congrArg (Value.int .i64) (by omega)) ?_
      refine nj_again k ⟨by omega,fun x hx=>?_⟩ (by omega) rfl (by (repeat first | exact trivial | refine ⟨rfl,?_⟩)) (by (repeat first | exact trivial | refine ⟨rfl,?_⟩)) rfl (by (repeat' (first | exact trivial | constructor))) (by (repeat' exact trivial))
      rw [hdk] at hx
      rcases List.mem_cons.1 hx with rfl | hx
      · exact hc
      · exact hd x hx
    · have hc:c≠255:=fun e=>by
        have:=of_decide_eq_false (show decide ((c.toNat:Int)=255)=false from hc)
        rw [e] at this
        exact this rfl
      (repeat (first | refine cj_exit ?_ | refine nj_then_exit ?_ | refine nj_block_out ?_))
      refine nj_again (k+1) ⟨hn,hd,.inr ⟨k,c,rfl,hx,hc⟩⟩ Nat.zero_lt_one rfl (by (repeat first | exact trivial | refine ⟨rfl,?_⟩)) (by (repeat first | exact trivial | refine ⟨rfl,?_⟩)) rfl (by (repeat' (first | exact trivial | constructor))) (by (repeat' exact trivial))
  (repeat (first | refine cj_seq ?_ | refine cjr TT rfl ?_ | refine oj_then ?_))
  refine cj_if rfl (fun h=>?_) (fun h=>?_)
  · have h:=of_decide_eq_true (show decide ((n:Int)=0)=true from h)
    have e:afterG b=[]:=after_zero fun c hc=>hd c (by rw [show n=0 by omega];exact hc)
    rw [e]
    (repeat (first | refine cj_seq ?_ | refine cjr TT rfl ?_ | refine oj_then ?_ | refine cj_ret ?_ | refine nj_then_ret ?_))
    refine nj_ret TT rfl fun β w' _ _=>?_
    exact ⟨none,0,rfl,SlAt.nil _ none 0 1⟩
  have h:=of_decide_eq_false (show decide ((n:Int)=0)=false from h)
  obtain ⟨k,c,rfl,hx,hc⟩:=he.resolve_left (by omega)
  have e:=after_at hx hc hd
  have hset:=take_set_last hx (c+1)
  have hkl:=(List.getElem?_eq_some_iff.1 hx).1
  have hF:=H.sub (Nat.zero_le _) hn
  have hfr:SlAt σ ao (k+1) cap 1 (u8Rows (b.take (k+1))):=by
    refine ⟨by rw [u8Rows_len,List.length_take];omega,Nat.le_trans hn H.ncap,fun r hr=>⟨(u8Rows_all _ r hr).1,(u8Rows_all _ r hr).2.1⟩,?_⟩
    rcases H.at_ with h1 | ⟨ad,h1,h2⟩
    · omega
    · refine .inr ⟨ad,h1,fun i r j cc hr hcc=>h2 i r j cc ?_ hcc⟩
      unfold u8Rows at hr ⊢
      rw [List.map_take,List.getElem?_take] at hr
      split at hr
      · exact hr
      · cases hr
  have hlt:(b.take (k+1)).length=k+1:=by rw [List.length_take];omega
  have hxt:(b.take (k+1))[k]?=some c:=by rw [List.getElem?_take,if_pos (Nat.lt_succ_self k)];exact hx
  (repeat (first | refine cj_seq ?_ | refine cjr TT rfl ?_ | refine cj_skip ?_ | refine nj_then ?_))
  refine oj_slice_to TT (k+1) rfl rfl rfl rfl rfl rfl rfl rfl rfl rfl (Nat.le_trans hn H.ncap) H.ncap (oj_run TT rfl ?_)
  have hcl:=Clone09_c σ (b.take (k+1)) (by omega) (by omega) ao cap (by rw [hlt];exact hfr)
  rw [hlt] at hcl
  refine oj_callF [] (A0:=[]) (Ar:=[]) rfl rfl rfl rfl rfl rfl rfl Tryd.call23 (by (repeat' (first | exact trivial | constructor))) hcl fun v s1 A' hle1 ⟨bo,bc,hv,hbc,hA⟩=>⟨.a (.v (.slice bo (k+1) bc)),trivial,hv.symm,?_⟩
  subst hA
  refine oj_run TT rfl ?_
  refine oj_arrAt 0 (E:=u8E bo bc (b.take (k+1))) rfl (by show 0<(b.take (k+1)).length;omega) fun g hg=>?_
  have hg:bo=some ⟨g,0,none⟩:=hg
  subst hg
  have had:∀ z:Int,z=((k+1:Nat):Int) - 1->some (SV.a (AT.v (.pointer (some (Addr.add ⟨g,0,none⟩ (z.toNat*1))))))=some (SV.a (AT.v (.pointer (some ⟨g,k,none⟩)))):=fun z hz=>by rw [hz,show (((k+1:Nat):Int) - 1).toNat=k by omega,add0,Nat.mul_one]
  (repeat (first | refine cj_seq ?_ | refine cjr TT rfl ?_ | refine oj_then ?_ | (refine oj_minus rfl rfl rfl rfl rfl rfl (by omega) ?_;refine oj_run TT rfl ?_)))
  refine oj_indexAddr TT rfl rfl rfl rfl rfl rfl rfl rfl rfl ⟨by omega,by omega⟩ (oj_run TT rfl ?_)
  refine oj_ldA 0 (off:=k) (c:=.v (.int .u8 c.toNat)) TT rfl rfl rfl rfl rfl (had _ rfl) rfl rfl rfl rfl (u8Xs_get hxt) trivial (oj_run TT rfl ?_)
  refine oj_arith ((c+1).toNat:Int) rfl rfl rfl rfl rfl rfl (run_add (wrap8_inc c)) (oj_run TT rfl ?_)
  refine oj_indexAddr TT rfl rfl rfl rfl rfl rfl rfl rfl rfl ⟨by omega,by omega⟩ (oj_run TT rfl ?_)
  refine oj_stA 0 (off:=k) (A':=[u8E (some ⟨g,0,none⟩) bc (afterG b)]) (c:=.v (.int .u8 ((c+1).toNat:Int))) TT rfl rfl rfl rfl (had _ rfl) rfl rfl rfl rfl rfl (by show k<(b.take (k+1)).length*1;omega) trivial rfl (by
    show [_]=[_]
    congr 1
    unfold u8E
    have hl2:(afterG b).length=(b.take (k+1)).length:=by rw [e,hlt,List.length_append,List.length_take];show _+1=_;omega
    rw [hl2]
    congr 1
    rw [e,<-hset]
    exact u8Xs_set _ _ _) (oj_run TT rfl ?_)
  (repeat (first | refine cj_seq ?_ | refine cjr TT rfl ?_ | refine oj_then ?_ | refine cj_ret ?_))
  refine nj_seal 0 rfl rfl fun s2 hle2 hS=>?_
  refine nj_ret TT rfl fun β w' _ _=>?_
  have hl2:(afterG b).length=k+1:=by rw [e,List.length_append,List.length_take];show _+1=_;omega
  have:=u8_sealed hS (by rw [hl2];omega)
  exact ⟨some ⟨g,0,none⟩,bc,by rw [hl2];rfl,this⟩
end Go.Sy
namespace Go.Sy
open Go.Proofs
def awN:GPart:=⟨1,false,dec0,emptyB,0⟩
set_option maxRecDepth 100000 in
set_option maxHeartbeats 1000000 in
theorem isNaN09_c (σ:Snap) (a:Int):PlainS Tryd.prog 53 [.a (.v (.int .i64 a))] σ (fun v=>v=.bool false):=by
  refine enter_p Tryd.func53 rfl rfl (by (repeat' (first | exact trivial | constructor))) fun w=>?_
  (repeat (first | refine cj_seq ?_ | refine cjr TT rfl ?_ | refine oj_then ?_ | refine cj_ret ?_))
  refine nj_ret TT rfl fun β w' _ _=>?_
  show Value.bool (!decide (a=a))=_
  simp
set_option maxRecDepth 100000 in
set_option maxHeartbeats 1000000 in
theorem Compare09_c (σ:Snap) (a b:Int):PlainS Tryd.prog 44 [.a (.v (.int .i64 a)),.a (.v (.int .i64 b))] σ (fun v=>v=.int .i64 (cmpV a b)):=by
  refine enter_p Tryd.func44 rfl rfl (by (repeat' (first | exact trivial | constructor))) fun w=>?_
  (repeat (first | refine cj_seq ?_ | refine cjr TT rfl ?_ | refine oj_then ?_))
  refine oj_callP rfl rfl rfl rfl rfl Tryd.call53 (by (repeat' (first | exact trivial | constructor))) (isNaN09_c σ a) fun v hv=>⟨.a .ff,trivial,hv.symm,?_⟩
  refine oj_run TT rfl ?_
  (repeat (first | refine cj_seq ?_ | refine cjr TT rfl ?_ | refine oj_then ?_))
  refine oj_callP rfl rfl rfl rfl rfl Tryd.call53 (by (repeat' (first | exact trivial | constructor))) (isNaN09_c σ b) fun v hv=>⟨.a .ff,trivial,hv.symm,?_⟩
  refine oj_run TT rfl ?_
  (repeat (first | refine cj_seq ?_ | refine cjr TT rfl ?_ | refine oj_then ?_ | refine cj_if_f rfl ?_ | refine cj_skip ?_ | refine nj_then ?_))
  refine cj_if rfl (fun h=>?_) (fun h=>?_)
  · have h:=of_decide_eq_true h
    (repeat (first | refine cj_seq ?_ | refine cjr TT rfl ?_ | refine oj_then ?_ | refine cj_ret ?_ | refine nj_then_ret ?_))
    refine nj_ret TT rfl fun β w' _ _=>?_
    show Value.int .i64 (-1)=_
    unfold cmpV
    rw [if_pos h]
  have h:=of_decide_eq_false h
  (repeat (first | refine cj_seq ?_ | refine cjr TT rfl ?_ | refine oj_then ?_ | refine cj_skip ?_ | refine nj_then ?_))
  refine cj_if rfl (fun h2=>?_) (fun h2=>?_)
  · have h2:=of_decide_eq_true h2
    (repeat (first | refine cj_seq ?_ | refine cjr TT rfl ?_ | refine oj_then ?_ | refine cj_ret ?_ | refine nj_then_ret ?_))
    refine nj_ret TT rfl fun β w' _ _=>?_
    show Value.int .i64 1=_
    unfold cmpV
    rw [if_neg h,if_pos h2]
  · have h2:=of_decide_eq_false h2
    (repeat (first | refine cj_seq ?_ | refine cjr TT rfl ?_ | refine oj_then ?_ | refine cj_skip ?_ | refine cj_ret ?_ | refine nj_then ?_))
    refine nj_ret TT rfl fun β w' _ _=>?_
    show Value.int .i64 0=_
    unfold cmpV
    rw [if_neg h,if_neg h2]
set_option maxRecDepth 100000 in
set_option maxHeartbeats 1000000 in
theorem order_aw (σ:Snap):PlainS Tryd.prog 32 [.agg (paCells part0),.agg (paCells awN)] σ (fun v=>v=.int .i64 (-1)):=by
  refine enter_p Tryd.func32 rfl rfl ⟨paCells_lt 0 _,paCells_lt 0 _,trivial⟩ fun w=>?_
  (repeat (first | refine cj_seq ?_ | refine cjr TT rfl ?_ | refine oj_then ?_))
  refine oj_callP rfl rfl rfl rfl rfl Tryd.call44 (by (repeat' (first | exact trivial | constructor))) (Compare09_c σ 0 1) fun v hv=>⟨.a (.v (.int .i64 (-1))),trivial,hv.symm,?_⟩
  refine oj_run TT rfl ?_
  (repeat (first | refine cj_seq ?_ | refine cjr TT rfl ?_ | refine oj_then ?_))
  refine cj_if rfl (fun _=>?_) (fun h=>absurd (show (!decide ((-1:Int)=0))=false from h) (by decide))
  (repeat (first | refine cj_seq ?_ | refine cjr TT rfl ?_ | refine oj_then ?_ | refine cj_ret ?_ | refine nj_then_ret ?_))
  refine nj_ret TT rfl fun β w' _ _=>?_
  rfl
set_option maxRecDepth 100000 in
set_option maxHeartbeats 2000000 in
theorem CompareFunc_aw (σ:Snap) (ao bo:Option Addr) (HA:SlAt σ ao 1 1 7 (paRows [part0])) (HB:SlAt σ bo 1 1 7 (paRows [awN])) :
    PlainS Tryd.prog 31 [.a (.v (.slice ao 1 1)),.a (.v (.slice bo 1 1)),.a (.fn (.func 32) [])] σ (fun v=>v=.int .i64 (-1)):=by
  refine enter_p Tryd.func31 rfl rfl (by (repeat' (first | exact trivial | exact SV.lt_fn0 | constructor))) fun w=>?_
  (repeat (first | refine cj_seq ?_ | refine cjr TT rfl ?_ | refine oj_then ?_ | refine cj_block ?_))
  refine cj_loop (fun (_:Unit)=>σ) (fun _=>[(0,.a (.v (.slice ao 1 1))),(1,.a (.v (.slice bo 1 1))),(2,.a (.fn (.func 32) [])),(11,.a (.v (.slice ao 1 1))),(12,.a (.v (.int .i64 1))),(13,.a (.v (.int .i64 0)))]) (fun _=>[]) (fun _=>[]) 0 (fun _=>True) (fun _=>0) () trivial rfl (by (repeat first | exact trivial | refine ⟨rfl,?_⟩)) (by (repeat first | exact trivial | refine ⟨rfl,?_⟩)) rfl (by (repeat' (first | exact trivial | exact SV.lt_fn0 | constructor))) (by (repeat' exact trivial)) fun _ _=>?_
  (repeat (first | refine cj_seq ?_ | refine cjr TT rfl ?_ | refine oj_then ?_))
  refine cj_if rfl (fun _=>?_) (fun h=>absurd (show decide ((0:Int)<1)=false from h) (by decide))
  (repeat (first | refine cj_seq ?_ | refine cjr TT rfl ?_ | refine cj_skip ?_ | refine cj_block ?_ | refine nj_then ?_))
  refine oj_idx TT rfl rfl rfl rfl rfl rfl rfl rfl rfl HA (by decide) (r:=paCells part0) rfl (oj_run TT rfl ?_)
  (repeat (first | refine cj_seq ?_ | refine cjr TT rfl ?_ | refine oj_then ?_))
  refine cj_if rfl (fun h=>absurd (show decide ((1:Int)<=0)=true from h) (by decide)) (fun _=>?_)
  (repeat (first | refine cj_seq ?_ | refine cjr TT rfl ?_ | refine cj_skip ?_ | refine nj_then ?_))
  refine oj_idx TT rfl rfl rfl rfl rfl rfl rfl rfl rfl HB (by decide) (r:=paCells awN) rfl (oj_run TT rfl ?_)
  (repeat (first | refine cj_seq ?_ | refine cjr TT rfl ?_ | refine oj_then ?_))
  refine oj_callP rfl rfl rfl rfl rfl Tryd.call32 (by (repeat' (first | exact trivial | refine AllLt.of ?_ | constructor))) (order_aw σ) fun v hv=>⟨.a (.v (.int .i64 (-1))),trivial,hv.symm,?_⟩
  refine oj_run TT rfl ?_
  (repeat (first | refine cj_seq ?_ | refine cjr TT rfl ?_ | refine oj_then ?_))
  refine cj_if rfl (fun _=>?_) (fun h=>absurd (show (!decide ((-1:Int)=0))=false from h) (by decide))
  (repeat (first | refine cj_seq ?_ | refine cjr TT rfl ?_ | refine oj_then ?_ | refine cj_ret ?_ | refine nj_then_ret ?_ | refine nj_block_ret ?_))
  refine nj_ret TT rfl fun β w' _ _=>?_
  rfl
set_option maxRecDepth 100000 in
set_option maxHeartbeats 1000000 in
theorem Order_aw (σ:Snap) (ao bo:Option Addr) (HA:SlAt σ ao 1 1 7 (paRows [part0])) (HB:SlAt σ bo 1 1 7 (paRows [awN])) :
    PlainS Tryd.prog 22 [.a (.v (.slice ao 1 1)),.a (.v (.slice bo 1 1))] σ (fun v=>v=.int .i64 (-1)):=by
  refine enter_p Tryd.func22 rfl rfl (by (repeat' (first | exact trivial | constructor))) fun w=>?_
  (repeat (first | refine cj_seq ?_ | refine cjr TT rfl ?_ | refine oj_then ?_))
  refine oj_callP rfl rfl rfl rfl rfl Tryd.call31 (by (repeat' (first | exact trivial | exact SV.lt_fn0 | constructor))) (CompareFunc_aw σ ao bo HA HB) fun v hv=>⟨.a (.v (.int .i64 (-1))),trivial,hv.symm,?_⟩
  refine oj_run TT rfl ?_
  (repeat (first | refine oj_then ?_ | refine cj_ret ?_))
  refine nj_ret TT rfl fun β w' _ _=>?_
  rfl
def awP1:GPart:=⟨2,false,⟨true,⟨#[49]⟩,0⟩,emptyB,0⟩
def awP2:GPart:=⟨2,false,⟨false,⟨#[53]⟩,-1⟩,emptyB,0⟩
theorem aw_enc1:encG [awP1]=([48,252,22,253,255],0):=by decide +kernel
theorem aw_enc2:encG [awP2]=([50,3,232,6,0],0):=by decide +kernel
theorem pa1_sealed {σ:Snap} {g:Nat} {p:GPart} {xs:List Value} (hx:xs=(paCells p).map AT.val) (hS:ArrSealed σ ⟨some ⟨g,0,none⟩,1,1,49,7,xs⟩):SlAt σ (some ⟨g,0,none⟩) 1 1 7 (paRows [p]) :=
  pa_sealed (t:=49) (l:=[p]) (cap:=1) (by subst hx;exact hS) (Nat.le_refl _)
set_option maxRecDepth 100000 in
set_option maxHeartbeats 4000000 in
theorem awake09_c (σ:Snap) (m:Int) (hm:σ.cell ⟨0,0,none⟩=some (.int .i64 m)):PureS Tryd.prog 8 [] σ (fun v _=>v=.bool true):=by
  refine enter_s Tryd.func8 rfl rfl (by (repeat' exact trivial)) fun w=>?_
  (repeat (first | refine cj_seq ?_ | refine cjr TT rfl ?_ | refine oj_then ?_))
  refine oj_own 0 1 7 rfl (by (repeat' (first | exact trivial | refine AllLt.of ?_ | constructor))) rfl (by decide) fun g1=>?_
  refine oj_seal 0 rfl rfl rfl fun s1 hle1 hS1=>?_
  have H1:=pa1_sealed (p:=awP1) rfl hS1
  refine oj_callS rfl rfl rfl rfl rfl Tryd.call12 ⟨trivial,trivial⟩ (show PureS Tryd.prog 12 [.a (.v (.slice (some ⟨g1,0,none⟩) 1 1))] s1 _ from Encode_c s1 m (hle1.cell hm) [awP1] (by decide) (by intro p hp;rw [List.mem_singleton] at hp;subst hp;exact ⟨by decide,by decide⟩) _ 1 H1) fun v s2 hle2 ⟨xo,xc,hv,HX⟩=>⟨.tup [.a (.v (.slice xo 5 xc)),.a (.v (.int .i64 0))],(by (repeat' (first | exact trivial | refine SV.lt_tup ?_ | constructor))),(by rw [hv,aw_enc1];rfl),?_⟩
  rw [aw_enc1] at HX
  have hm2:=(Snap.le_trans hle1 hle2).cell hm
  refine oj_run TT rfl ?_
  (repeat (first | refine cj_seq ?_ | refine cjr TT rfl ?_ | refine oj_then ?_))
  refine oj_own 1 1 7 rfl (by (repeat' (first | exact trivial | refine AllLt.of ?_ | constructor))) rfl (by decide) fun g2=>?_
  refine oj_seal 0 rfl rfl rfl fun s3 hle3 hS3=>?_
  have H3:=pa1_sealed (p:=awP2) rfl hS3
  refine oj_callS rfl rfl rfl rfl rfl Tryd.call12 ⟨trivial,trivial⟩ (show PureS Tryd.prog 12 [.a (.v (.slice (some ⟨g2,0,none⟩) 1 1))] s3 _ from Encode_c s3 m (hle3.cell hm2) [awP2] (by decide) (by intro p hp;rw [List.mem_singleton] at hp;subst hp;exact ⟨by decide,by decide⟩) _ 1 H3) fun v s4 hle4 ⟨yo,yc,hv,HY⟩=>⟨.tup [.a (.v (.slice yo 5 yc)),.a (.v (.int .i64 0))],(by (repeat' (first | exact trivial | refine SV.lt_tup ?_ | constructor))),(by rw [hv,aw_enc2];rfl),?_⟩
  rw [aw_enc2] at HY
  have HX:=HX.mono (Snap.le_trans hle3 hle4)
  refine oj_run TT rfl ?_
  (repeat (first | refine cj_seq ?_ | refine cjr TT rfl ?_ | refine oj_then ?_))
  refine oj_split 21 rfl (fun _=>?_) (fun h=>absurd (show decide ((0:Int)=0)=false from h) (by decide))
  refine oj_run TT rfl ?_
  refine oj_split 25 rfl (fun _=>?_) (fun h=>absurd (show decide ((0:Int)=0)=false from h) (by decide))
  refine oj_run TT rfl ?_
  refine oj_callP rfl rfl rfl rfl rfl Tryd.call10 (by (repeat' (first | exact trivial | constructor))) (Bytes_c s4 [48,252,22,253,255] [50,3,232,6,0] (by decide) xo xc HX yo yc HY) fun v hv=>⟨.a (.v (.int .i64 (-1))),trivial,(by rw [hv];rfl),?_⟩
  refine oj_run TT rfl ?_
  refine oj_split 31 rfl (fun _=>?_) (fun h=>absurd (show decide ((-1:Int)<0)=false from h) (by decide))
  refine oj_run TT rfl ?_
  refine oj_own 2 1 7 rfl (by (repeat' (first | exact trivial | refine AllLt.of ?_ | constructor))) rfl (by decide) fun g3=>?_
  refine oj_seal 0 rfl rfl rfl fun s5 hle5 hS5=>?_
  have H5:=pa1_sealed (p:=part0) rfl hS5
  refine oj_own 3 1 7 rfl (by (repeat' (first | exact trivial | refine AllLt.of ?_ | constructor))) rfl (by decide) fun g4=>?_
  refine oj_seal 0 rfl rfl rfl fun s6 hle6 hS6=>?_
  have H6:=pa1_sealed (p:=awN) rfl hS6
  refine oj_callP rfl rfl rfl rfl rfl Tryd.call22 (by (repeat' (first | exact trivial | constructor))) (Order_aw s6 _ _ (H5.mono hle6) H6) fun v hv=>⟨.a (.v (.int .i64 (-1))),trivial,hv.symm,?_⟩
  refine oj_run TT rfl ?_
  refine oj_split 39 rfl (fun _=>?_) (fun h=>absurd (show decide ((-1:Int)<0)=false from h) (by decide))
  refine oj_run TT rfl ?_
  refine oj_own 4 2 1 rfl (by (repeat' (first | exact trivial | refine AllLt.of ?_ | constructor))) rfl (by decide) fun g5=>?_
  refine oj_seal 0 rfl rfl rfl fun s7 hle7 hS7=>?_
  have H7:SlAt s7 (some ⟨g5,0,none⟩) ([1,255]:List UInt8).length 2 1 (u8Rows [1,255]):=u8_sealed (l:=[1,255]) hS7 (Nat.le_refl _)
  refine oj_callS rfl rfl rfl rfl rfl Tryd.call9 ⟨trivial,trivial⟩ (show PureS Tryd.prog 9 [.a (.v (.slice (some ⟨g5,0,none⟩) 2 2))] s7 _ from After_c s7 [1,255] (by decide) _ 2 H7) fun v s8 hle8 ⟨bo,bc,hv,_⟩=>⟨.a (.v (.slice bo 1 bc)),trivial,(by rw [hv];rfl),?_⟩
  refine oj_run TT rfl ?_
  (repeat (first | refine oj_then ?_ | refine cj_ret ?_))
  refine nj_ret TT rfl fun β w' _ _=>?_
  rfl
end Go.Sy
namespace Go.Sy
open Go.Proofs
theorem u8_front {σ:Snap} {ao:Option Addr} {cap n:Nat} {l:List UInt8} (H:SlAt σ ao n cap 1 (u8Rows l)) {k:Nat} (hk:k<=n):SlAt σ ao k cap 1 (u8Rows (l.take k)):=by
  have hn:l.length=n:=by rw [<-H.len,u8Rows_len]
  refine ⟨by rw [u8Rows_len,List.length_take];omega,Nat.le_trans hk H.ncap,fun r hr=>⟨(u8Rows_all _ r hr).1,(u8Rows_all _ r hr).2.1⟩,?_⟩
  rcases H.at_ with h1 | ⟨ad,h1,h2⟩
  · exact .inl (by omega)
  · refine .inr ⟨ad,h1,fun i r j cc hr hcc=>h2 i r j cc ?_ hcc⟩
    unfold u8Rows at hr ⊢
    rw [List.map_take,List.getElem?_take] at hr
    split at hr
    · exact hr
    · cases hr
end Go.Sy
/- Calls of what has no body. No program in sight. -/
namespace Go.Sy
theorem callee_run {cf:Cf} {env:Env} {β:Nat->Addr} {a:Act} {w:World} (ha:StA cf env β a) {o:Oper} {f:FuncId} {ys:List SV} {v:Value} (h:callee env o.op=some (f,ys))
    (hcall:(callFunc f (ys.map (SV.den β)).toArray).run cf.P w=.ok (.value v) w):(execOp a.eval o).run cf.P w=.ok (.value v) w:=by
  unfold callee at h
  split at h
  · rename_i c hop
    split at h
    · rename_i fo hcal
      split at h
      · rename_i g cap zs hf hz
        injection h with h
        simp only [Prod.mk.injEq] at h
        obtain ⟨rfl,rfl⟩:=h
        have h1:a.eval fo=.func (.func g) #[] (cap.map (PT.den β)).toArray:=evalO_eval ha hf
        have h2:c.args.map a.eval=(zs.map (SV.den β)).toArray:=by
          have:=evalL_ok ha _ _ hz
          rw [<-this,<-Array.toList_map]
        have h3:(zs.map (SV.den β)).toArray++(cap.map (PT.den β)).toArray=((zs++cap.map ptSV).map (SV.den β)).toArray:=by
          have:cap.map (SV.den β ∘ ptSV)=cap.map (PT.den β):=List.map_congr_left fun p _=>ptSV_den β p
          rw [List.map_append,List.map_map,this]
          exact List.append_toArray _ _
        simp only [execOp,hop,resolve,hcal,h1,h2,Deferred.ofValue,Sem.run_bind,Sem.run_pure,Result.andThen_ok,invoke,Array.empty_append,h3,hcall]
      · cases h
    · cases h
  · cases h
section
variable {cf:Cf} {Q:Exit->Act->World->Prop} {σ:Snap} {env:Env} {hp:HP} {A:List AE} {nh:Nat} {it:Item} {rest:List Item}
theorem oj_extern {d:Nat} {f:FuncId} {ys:List SV} (y:SV) (hc:callee env it.o.op=some (f,ys)) (hd:it.o.dst=some d) (hg:guardVal it.guard env=some true) (hN:Nat.blt d cf.N=true) (htag:(match it.tag with | .pure=>false | _=>true)=true) (hy:y.lt nh)
    (hrun:∀ (β:Nat->Addr) (w:World),StW cf σ hp A β w->(callFunc f (ys.map (SV.den β)).toArray).run cf.P w=.ok (Next.value (y.den β)) w)
    (k:OJ cf rest Q σ ((d,y)::env) hp A nh):OJ cf (it::rest) Q σ env hp A nh :=
  oj_valW y hd hg hN hy htag (fun _ _ β ha w hw=>callee_run ha hc (hrun β w hw)) k
theorem oj_indexByte {d:Nat} {f:FuncId} {fn:Func} {ao:Option Addr} {n cap:Nat} {c:UInt8} {l:List UInt8} (hc:callee env it.o.op=some (f,[.a (.v (.slice ao n cap)),.a (.v (.int .u8 c.toNat))])) (hd:it.o.dst=some d) (hg:guardVal it.guard env=some true) (hN:Nat.blt d cf.N=true) (htag:(match it.tag with | .pure=>false | _=>true)=true)
    (hf : cf.P.funcs[f]? = some fn) (h1 : (fn.name == "runtime.NumGoroutine") = false) (h2 : fn.body.isNone = true) (h3 : Extern.findNext fn = none) (h4 : Extern.find fn = some Extern.BytealgIndexByte.indexByte)
    (H:SlAt σ ao n cap 1 (u8Rows l)) (k:OJ cf rest Q σ ((d,.a (.v (.int .i64 (Lib.indexByte l c))))::env) hp A nh):OJ cf (it::rest) Q σ env hp A nh:=by
  refine oj_extern (.a (.v (.int .i64 (Lib.indexByte l c)))) hc hd hg hN htag trivial (fun β w hw=>?_) k
  have hn:l.length=n:=by rw [<-H.len,u8Rows_len]
  rw [run_callFunc_extern hf h1 h2 h3 h4]
  show ((Extern.BytealgIndexByte.indexByte #[.slice ao n cap,.int .u8 c.toNat]).run cf.P w).andThen _=.ok (Next.value (.int .i64 (Lib.indexByte l c))) w
  have hcn:((c.toNat:Int)).toNat.toUInt8=c:=by
    show UInt8.ofNat ((c.toNat:Int)).toNat=c
    rw [Int.toNat_natCast]
    simp
  rcases H.at_ with h0 | ⟨ad,rfl,h⟩
  · have hl:l=[]:=List.eq_nil_of_length_eq_zero (by omega)
    subst hl
    cases ao with
    | none=>rw [Lib.run_indexByteNil];rfl
    | some ad =>
      have h5:(Extern.BytealgIndexByte.indexByte #[.slice (some ad) n cap,.int .u8 c.toNat]).run cf.P w=.ok (.int .i64 (-1)) w:=by
        subst h0
        have:=Lib.run_indexByteNil (P:=cf.P) (w:=w) 0 cap (c.toNat:Int)
        exact this
      rw [h5]
      rfl
  · by_cases h0:n=0
    · have hl:l=[]:=List.eq_nil_of_length_eq_zero (by omega)
      subst hl
      have h5:(Extern.BytealgIndexByte.indexByte #[.slice (some ad) n cap,.int .u8 c.toNat]).run cf.P w=.ok (.int .i64 (-1)) w:=by
        subst h0
        have:=Lib.run_indexByteNil (P:=cf.P) (w:=w) 0 cap (c.toNat:Int)
        exact this
      rw [h5]
      rfl
    have hcell:∀ i u,l[i]?=some u->w.cell? (ad.add i)=some (.int .u8 u.toNat):=fun i u hu=>by
      have:=Snap.cell_sealed hw (h i _ 0 _ (u8Rows_get hu) rfl)
      rw [Nat.mul_one,Nat.add_zero] at this
      exact this
    have hsp:ad.spot=none:=by
      have h6:=hcell 0 l[0] (List.getElem?_eq_getElem (by omega))
      have e:ad.add 0=ad:=by simp [Addr.add]
      rw [e] at h6
      unfold World.cell? at h6
      cases hs:ad.spot with
      | none=>rfl
      | some q =>
        rw [hs] at h6
        split at h6
        · simp at h6
        · cases h6
    obtain ⟨b,off,sp⟩:=ad
    dsimp only at hsp
    subst hsp
    have h7:=Lib.run_indexByteSlice (P:=cf.P) (w:=w) b off n cap (l.map fun u=>(u.toNat:Int)) (by rw [List.length_map,hn]) (fun i hi=>by
      have h8:=hcell i l[i] (List.getElem?_eq_getElem (by omega))
      rw [Addr.add_lit] at h8
      rw [h8,List.getD_eq_getElem?_getD,List.getElem?_map,List.getElem?_eq_getElem (by omega)]
      rfl) (c.toNat:Int)
    have h9:Lib.bytesOf (l.map fun u=>(u.toNat:Int))=l:=by
      unfold Lib.bytesOf
      rw [List.map_map]
      conv=>rhs;rw [<-List.map_id l]
      exact List.map_congr_left fun u _=>by simp
    rw [h7,h9,hcn]
    rfl
end
end Go.Sy
