/- Parts of the proof of CEditsAre: G3, G4, Lv, F62, G5, G6, G7, F81, G8, G9. No conditions. -/
import Derived.Test.YtadnijcgohflhaaGreatDoorM12
namespace Go.Sy
open Go.Proofs
theorem recRows_one (l:List GRec):∀ r∈recRows l,r.all AT.one=true:=fun r hr=>(recRows_all l r hr).2.2
set_option maxRecDepth 100000 in
set_option maxHeartbeats 1000000 in
theorem parts_f (σ:Snap) (L:List GRec) (hL:L.length<=100000) (ao:Option Addr) (cap:Nat) (H:SlAt σ ao L.length cap 11 (recRows L)) (M:List GRec) (hM:M.length<=100000) (mo:Option Addr) (mc:Nat) (HM:SlAt σ mo M.length mc 11 (recRows M)) (fr to:Nat) (h1:fr<=to) (h2:to<=L.length) :
    FnS Tryz.prog 74 [.a (.v (.slice ao L.length cap)),.a (.v (.int .i64 fr)),.a (.v (.slice mo M.length mc)),.a (.v (.int .i64 to))] σ [] (fun v _ A'=>∃ E,A'=[E]/\∃ oo oc,(spliced L fr to M).length<=oc/\E=r2E oo (spliced L fr to M).length oc (spliced L fr to M)/\v=.slice oo (spliced L fr to M).length oc):=by
  have F:=H.front (k:=fr) (by omega)
  have D:=H.sub (l:=to) (k:=L.length) h2 (Nat.le_refl _)
  rw [show (recRows L).take L.length=recRows L by rw [<-recRows_len L,List.take_length]] at D
  have e1:(recRows L).take fr=recRows (L.take fr):=by unfold recRows;rw [List.map_take]
  have e2:(recRows L).drop to=recRows (L.drop to):=by unfold recRows;rw [List.map_drop]
  rw [e1] at F
  rw [e2] at D
  have hlen:(spliced L fr to M).length=0+fr+M.length+(L.length - to):=by
    unfold spliced
    rw [List.length_append,List.length_append,List.length_take,List.length_drop]
    omega
  refine enter_f Tryz.func74 rfl rfl (by (repeat' (first | exact trivial | constructor))) fun w=>?_
  (repeat (first | refine cj_seq ?_ | refine cjr TT rfl ?_ | refine oj_then ?_))
  refine oj_nilarr 131 11 ?_
  refine oj_run TT rfl ?_
  refine oj_slice_to TT fr rfl rfl rfl rfl rfl rfl rfl rfl rfl rfl (Nat.le_trans (by omega) H.ncap) H.ncap (oj_run TT rfl ?_)
  refine oj_append_sl TT 0 rfl rfl rfl rfl rfl rfl rfl F rfl rfl rfl rfl rfl rfl rfl rfl rfl (recRows_one _) (by omega) (by show (0+fr)*112<=_;omega) fun ao1 cap1 hcap1=>oj_run TT rfl ?_
  (repeat (first | refine cj_seq ?_ | refine cjr TT rfl ?_ | refine oj_then ?_))
  refine oj_append_sl TT 0 rfl rfl rfl rfl rfl rfl rfl HM rfl rfl rfl rfl rfl rfl rfl rfl rfl (recRows_one _) (by omega) (by show (0+fr+M.length)*112<=_;omega) fun ao2 cap2 hcap2=>oj_run TT rfl ?_
  (repeat (first | refine cj_seq ?_ | refine cjr TT rfl ?_ | refine oj_then ?_))
  refine oj_slice TT to L.length rfl rfl rfl rfl rfl rfl rfl rfl rfl rfl (.inr ⟨_,_,rfl,rfl⟩) (.inl ⟨rfl,rfl⟩) h2 H.ncap H.ncap (oj_run TT rfl ?_)
  refine oj_append_sl TT 0 rfl rfl rfl rfl rfl rfl rfl D rfl rfl rfl rfl rfl rfl rfl rfl rfl (recRows_one _) (by omega) (by show (0+fr+M.length+(L.length - to))*112<=_;omega) fun ao3 cap3 hcap3=>oj_run TT rfl ?_
  (repeat (first | refine oj_then ?_ | refine cj_ret ?_))
  refine nj_fret TT rfl fun β w' _ _=>?_
  refine ⟨_,rfl,ao3,cap3,by rw [hlen];exact hcap3,?_,by rw [hlen];rfl⟩
  unfold r2E
  rw [hlen]
  congr 1
  unfold spliced recXs
  rw [recRows_append,recRows_append,List.flatten_append,List.flatten_append,List.map_append,List.map_append]
  simp only [List.nil_append,List.append_assoc]
theorem parts_s (σ:Snap) (L:List GRec) (hL:L.length<=100000) (ao:Option Addr) (cap:Nat) (H:SlAt σ ao L.length cap 11 (recRows L)) (M:List GRec) (hM:M.length<=100000) (mo:Option Addr) (mc:Nat) (HM:SlAt σ mo M.length mc 11 (recRows M)) (fr to:Nat) (h1:fr<=to) (h2:to<=L.length) :
    PureS Tryz.prog 74 [.a (.v (.slice ao L.length cap)),.a (.v (.int .i64 fr)),.a (.v (.slice mo M.length mc)),.a (.v (.int .i64 to))] σ (fun v σ'=>∃ oo oc,v=.slice oo (spliced L fr to M).length oc/\SlAt σ' oo (spliced L fr to M).length oc 11 (recRows (spliced L fr to M))) :=
  (parts_f σ L hL ao cap H M hM mo mc HM fr to h1 h2).seal1 fun v _ _ E ⟨oo,oc,hc,hE,hv⟩ _ hS=>⟨oo,oc,hv,r2E_sealed (by rw [<-hE];exact hS) hc⟩
set_option maxRecDepth 100000 in
set_option maxHeartbeats 1000000 in
theorem copied_f (σ:Snap) (L:List GRec) (hL:L.length<=100000) (ao:Option Addr) (cap:Nat) (H:SlAt σ ao L.length cap 11 (recRows L)) :
    FnS Tryz.prog 73 [.a (.v (.slice ao L.length cap))] σ [] (fun v _ A'=>∃ oo oc,L.length<=oc/\v=.slice oo L.length oc/\A'=[r2E oo L.length oc L]):=by
  refine enter_f Tryz.func73 rfl rfl (by (repeat' (first | exact trivial | constructor))) fun w=>?_
  (repeat (first | refine cj_seq ?_ | refine cjr TT rfl ?_ | refine oj_then ?_))
  refine oj_own 0 0 11 rfl (by (repeat' (first | exact trivial | refine AllLt.of ?_))) rfl (by decide) fun g0=>?_
  refine oj_append_sl TT 0 rfl rfl rfl rfl rfl rfl rfl H rfl rfl rfl rfl rfl rfl rfl rfl rfl (recRows_one _) (by omega) (by show (0+L.length)*112<=_;omega) fun ao1 cap1 hcap1=>?_
  rw [Nat.zero_add L.length] at hcap1 ⊢
  refine oj_run TT rfl ?_
  (repeat (first | refine oj_then ?_ | refine cj_ret ?_))
  refine nj_fret TT rfl fun β w' _ _=>?_
  exact ⟨ao1,cap1,hcap1,rfl,rfl⟩
set_option maxRecDepth 100000 in
set_option maxHeartbeats 1000000 in
theorem whole_f (σ:Snap) (L:List GRec) (hW:recsW L<=100000) (hpos:0<L.length) (hlv:∀ r∈L,0<=r.lv/\r.lv<=1000000) (hrw:(rvalG (L.map er)).weight<=100000) (g1 cap:Nat) (hc:L.length<=cap) :
    FnS Tryz.prog 72 [.a (.v (.slice (some ⟨g1,0,none⟩) L.length cap))] σ [r2E (some ⟨g1,0,none⟩) L.length cap L] (fun v σ' A'=>A'=[]/\∃ bo bc,v=.tuple #[.slice bo (rwholeG L).1.length bc,.int .i64 (rwholeG L).2]/\SlAt σ' bo (rwholeG L).1.length bc 11 (recRows (rwholeG L).1)):=by
  have hLW:=recsW_len L
  have had:∀ k j:Nat,some (SV.a (AT.v (.pointer (some (Addr.add (Addr.add ⟨g1,0,none⟩ ((k:Int).toNat*11)) j)))))=some (SV.a (AT.v (.pointer (some ⟨g1,k*11+j,none⟩)))):=fun k j=>by rw [add0,Addr.add_lit];rfl
  have hrwh:rwholeG L=shredG (rvalG (L.map er)) 8:=rfl
  have hFit:RecsFit (L.map er):=by
    intro r hr
    obtain ⟨q,hq,rfl⟩:=List.mem_map.1 hr
    exact (recs_ok hW).fit q hq
  have hlv':∀ r∈L.map er,0<=r.lv/\r.lv<=1000000:=by
    intro r hr
    obtain ⟨q,hq,rfl⟩:=List.mem_map.1 hr
    exact hlv q hq
  refine enter_f Tryz.func72 rfl rfl (by (repeat' (first | exact trivial | constructor))) fun w=>?_
  (repeat (first | refine cj_seq ?_ | refine cjr TT rfl ?_ | refine oj_then ?_ | refine cj_block ?_))
  refine cj_cutB (fun (_:Unit)=>σ) (fun _=>[(0,.a (.v (.slice (some ⟨g1,0,none⟩) L.length cap)))]) (fun _=>[]) (fun _=>[r2E (some ⟨g1,0,none⟩) L.length cap (L.map er)]) 0 (fun _=>True) ?_ (fun _ _=>?_)
  · refine cj_loop (fun (_:Nat)=>σ) (fun k=>[(0,.a (.v (.slice (some ⟨g1,0,none⟩) L.length cap))),(4,.a (.v (.int .i64 k)))]) (fun _=>[]) (fun k=>[r2E (some ⟨g1,0,none⟩) L.length cap (mkK er L k)]) 0
      (fun k=>k<=L.length) (fun k=>L.length - k) 0 (Nat.zero_le _) rfl (by (repeat first | exact trivial | refine ⟨rfl,?_⟩)) (by (repeat first | exact trivial | refine ⟨rfl,?_⟩)) rfl (by (repeat' (first | exact trivial | constructor))) (by (repeat' exact trivial)) fun k hk=>?_
    (repeat (first | refine cj_seq ?_ | refine cjr TT rfl ?_ | refine oj_then ?_))
    refine cj_if rfl (fun h=>?_) (fun h=>?_)
    rotate_left
    · have hk0:k=L.length:=by have:=of_decide_eq_false h;omega
      subst hk0
      (repeat (first | refine cj_exit ?_ | refine nj_then_exit ?_ | refine nj_block_out ?_))
      refine nj_again () trivial Nat.zero_lt_one rfl (by (repeat first | exact trivial | refine ⟨rfl,?_⟩)) (by (repeat first | exact trivial | refine ⟨rfl,?_⟩)) ?_ (by (repeat' (first | exact trivial | constructor))) (by (repeat' exact trivial))
      simp [mkK]
    have hkl:k<L.length:=by have:=of_decide_eq_true h;omega
    have hM0:=mkK_get er L k hkl
    have hS:=mkK_succ er L k hkl
    have hlenM:=mkK_len er L k hk
    generalize hx:L[k]=x at *
    let x1:GRec:=⟨0,x.en,x.lv,x.kd,x.nm,x.name,x.b,x.n,x.s⟩
    have hM1:((mkK er L k).set k x1)[k]?=some x1:=by rw [List.getElem?_set_self (by omega)]
    have hS2:((mkK er L k).set k x1).set k (er x)=mkK er L (k+1):=by rw [List.set_set];exact hS
    have hoff:∀ j,j<11->k*11+j<L.length*11:=fun j hj=>by omega
    (repeat (first | refine cj_seq ?_ | refine cjr TT rfl ?_ | refine cj_skip ?_ | refine cj_block ?_ | refine nj_then ?_))
    refine oj_indexAddr TT rfl rfl rfl rfl rfl rfl rfl rfl rfl ⟨by omega,by omega⟩ (oj_run TT rfl ?_)
    refine oj_stA 0 (off:=k*11+0) (A':=[r2E (some ⟨g1,0,none⟩) L.length cap ((mkK er L k).set k x1)]) TT rfl rfl rfl rfl (had k 0) rfl rfl rfl rfl rfl (hoff 0 (by omega)) trivial rfl ?_ (oj_run TT rfl ?_)
    · show [_]=[_]
      congr 1
      unfold r2E
      congr 1
      exact recXs_set (r':=x1) (.v (.int .i64 0)) hM0 (by omega) rfl
    (repeat (first | refine cjr TT rfl ?_ | refine oj_then ?_))
    refine oj_indexAddr TT rfl rfl rfl rfl rfl rfl rfl rfl rfl ⟨by omega,by omega⟩ (oj_run TT rfl ?_)
    refine oj_stA 0 (off:=k*11+1) (A':=[r2E (some ⟨g1,0,none⟩) L.length cap (mkK er L (k+1))]) TT rfl rfl rfl rfl (had k 1) rfl rfl rfl rfl rfl (hoff 1 (by omega)) trivial rfl ?_ (oj_run TT rfl ?_)
    · show [_]=[_]
      congr 1
      unfold r2E
      congr 1
      rw [<-hS2]
      exact recXs_set (r':=er x) (.v (.int .i64 0)) hM1 (by omega) rfl
    (repeat (first | refine cjr TT rfl ?_ | refine oj_nil ?_ | refine nj_then ?_ | refine nj_block ?_ | (refine oj_add rfl rfl rfl rfl rfl rfl (by omega) ?_;refine oj_run TT rfl ?_)))
    refine nj_again (k+1) hkl (by omega) rfl (by (repeat first | exact trivial | refine ⟨rfl,?_⟩)) (by (repeat first | exact trivial | refine ⟨rfl,?_⟩)) rfl (by (repeat' (first | exact trivial | constructor))) (by (repeat' exact trivial))
  refine cj_seal 0 rfl rfl fun σ1 hle1 hS=>?_
  have hml:(L.map er).length=L.length:=List.length_map ..
  have H:SlAt σ1 (some ⟨g1,0,none⟩) (L.map er).length cap 11 (recRows (L.map er)):=r2E_sealed (by rw [hml];exact hS) (by rw [hml];exact hc)
  have hval:=rval12_c (L.map er) hFit (by omega) hlv' (some ⟨g1,0,none⟩) cap L.length σ1 0 H (by omega) (by omega)
  rw [hml] at hval
  have e0:rvalN (L.map er) L.length 0=rvalG (L.map er):=by unfold rvalG;rw [hml]
  rw [e0] at hval
  rw [hrwh]
  generalize rvalG (L.map er)=gx at *
  (repeat (first | refine cj_seq ?_ | refine cjr TT rfl ?_))
  refine oj_callS rfl rfl rfl rfl rfl Tryz.call148 ⟨trivial,trivial,trivial⟩ hval fun v σ2 hle2 ⟨rr,hv,hrep⟩=>⟨.agg rr,hrep.clo,hv.symm,?_⟩
  obtain ⟨xla,xlc,xlrows,xma,xmc,xvrows,rfl,XV⟩:=hrep.open
  refine oj_run TT rfl ?_
  (repeat (first | refine cj_seq ?_ | refine cjr TT rfl ?_ | refine oj_then ?_))
  refine oj_callP rfl rfl rfl rfl rfl Tryz.call66 (by (repeat' (first | exact trivial | exact vCells_lt _ _ _ _ _ _ | constructor))) (RSane_c σ2 gx _ XV.rep (by omega)) fun v hv=>⟨.a (.v (.int .i64 (sane gx))),trivial,hv.symm,?_⟩
  refine oj_run TT rfl ?_
  (repeat (first | refine cj_seq ?_ | refine cjr TT rfl ?_ | refine oj_then ?_))
  have hsg:shredG gx 8=if sane gx≠0 then ([],sane gx) else ((shredV 8 gx 0 false emptyS 0).1,0):=by unfold shredG;rw [if_neg (by omega)]
  refine cj_if rfl (fun h=>?_) (fun h=>?_)
  · have h:sane gx≠0:=by simpa using h
    rw [if_pos h] at hsg
    rw [hsg]
    (repeat (first | refine cj_seq ?_ | refine cjr TT rfl ?_ | refine oj_then ?_ | refine cj_ret ?_ | refine nj_then_ret ?_))
    refine nj_fret TT rfl fun β w' _ _=>?_
    exact ⟨rfl,none,0,rfl,SlAt.nil _ _ _ _⟩
  (repeat (first | refine cj_seq ?_ | refine cjr TT rfl ?_ | refine cj_skip ?_ | refine nj_then ?_))
  refine oj_callS rfl rfl rfl rfl rfl Tryz.call81 ⟨vCells_lt _ _ _ _ _ _,trivial,trivial⟩ (RShred_s σ2 gx _ 8 XV.rep hrw) fun v σ3 hle3 ⟨bo,bc,hv,H3⟩=>⟨.tup [.a (.v (.slice bo (shredG gx 8).1.length bc)),.a (.v (.int .i64 (shredG gx 8).2))],(by (repeat' (first | exact trivial | refine SV.lt_tup ?_ | constructor))),hv.symm,?_⟩
  refine oj_run TT rfl ?_
  (repeat (first | refine oj_then ?_ | refine cj_ret ?_))
  refine nj_fret TT rfl fun β w' _ _=>?_
  exact ⟨rfl,bo,bc,rfl,H3⟩
end Go.Sy
namespace Go.Sy
open Go.Proofs
def top12 (lv:Int) (nm:Bool) (name:ByteArray):GRec:=⟨0,0,lv,0,nm,name,false,dec0,emptyS⟩
set_option maxRecDepth 100000 in
set_option maxHeartbeats 4000000 in
theorem laid12_f (σ:Snap) (g:GVal) (r:List AT) (hr:RepV σ g r) (hw:g.weight<=100000) (hs:sane g=0) (lv:Int) (hlv0:0<=lv) (hlv1:lv<=900000) (nm:Bool) (name:ByteArray) (first by_:Int) (hf0:-2199023255552<=first) (hf1:first<=4398046511104) (hb0:-2199023255552<=by_) (hb1:by_<=2199023255552) :
    FnS Tryz.prog 71 [.agg r,.a (.v (.int .i64 lv)),.a (.b nm),.a (.v (.string name)),.a (.v (.int .i64 first)),.a (.v (.int .i64 by_))] σ [] (fun v _ A'=>∃ g1 oc,(laidG g (top12 lv nm name) (fun n=>first+n*by_)).length<=oc/\A'=[r2E (some ⟨g1,0,none⟩) (laidG g (top12 lv nm name) (fun n=>first+n*by_)).length oc (laidG g (top12 lv nm name) (fun n=>first+n*by_))] /\
      v=.slice (some ⟨g1,0,none⟩) (laidG g (top12 lv nm name) (fun n=>first+n*by_)).length oc):=by
  obtain ⟨la,lc,lrows,ma,mc,vrows,rfl,V⟩:=hr.open
  have hG:=shredG_ok (g:=g) (gap:=1) (by omega) (by omega) hs
  obtain ⟨hlen1,hlen2⟩:=shredV_len 1 g 0 false emptyS 0
  have hbd:=(shredV_bd (gap:=1) (by omega) g 0 false emptyS 0).2
  have hstp:∀ r∈(shredV 1 g 0 false emptyS 0).1,0<=r.st - 1/\r.st - 1<=200000/\0<=r.en - 1/\r.en - 1<=200000:=by
    intro r hr
    have h1:=(shred_lay (gap:=1) (by omega) V.rep.wf 0 false emptyS 0).bd r hr
    have h2:=hbd r hr
    rw [hlen2] at h2
    omega
  have hlvb:∀ r∈(shredV 1 g 0 false emptyS 0).1,0<=r.lv/\r.lv<=100000:=by
    intro r hr
    have:=(shred_lay (gap:=1) (by omega) V.rep.wf 0 false emptyS 0).lvb r hr
    omega
  have hmul:∀ n:Int,0<=n->n<=200000 -> -439804651110400000<=n*by_/\n*by_<=439804651110400000:=by
    intro n h1 h2
    have a:=Int.mul_le_mul_of_nonneg_left hb1 h1
    have b:=Int.mul_le_mul_of_nonneg_left hb0 h1
    omega
  have hposL:0<(shredV 1 g 0 false emptyS 0).1.length:=by rw [shredV_eq];simp
  have hlaid:laidG g (top12 lv nm name) (fun n=>first+n*by_)=nameHd nm name ((shredV 1 g 0 false emptyS 0).1.map (lift lv fun n=>first+n*by_)):=rfl
  rw [hlaid]
  refine enter_f Tryz.func71 rfl rfl (by (repeat' (first | exact trivial | exact vCells_lt _ _ _ _ _ _ | constructor))) fun w=>?_
  (repeat (first | refine cj_seq ?_ | refine cjr TT rfl ?_ | refine oj_then ?_))
  refine oj_callF [] (A0:=[]) (Ar:=[]) rfl rfl rfl rfl rfl rfl rfl Tryz.call81 (by (repeat' (first | exact trivial | exact vCells_lt _ _ _ _ _ _ | constructor))) (RShred_f σ g _ 1 V.rep hw) fun v σ1 A1 hle1 ⟨E,hA,ao1,cap1,hc,hE,hv⟩=>?_
  rw [hG] at hc hE hv
  dsimp only at hc hE hv
  subst hA hE
  refine ⟨.tup [.a (.v (.slice ao1 (shredV 1 g 0 false emptyS 0).1.length cap1)),.a (.v (.int .i64 0))],(by (repeat' (first | exact trivial | refine SV.lt_tup ?_ | constructor))),hv.symm,?_⟩
  generalize (shredV 1 g 0 false emptyS 0).1=L at *
  refine oj_run TT rfl ?_
  (repeat (first | refine cj_seq ?_ | refine cjr TT rfl ?_ | refine oj_then ?_ | refine cj_block ?_))
  refine cj_arrAt 0 (E:=r2E ao1 L.length cap1 L) rfl hposL fun g1 hg1=>?_
  have hg1:ao1=some ⟨g1,0,none⟩:=hg1
  subst hg1
  have had:∀ k j:Nat,some (SV.a (AT.v (.pointer (some (Addr.add (Addr.add ⟨g1,0,none⟩ ((k:Int).toNat*11)) j)))))=some (SV.a (AT.v (.pointer (some ⟨g1,k*11+j,none⟩)))):=fun k j=>by rw [add0,Addr.add_lit];rfl
  refine cj_cutB (α:=Unit) (fun _=>σ1) (fun _=>[(2,.a (.b nm)),(3,.a (.v (.string name))),(13,.a (.v (.slice (some ⟨g1,0,none⟩) L.length cap1)))])
    (fun _=>[]) (fun _=>[r2E (some ⟨g1,0,none⟩) L.length cap1 (L.map (lift lv fun n=>first+n*by_))]) 0 (fun _=>True) ?_ (fun _ _=>?_)
  · refine cj_loop (fun (_:Nat)=>σ1) (fun k=>[(1,.a (.v (.int .i64 lv))),(2,.a (.b nm)),(3,.a (.v (.string name))),(4,.a (.v (.int .i64 first))),(5,.a (.v (.int .i64 by_))),(13,.a (.v (.slice (some ⟨g1,0,none⟩) L.length cap1))),(15,.a (.v (.int .i64 (k:Nat))))])
      (fun _=>[]) (fun k=>[r2E (some ⟨g1,0,none⟩) L.length cap1 (mkK (lift lv fun n=>first+n*by_) L k)]) 0 (fun k=>k<=L.length) (fun k=>L.length - k) 0 (Nat.zero_le _) rfl (by (repeat first | exact trivial | refine ⟨rfl,?_⟩)) (by (repeat first | exact trivial | refine ⟨rfl,?_⟩)) rfl (by (repeat' (first | exact trivial | constructor))) (by (repeat' exact trivial)) fun k hk=>?_
    (repeat (first | refine cj_seq ?_ | refine cjr TT rfl ?_ | refine oj_then ?_))
    refine cj_if rfl (fun h=>?_) (fun h=>?_)
    rotate_left
    · have hk0:k=L.length:=by have:=of_decide_eq_false h;omega
      subst hk0
      (repeat (first | refine cj_exit ?_ | refine nj_then_exit ?_ | refine nj_block_out ?_))
      refine nj_again () trivial Nat.zero_lt_one rfl (by (repeat first | exact trivial | refine ⟨rfl,?_⟩)) (by (repeat first | exact trivial | refine ⟨rfl,?_⟩)) ?_ (by (repeat' (first | exact trivial | constructor))) (by (repeat' exact trivial))
      simp [mkK]
    have hkl:k<L.length:=by have:=of_decide_eq_true h;omega
    have hb:=hstp L[k] (List.getElem_mem hkl)
    have hlvk:=hlvb L[k] (List.getElem_mem hkl)
    have hM0:=mkK_get (lift lv fun n=>first+n*by_) L k hkl
    have hS:=mkK_succ (lift lv fun n=>first+n*by_) L k hkl
    have hlenM:=mkK_len (lift lv fun n=>first+n*by_) L k hk
    generalize hx:L[k]=x at *
    have hm1:=hmul _ hb.1 hb.2.1
    have hm2:=hmul _ hb.2.2.1 hb.2.2.2
    let x1:GRec:=⟨x.st,x.en,x.lv+lv,x.kd,x.nm,x.name,x.b,x.n,x.s⟩
    let x2:GRec:=⟨first+(x.st - 1)*by_,x.en,x.lv+lv,x.kd,x.nm,x.name,x.b,x.n,x.s⟩
    have hM1:((mkK (lift lv fun n=>first+n*by_) L k).set k x1)[k]?=some x1:=by rw [List.getElem?_set_self (by omega)]
    have hM2:((mkK (lift lv fun n=>first+n*by_) L k).set k x2)[k]?=some x2:=by rw [List.getElem?_set_self (by omega)]
    have hS1:((mkK (lift lv fun n=>first+n*by_) L k).set k x1).set k x2=(mkK (lift lv fun n=>first+n*by_) L k).set k x2:=by rw [List.set_set]
    have hS2:((mkK (lift lv fun n=>first+n*by_) L k).set k x2).set k (lift lv (fun n=>first+n*by_) x)=mkK (lift lv fun n=>first+n*by_) L (k+1):=by rw [List.set_set];exact hS
    have hoff:∀ j,j<11->k*11+j<L.length*11:=fun j hj=>by omega
    (repeat (first | refine cj_seq ?_ | refine cjr TT rfl ?_ | refine cj_skip ?_ | refine cj_block ?_ | refine nj_then ?_))
    refine oj_indexAddr TT rfl rfl rfl rfl rfl rfl rfl rfl rfl ⟨by omega,by omega⟩ (oj_run TT rfl ?_)
    refine oj_ldA 0 (off:=k*11+2) (c:=.v (.int .i64 x.lv)) TT rfl rfl rfl rfl rfl (had k 2) rfl rfl rfl rfl (recXs_get hM0 rfl) trivial (oj_run TT rfl ?_)
    refine oj_add rfl rfl rfl rfl rfl rfl (by omega) (oj_run TT rfl ?_)
    refine oj_indexAddr TT rfl rfl rfl rfl rfl rfl rfl rfl rfl ⟨by omega,by omega⟩ (oj_run TT rfl ?_)
    refine oj_stA 0 (off:=k*11+2) (A':=[r2E (some ⟨g1,0,none⟩) L.length cap1 ((mkK (lift lv fun n=>first+n*by_) L k).set k x1)]) TT rfl rfl rfl rfl (had k 2) rfl rfl rfl rfl rfl (hoff 2 (by omega)) trivial rfl ?_ (oj_run TT rfl ?_)
    · show [_]=[_]
      congr 1
      unfold r2E
      congr 1
      exact recXs_set (r':=x1) (.v (.int .i64 (x.lv+lv))) hM0 (by omega) rfl
    (repeat (first | refine cj_seq ?_ | refine cjr TT rfl ?_ | refine oj_then ?_))
    refine oj_indexAddr TT rfl rfl rfl rfl rfl rfl rfl rfl rfl ⟨by omega,by omega⟩ (oj_run TT rfl ?_)
    refine oj_ldA 0 (off:=k*11+0) (c:=.v (.int .i64 x.st)) TT rfl rfl rfl rfl rfl (had k 0) rfl rfl rfl rfl (recXs_get hM1 rfl) trivial (oj_run TT rfl ?_)
    refine oj_minus rfl rfl rfl rfl rfl rfl (by omega) (oj_run TT rfl ?_)
    refine oj_mul rfl rfl rfl rfl rfl rfl (by omega) (oj_run TT rfl ?_)
    refine oj_add rfl rfl rfl rfl rfl rfl (by omega) (oj_run TT rfl ?_)
    refine oj_indexAddr TT rfl rfl rfl rfl rfl rfl rfl rfl rfl ⟨by omega,by omega⟩ (oj_run TT rfl ?_)
    refine oj_stA 0 (off:=k*11+0) (A':=[r2E (some ⟨g1,0,none⟩) L.length cap1 ((mkK (lift lv fun n=>first+n*by_) L k).set k x2)]) TT rfl rfl rfl rfl (had k 0) rfl rfl rfl rfl rfl (hoff 0 (by omega)) trivial rfl ?_ (oj_run TT rfl ?_)
    · show [_]=[_]
      congr 1
      unfold r2E
      congr 1
      rw [<-hS1]
      exact recXs_set (r':=x2) (.v (.int .i64 (first+(x.st - 1)*by_))) hM1 (by omega) rfl
    (repeat (first | refine cjr TT rfl ?_ | refine oj_then ?_))
    refine oj_indexAddr TT rfl rfl rfl rfl rfl rfl rfl rfl rfl ⟨by omega,by omega⟩ (oj_run TT rfl ?_)
    refine oj_ldA 0 (off:=k*11+1) (c:=.v (.int .i64 x.en)) TT rfl rfl rfl rfl rfl (had k 1) rfl rfl rfl rfl (recXs_get hM2 rfl) trivial (oj_run TT rfl ?_)
    refine oj_minus rfl rfl rfl rfl rfl rfl (by omega) (oj_run TT rfl ?_)
    refine oj_mul rfl rfl rfl rfl rfl rfl (by omega) (oj_run TT rfl ?_)
    refine oj_add rfl rfl rfl rfl rfl rfl (by omega) (oj_run TT rfl ?_)
    refine oj_indexAddr TT rfl rfl rfl rfl rfl rfl rfl rfl rfl ⟨by omega,by omega⟩ (oj_run TT rfl ?_)
    refine oj_stA 0 (off:=k*11+1) (A':=[r2E (some ⟨g1,0,none⟩) L.length cap1 (mkK (lift lv fun n=>first+n*by_) L (k+1))]) TT rfl rfl rfl rfl (had k 1) rfl rfl rfl rfl rfl (hoff 1 (by omega)) trivial rfl ?_ (oj_run TT rfl ?_)
    · show [_]=[_]
      congr 1
      unfold r2E
      congr 1
      rw [<-hS2]
      exact recXs_set (r':=lift lv (fun n=>first+n*by_) x) (.v (.int .i64 (first+(x.en - 1)*by_))) hM2 (by omega) rfl
    (repeat (first | refine cjr TT rfl ?_ | refine oj_nil ?_ | refine nj_then ?_ | refine nj_block ?_ | (refine oj_add rfl rfl rfl rfl rfl rfl (by omega) ?_;refine oj_run TT rfl ?_)))
    refine nj_again (k+1) hkl (by omega) rfl (by (repeat first | exact trivial | refine ⟨rfl,?_⟩)) (by (repeat first | exact trivial | refine ⟨rfl,?_⟩)) rfl (by (repeat' (first | exact trivial | constructor))) (by (repeat' exact trivial))
  generalize hM:L.map (lift lv fun n=>first+n*by_)=M at *
  have hMl:M.length=L.length:=by rw [<-hM,List.length_map]
  obtain ⟨m0,M1,rfl⟩:∃ m0 M1,M=m0::M1:=by
    cases M with
    | nil=>rw [List.length_nil] at hMl;omega
    | cons a b=>exact ⟨a,b,rfl⟩
  rw [<-hMl]
  let m1:GRec:=⟨m0.st,m0.en,m0.lv,m0.kd,nm,m0.name,m0.b,m0.n,m0.s⟩
  (repeat (first | refine cj_seq ?_ | refine cjr TT rfl ?_))
  refine oj_indexAddr TT rfl rfl rfl rfl rfl rfl rfl rfl rfl ⟨by omega,by rw [List.length_cons];omega⟩ (oj_run TT rfl ?_)
  refine oj_stA 0 (off:=0*11+4) (A':=[r2E (some ⟨g1,0,none⟩) (m0::M1).length cap1 (m1::M1)]) TT rfl rfl rfl rfl (had 0 4) rfl rfl rfl rfl rfl (by show 0*11+4<(m0::M1).length*11;rw [List.length_cons];omega) trivial rfl rfl (oj_run TT rfl ?_)
  (repeat (first | refine cj_seq ?_ | refine cjr TT rfl ?_ | refine oj_then ?_))
  refine oj_indexAddr TT rfl rfl rfl rfl rfl rfl rfl rfl rfl ⟨by omega,by rw [List.length_cons];omega⟩ (oj_run TT rfl ?_)
  refine oj_stA 0 (off:=0*11+5) (A':=[r2E (some ⟨g1,0,none⟩) (m0::M1).length cap1 (reName nm name m0::M1)]) TT rfl rfl rfl rfl (had 0 5) rfl rfl rfl rfl rfl (by show 0*11+5<(m0::M1).length*11;rw [List.length_cons];omega) trivial rfl rfl (oj_run TT rfl ?_)
  (repeat (first | refine cj_seq ?_ | refine cjr TT rfl ?_ | refine oj_then ?_ | refine cj_ret ?_))
  refine nj_fret TT rfl fun β w' _ _=>?_
  exact ⟨g1,cap1,by rw [nameHd_len,hMl];exact hc,rfl,rfl⟩
end Go.Sy
/- Plain laws: what is laid into a sound list's records is numbered anew alike by both. No program in sight. -/
namespace Go.Sy
theorem er_fields {L M:List GRec} (h:L.map er=M.map er) {i:Nat} {x y:GRec} (hx:L[i]?=some x) (hy:M[i]?=some y):x.lv=y.lv/\x.kd=y.kd/\x.nm=y.nm/\x.name=y.name/\x.b=y.b/\x.n=y.n/\x.s=y.s:=by
  obtain ⟨z,hz,he⟩:=er_get h hx
  rw [hy] at hz
  obtain rfl:=Option.some.inj hz
  obtain ⟨_,_,_,_,_,_,_,_,_⟩:=x
  obtain ⟨_,_,_,_,_,_,_,_,_⟩:=y
  simp only [er,stE,GRec.mk.injEq,true_and] at he
  obtain ⟨rfl,rfl,rfl,rfl,rfl,rfl,rfl⟩:=he
  exact ⟨rfl,rfl,rfl,rfl,rfl,rfl,rfl⟩
theorem ins_whole {L:List GRec} (hs:soundG L=true) {i:Nat} {r:GRec} (hr:L[i]?=some r) (hkd:r.kd=4\/r.kd=5) {k:Int} {gp:GGap} (hg:gapG L i k=some gp) {x:GVal} (hx:x.wf) (key:ByteArray) {top:GRec}
    (t1:top.lv=r.lv+1) (t2:top.nm=decide (r.kd=5)) (t3:top.name=if r.kd=5 then key else emptyS) (ν:Int->Int) :
    ∃ g':GVal,g'.wf/\(spliced L gp.at_.toNat gp.at_.toNat (laidG x top ν)).map er=(shredV 1 g' 0 false emptyS 0).1.map er:=by
  have hi:=(List.getElem?_eq_some_iff.1 hr).1
  obtain ⟨g,hw,hk,hd,her,hkl,hloc⟩:=sound_loc hs
  obtain ⟨P,h,now,hsub,hl⟩:=hloc i hi
  obtain ⟨nm,name,hrec⟩:=hl.rec_
  obtain ⟨f1,f2,-,-,-,-,-⟩:=er_fields her hr hrec
  dsimp only at f1 f2
  obtain ⟨hkk,hkp⟩:=kid_pos (gap:=1) (by omega) hl
  have hk1:=(hkl i hi).1
  have hkin:¬ (k<0\/((kidsG L i).length:Int)<k):=fun hc=>by
    unfold gapG at hg
    rw [if_pos hc] at hg
    cases hg
  obtain ⟨kk,rfl⟩:∃ j:Nat,k=j:=⟨k.toNat,by omega⟩
  have hkn:kk<=(its h).length:=by
    rw [hk1,hkk] at hkin
    omega
  have hat:gp.at_=((i+1+cntI ((its h).take kk):Nat):Int):=by
    have h2:=gap_loc (gap:=1) (by omega) hl hkn
    unfold gapG at hg h2
    rw [if_neg hkin] at hg
    rw [hk1] at hkin
    rw [if_neg hkin] at h2
    have hg:=congrArg GGap.at_ (Option.some.inj hg)
    have h2:=congrArg GGap.at_ (Option.some.inj h2)
    unfold gapK at hg h2
    dsimp only at hg h2
    rw [<-hg,<-h2,Int.toNat_natCast,hk1]
    by_cases h0:0<kk
    · rw [if_pos h0,if_pos h0]
      have hx:(its h)[kk - 1]?=some ((its h)[kk - 1]'(by omega)):=List.getElem?_eq_getElem _
      have hm:=hkp _ _ hx
      rw [getD_get hm]
      have hml:i+1+cntI ((its h).take (kk - 1))<L.length:=by
        rw [er_len her]
        obtain ⟨_,_,e⟩:=(hl.kid (gap:=1) (by omega) hx).1.rec_
        exact (List.getElem?_eq_some_iff.1 e).1
      rw [(hkl _ hml).2]
    · rw [if_neg h0,if_neg h0]
  rw [hat,Int.toNat_natCast]
  obtain ⟨g',hw',hM⟩:=spl_ins hw hk hd hsub hl hkn (by omega) hx key
  refine ⟨g',hw',?_⟩
  rw [<-hM (laidG x top ν) fun n=>by rw [laid_er hx top ν 1 n,t1,t2,t3,f1,f2]]
  exact spl_er her _ _ rfl
theorem rep_whole {L:List GRec} (hs:soundG L=true) {i:Nat} {r:GRec} (hr:L[i]?=some r) {x:GVal} (hx:x.wf) {M:List GRec} (hM:M.map er=(shredV 1 x r.lv r.nm r.name 0).1.map er) :
    ∃ g':GVal,g'.wf/\(spliced L i (lastG L i+1).toNat M).map er=(shredV 1 g' 0 false emptyS 0).1.map er:=by
  have hi:=(List.getElem?_eq_some_iff.1 hr).1
  obtain ⟨g,hw,hk,hd,her,hkl,hloc⟩:=sound_loc hs
  obtain ⟨P,h,now,hsub,hl⟩:=hloc i hi
  obtain ⟨g',nm',name',hw',hrec,hH⟩:=spl_rep hw hk hsub hl hx
  obtain ⟨f1,-,f3,f4,-,-,-⟩:=er_fields her hr hrec
  dsimp only at f1 f3 f4
  have hla:=hl.last (gap:=1) (by omega)
  refine ⟨g',hw',?_⟩
  rw [(hkl i hi).2,hla,show ((i:Int)+cntV h - 1+1).toNat=i+cntV h by omega,<-hH M (by rw [hM,f1,f3,f4])]
  exact spl_er her _ _ rfl
end Go.Sy
namespace Go.Sy
open Go.Proofs
set_option maxRecDepth 100000 in
set_option maxHeartbeats 1000000 in
theorem number17_c (σ:Snap) (r:GRec) (gr gx:Nat) (room:Int) (hr:∀ (j:Nat) c,(recCells r)[j]?=some c->σ.cell ⟨gr,j,none⟩=some c.val) (hx:σ.cell ⟨gx,22,none⟩=some (.int .i64 room)) (n m:Int) (hroom:room=r.en - r.st+1) (h1:-1<=r.st/\r.st<=1099511627776) (h2:-1<=r.en/\r.en<=1099511627776) (hn:0<=n/\n<=1000000) (hm:1<=m/\m<=1000000) :
    PlainS Tryz.prog 78 [.a (.v (.int .i64 n)),.a (.v (.int .i64 m)),.a (.v (.pointer (some ⟨gr,0,none⟩))),.a (.v (.pointer (some ⟨gx,0,none⟩)))] σ (fun v=>v=.int .i64 (repN r m n)):=by
  have hd:repN r m n=if n=2*m - 1 then r.en else r.st+(r.en - r.st+1).tdiv (2*m)*n:=rfl
  rw [<-hroom] at hd
  have c0:=hr 0 _ rfl
  have c1:=hr 1 _ rfl
  have hq:=tdiv_bd (b:=2*m) (show -1099511627778<=room/\room<=1099511627778 by omega)
  have hp:=mul_bd (a:=room.tdiv (2*m)) (b:=n) (c:=1099511627778) (d:=1000001) (by omega) (by omega)
  refine enter_p Tryz.func78 rfl rfl (by (repeat' (first | exact trivial | constructor))) fun w=>?_
  (repeat (first | refine cj_seq ?_ | refine cjr TT rfl ?_ | refine oj_then ?_))
  refine oj_mul rfl rfl rfl rfl rfl rfl (by omega) (oj_run TT rfl ?_)
  refine oj_minus rfl rfl rfl rfl rfl rfl (by omega) (oj_run TT rfl ?_)
  (repeat refine oj_then ?_)
  refine cj_if rfl (fun h=>?_) (fun h=>?_)
  · rw [if_pos (of_decide_eq_true h)] at hd
    (repeat (first | refine cj_seq ?_ | refine cjr TT rfl ?_))
    refine oj_ldS (c:=.v (.int .i64 r.en)) TT rfl rfl rfl rfl rfl rfl rfl rfl c1 trivial (oj_run TT rfl ?_)
    (repeat (first | refine oj_then ?_ | refine cj_ret ?_ | refine nj_then_ret ?_))
    refine nj_ret TT rfl fun β w' _ _=>?_
    rw [hd]
    rfl
  · rw [if_neg (of_decide_eq_false h)] at hd
    (repeat (first | refine cj_seq ?_ | refine cj_skip ?_ | refine nj_then ?_))
    refine cj_draw [(0,.pure),(1,.quiet),(2,.pure),(3,.quiet),(4,.pure),(5,.pure),(6,.pure),(7,.pure),(8,.pure),(9,.pure),(10,.pure)] mixed (by kernel_rfl) (oj_run TT rfl ?_)
    refine oj_ldS (c:=.v (.int .i64 r.st)) TT rfl rfl rfl rfl rfl rfl rfl rfl c0 trivial (oj_run TT rfl ?_)
    refine oj_ldS (c:=.v (.int .i64 room)) TT rfl rfl rfl rfl rfl rfl rfl rfl hx trivial (oj_run TT rfl ?_)
    refine oj_mul rfl rfl rfl rfl rfl rfl (by omega) (oj_run TT rfl ?_)
    refine oj_quo rfl rfl rfl rfl rfl rfl (by omega) (by omega) (oj_run TT rfl ?_)
    refine oj_mul rfl rfl rfl rfl rfl rfl (by omega) (oj_run TT rfl ?_)
    refine oj_add rfl rfl rfl rfl rfl rfl (by omega) (oj_run TT rfl ?_)
    (repeat (first | refine oj_then ?_ | refine cj_ret ?_))
    refine nj_ret TT rfl fun β w' _ _=>?_
    rw [hd]
    rfl
set_option maxRecDepth 100000 in
set_option maxHeartbeats 1000000 in
theorem Replace12n_c (σ:Snap) (L:List GRec) (S:SndL L) (ao:Option Addr) (cap:Nat) (H:SlAt σ ao L.length cap 11 (recRows L)) (i:Int) (g:GVal) (r:List AT) (hr:RepV σ g r) (hW:recsW L+g.weight<=100000) (hN:∀ x∈L,recsW L+g.weight+x.name.size<=100000) :
    PureS Tryz.prog 21 [.a (.v (.slice ao L.length cap)),.a (.v (.int .i64 i)),.agg r] σ (fun v σ'=>ResOk σ' (replaceG L i g) v):=by
  obtain ⟨la,lc,lrows,ma,mc,vrows,rfl,V⟩:=hr.open
  have hrg:replaceG L i g=if placeE L i≠0 then ⟨[],0,0,placeE L i⟩ else if sane g≠0 then ⟨[],0,0,sane g⟩ else
    match L[i.toNat]? with
    | none=>⟨[],0,0,1⟩
    | some r=>runG L i.toNat (lastG L i.toNat+1).toNat (laidG g r (repN r (cntS g))) (r.en - r.st+1):=rfl
  refine enter_s Tryz.func21 rfl rfl (by (repeat' (first | exact trivial | exact vCells_lt _ _ _ _ _ _ | constructor))) fun w=>?_
  (repeat (first | refine cj_seq ?_ | refine cjr TT rfl ?_ | refine oj_then ?_))
  refine oj_callP rfl rfl rfl rfl rfl Tryz.call58 (by (repeat' (first | exact trivial | constructor))) (place12_c σ L S.ok ao cap H i) fun v hv=>⟨.a (.v (.int .i64 (placeE L i))),trivial,hv.symm,?_⟩
  refine oj_run TT rfl ?_
  (repeat (first | refine cj_seq ?_ | refine cjr TT rfl ?_ | refine oj_then ?_))
  refine cj_cutN (fun (_:Unit)=>σ) (fun _=>[(0,.a (.v (.slice ao L.length cap))),(1,.a (.v (.int .i64 i))),(5,.a (.p 0 0)),(7,.a (.p 1 0)),(9,.a (.v (.int .i64 (if placeE L i≠0 then placeE L i else sane g))))])
    (fun _=>[(0,.loc 28,vCells g la lc ma mc),(1,.loc 35,[.v (.int .i64 0),.v (.int .i64 0)])]) (fun _=>[]) 2 (fun _=>True) ?_ (fun _ _=>?_)
  · refine cj_if rfl (fun h=>?_) (fun h=>?_)
    · have h:=of_decide_eq_true (show decide (placeE L i=0)=true from h)
      rw [if_neg (by simp [h])]
      (repeat refine cjr TT rfl ?_)
      refine oj_callP rfl rfl rfl rfl rfl Tryz.call60 (by (repeat' (first | exact trivial | exact vCells_lt _ _ _ _ _ _ | constructor))) (Sane_c σ g _ V.rep (by omega)) fun v hv=>⟨.a (.v (.int .i64 (sane g))),trivial,hv.symm,?_⟩
      refine oj_run TT rfl ?_
      (repeat refine oj_nil ?_)
      refine nj_again () trivial Nat.zero_lt_one rfl (by (repeat first | exact trivial | refine ⟨rfl,?_⟩)) (by (repeat first | exact trivial | refine ⟨rfl,?_⟩)) rfl (by (repeat' (first | exact trivial | exact Nat.le_of_ble_eq_true rfl | constructor))) (by (repeat' (first | exact trivial | exact Nat.le_of_ble_eq_true rfl | exact vCells_lt _ _ _ _ _ _ | refine AllLt.of ?_ | constructor)))
    · have h:=of_decide_eq_false (show decide (placeE L i=0)=false from h)
      rw [if_pos h]
      (repeat refine cj_skip ?_)
      refine nj_again () trivial Nat.zero_lt_one rfl (by (repeat first | exact trivial | refine ⟨rfl,?_⟩)) (by (repeat first | exact trivial | refine ⟨rfl,?_⟩)) rfl (by (repeat' (first | exact trivial | exact Nat.le_of_ble_eq_true rfl | constructor))) (by (repeat' (first | exact trivial | exact Nat.le_of_ble_eq_true rfl | exact vCells_lt _ _ _ _ _ _ | refine AllLt.of ?_ | constructor)))
  (repeat (first | refine cj_seq ?_ | refine cjr TT rfl ?_ | refine oj_then ?_))
  refine cj_if rfl (fun h=>?_) (fun h=>?_)
  · have h:(if placeE L i≠0 then placeE L i else sane g)≠0:=by simpa using (show (!decide ((if placeE L i≠0 then placeE L i else sane g)=0))=true from h)
    have hrg2:replaceG L i g=⟨[],0,0,if placeE L i≠0 then placeE L i else sane g⟩:=by
      rw [hrg]
      by_cases hp:placeE L i≠0
      · rw [if_pos hp,if_pos hp]
      · rw [if_neg hp] at h
        rw [if_neg hp,if_pos h,if_neg hp]
    rw [hrg2]
    (repeat (first | refine cj_seq ?_ | refine cjr TT rfl ?_ | refine oj_then ?_ | refine cj_ret ?_ | refine nj_then_ret ?_))
    refine nj_ret TT rfl fun β w' _ _=>?_
    exact bad_ok _ _
  have h:(if placeE L i≠0 then placeE L i else sane g)=0:=by simpa using (show (!decide ((if placeE L i≠0 then placeE L i else sane g)=0))=false from h)
  have hp0:placeE L i=0:=by
    by_cases hp:placeE L i≠0
    · rw [if_pos hp] at h;exact h
    · simpa using hp
  rw [if_neg (by simp [hp0])] at h
  have hsg:sane g=0:=h
  rw [if_neg (by simp [hp0]),if_neg (by simp [h])] at hrg
  obtain ⟨hs,hi0,hil⟩:=place_ok hp0
  obtain ⟨i,rfl⟩:∃ j:Nat,i=j:=⟨i.toNat,by omega⟩
  rw [Int.toNat_natCast] at hrg
  have hi:i<L.length:=by omega
  have hLi:L[i]?=some L[i]:=List.getElem?_eq_getElem hi
  rw [hLi] at hrg
  dsimp only at hrg
  have hrow:=recRows_get hLi
  have hnum:=S.num hs L[i] (List.getElem_mem hi)
  have hlv:=sound_levels hs
  have hlvi:=hlv L[i] (List.getElem_mem hi)
  have hmemi:L[i]∈L:=List.getElem_mem hi
  have hSL:=S.len
  have hlb:=lastG_bd L i hi
  obtain ⟨j,hj⟩:∃ j:Nat,lastG L i+1=j:=⟨(lastG L i+1).toNat,by omega⟩
  rw [hj,Int.toNat_natCast] at hrg
  generalize L[i]=x at *
  (repeat (first | refine cj_seq ?_ | refine cjr TT rfl ?_ | refine cj_skip ?_ | refine nj_then ?_))
  refine oj_idx TT rfl rfl rfl rfl rfl rfl rfl rfl rfl H (by omega) hrow (oj_run TT rfl ?_)
  (repeat (first | refine cj_seq ?_ | refine oj_then ?_))
  refine cj_cutN (fun (_:Unit)=>σ) (fun _=>[(5,.a (.p 0 0)),(7,.a (.p 1 0)),(10,.a (.p 3 0)),(11,.a (.p 4 0))])
    (fun _=>[(1,.loc 35,[.v (.int .i64 0),.v (.int .i64 0)]),(3,.loc 130,recCells x),(4,.loc 142,[.v (.slice ao L.length cap),.v (.int .i64 i),.v (.int .i64 j)]++(recCells x++(vCells g la lc ma mc++[.v (.int .i64 (x.en - x.st+1)),.v .nilFunc])))]) (fun _=>[]) 5 (fun _=>True) ?_ (fun _ _=>?_)
  · refine cj_drawG 17 [0,1,2,3,5,8,10,12,13,14] mixed (by kernel_rfl) rfl ?_
    refine gj_val (i:=0) TT rfl (by kernel_rfl) (by kernel_rfl) rfl rfl rfl rfl rfl ?_
    refine gj_val (i:=1) TT rfl (by kernel_rfl) (by kernel_rfl) rfl rfl rfl rfl rfl ?_
    refine gj_val (i:=2) TT rfl (by kernel_rfl) (by kernel_rfl) rfl rfl rfl rfl rfl ?_
    refine gj_val (i:=3) TT rfl (by kernel_rfl) (by kernel_rfl) rfl rfl rfl rfl rfl ?_
    refine gj_val (i:=6) TT rfl (by kernel_rfl) (by kernel_rfl) rfl rfl rfl rfl rfl ?_
    refine gj_val (i:=7) TT rfl (by kernel_rfl) (by kernel_rfl) rfl rfl rfl rfl rfl ?_
    refine gj_val (i:=8) TT rfl (by kernel_rfl) (by kernel_rfl) rfl rfl rfl rfl rfl ?_
    refine gj_val (i:=9) TT rfl (by kernel_rfl) (by kernel_rfl) rfl rfl rfl rfl rfl ?_
    refine gj_val (i:=10) TT rfl (by kernel_rfl) (by kernel_rfl) rfl rfl rfl rfl rfl ?_
    refine gj_val (i:=11) TT rfl (by kernel_rfl) (by kernel_rfl) rfl rfl rfl rfl rfl ?_
    refine gj_minus (i:=12) rfl rfl (by kernel_rfl) (by kernel_rfl) rfl rfl rfl rfl rfl rfl (by omega) ?_
    refine gj_add (i:=13) rfl rfl (by kernel_rfl) (by kernel_rfl) rfl rfl rfl rfl rfl rfl (by omega) ?_
    refine gj_two (i:=4) (j:=15) (by kernel_rfl) ?_ ?_
    · refine gk_callP rfl rfl rfl rfl rfl Tryz.call77 (by (repeat' (first | exact trivial | constructor))) (Last_c σ L S.ok ao cap H i hi hs) fun v hv=>⟨.a (.v (.int .i64 (lastG L i))),trivial,hv.symm,?_⟩
      refine gj_add (i:=5) rfl rfl (by kernel_rfl) (by kernel_rfl) rfl rfl rfl rfl rfl rfl (by omega) ?_
      rw [hj]
      refine gj_order [(14,.pure),(15,.keep),(16,.sink)] rfl rfl (by kernel_rfl) ?_
      refine oj_run TT rfl ?_
      (repeat refine oj_nil ?_)
      refine nj_again () trivial Nat.zero_lt_one rfl (by (repeat first | exact trivial | refine ⟨rfl,?_⟩)) (by (repeat first | exact trivial | refine ⟨rfl,?_⟩)) rfl (by (repeat' (first | exact trivial | exact Nat.le_of_ble_eq_true rfl | constructor))) (by (repeat' (first | exact trivial | exact Nat.le_of_ble_eq_true rfl | refine AllLt.of ?_ | constructor)))
    · refine gk_new TT rfl rfl rfl rfl rfl ?_
      refine gj_order [(4,.keep),(5,.pure),(14,.pure),(16,.sink)] rfl rfl (by kernel_rfl) ?_
      refine oj_callP rfl rfl rfl rfl rfl Tryz.call77 (by (repeat' (first | exact trivial | constructor))) (Last_c σ L S.ok ao cap H i hi hs) fun v hv=>⟨.a (.v (.int .i64 (lastG L i))),trivial,hv.symm,?_⟩
      refine oj_run TT rfl ?_
      refine oj_add rfl rfl rfl rfl rfl rfl (by omega) (oj_run TT rfl ?_)
      rw [hj]
      refine oj_run TT rfl ?_
      (repeat refine oj_nil ?_)
      refine nj_again () trivial Nat.zero_lt_one rfl (by (repeat first | exact trivial | refine ⟨rfl,?_⟩)) (by (repeat first | exact trivial | refine ⟨rfl,?_⟩)) rfl (by (repeat' (first | exact trivial | exact Nat.le_of_ble_eq_true rfl | constructor))) (by (repeat' (first | exact trivial | exact Nat.le_of_ble_eq_true rfl | refine AllLt.of ?_ | constructor)))
  have hxn:x.name.size<=recsW L:=by
    have:∀ l:List GRec,x∈l->recW x<=recsW l:=by
      intro l
      induction l with
      | nil=>intro h;cases h
      | cons y l ih =>
        intro h
        rw [recsW]
        rcases List.mem_cons.1 h with rfl | h
        · omega
        · have:=ih h;omega
    have:=this L hmemi
    unfold recW at this
    omega
  have hnx:=hN x hmemi
  refine cj_own 3 1 11 rfl (recCells_lt 0 x) rfl (by decide) fun gr=>?_
  refine cj_own 4 1 24 rfl (by (repeat' (first | exact trivial | refine AllLt.of ?_ | constructor))) rfl (by decide) fun gx=>?_
  (repeat (first | refine cj_seq ?_ | refine cjr TT rfl ?_))
  refine oj_stA 1 (off:=23) (c:=.fn (.func 78) [ptrTo gr,ptrTo gx]) (A':=[⟨some ⟨gr,0,none⟩,1,1,130,11,(recCells x).map AT.val⟩,⟨some ⟨gx,0,none⟩,1,1,142,24,(editCells ao L.length cap i j x (vCells g la lc ma mc) (x.en - x.st+1) 78 [ptrTo gr,ptrTo gx]).map AT.val⟩]) TT rfl rfl rfl rfl (by rw [add0];rfl) rfl rfl rfl rfl rfl (by show 23<1*24;omega) (fn_lt_caps (f:=.func 78) (caps:=[ptrTo gr,ptrTo gx]) ⟨trivial,trivial,trivial⟩ 0) rfl rfl (oj_run TT rfl ?_)
  (repeat (first | refine cj_seq ?_ | refine cjr TT rfl ?_ | refine oj_then ?_))
  refine oj_seal 0 rfl rfl rfl fun σ1 hle1 hS1=>?_
  refine oj_seal 0 rfl rfl rfl fun σ2 hle2 hS2=>?_
  have hcr:∀ (q:Nat) c,(recCells x)[q]?=some c->σ1.cell ⟨gr,q,none⟩=some c.val:=fun q c hq=>by
    rcases hS1 with ⟨h,_⟩ | ⟨g',h1,h2⟩
    · cases h
    · obtain rfl:gr=g':=by simpa using h1
      exact h2 q _ (by show (List.map AT.val (recCells x))[q]?=_;rw [List.getElem?_map,hq];rfl)
  have hcx:∀ (q:Nat) c,(editCells ao L.length cap i j x (vCells g la lc ma mc) (x.en - x.st+1) 78 [ptrTo gr,ptrTo gx])[q]?=some c->σ2.cell ⟨gx,q,none⟩=some c.val:=fun q c hq=>by
    rcases hS2 with ⟨h,_⟩ | ⟨g',h1,h2⟩
    · cases h
    · obtain rfl:gx=g':=by simpa using h1
      exact h2 q _ (by show (List.map AT.val (editCells ao L.length cap i j x (vCells g la lc ma mc) (x.en - x.st+1) 78 [ptrTo gr,ptrTo gx]))[q]?=_;rw [List.getElem?_map,hq];rfl)
  have hlt:=edit_lt (g:=g) (la:=la) (lc:=lc) (ma:=ma) (mc:=mc) ao L.length cap (i:Int) (j:Int) x (x.en - x.st+1) 78 (caps:=[ptrTo gr,ptrTo gx]) ⟨trivial,trivial,trivial⟩ 0
  refine oj_row 11 (editCells ao L.length cap i j x (vCells g la lc ma mc) (x.en - x.st+1) 78 [ptrTo gr,ptrTo gx]) rfl hlt (fun q c hq=>by rw [add0];exact hcx q c hq) (oj_run TT rfl ?_)
  have H:=H.mono (Snap.le_trans hle1 hle2)
  have V:=V.monoC (Snap.le_trans hle1 hle2).cle
  have hct:cntS g=(shredV 1 g 0 false emptyS 0).1.length:=rfl
  have hcw:cntS g<=100000:=by rw [hct];have:=(shredV_len 1 g 0 false emptyS 0).1;omega
  have hcp:1<=cntS g:=by rw [cntS_eq V.rep.wf];exact cntV_pos g
  have hlw:=laid_w g x (repN x (cntS g))
  have hsw:=spliced_w L (laidG g x (repN x (cntS g))) i j (by omega)
  have hrc:=run_c σ2 g la lc lrows ma mc vrows V (by omega) hsg L ao cap H (by omega) i j (by omega) (by omega) x ⟨hlvi.1,by omega⟩ (x.en - x.st+1) 78 [ptrTo gr,ptrTo gx] ⟨trivial,trivial,trivial⟩ Tryz.call78
    (repN x (cntS g)) (fun σ' hle' q h0 h1=>number17_c σ' x gr gx (x.en - x.st+1) (fun q c hq=>(Snap.le_trans hle2 hle').cell (hcr q c hq)) (hle'.cell (hcx 22 _ rfl)) q _ rfl ⟨hnum.1,hnum.2.1⟩ ⟨hnum.2.2.1,hnum.2.2.2⟩ (by omega) (by omega))
    (spliced_fit S.ok.fit (laid_fit V.rep x (S.ok.fit x hmemi).2.2 _) i j) (by omega) (fun q hq=>by
      rcases spliced_mem hq with hq | hq
      · exact (hlv q hq).1
      · exact laid_lv V.rep.wf x hlvi.1 _ q hq)
  rw [hrg]
  generalize runG L i j (laidG g x (repN x (cntS g))) (x.en - x.st+1)=R at *
  refine oj_callS (ys:=[.agg (editCells ao L.length cap (i:Int) (j:Int) x (vCells g la lc ma mc) (x.en - x.st+1) 78 [ptrTo gr,ptrTo gx])]) rfl rfl rfl rfl rfl Tryz.call63 ⟨hlt,trivial⟩ hrc fun v σ4 hle4 ⟨bo,bc,hv,HR⟩=>⟨.tup [.a (.v (.slice bo R.l.length bc)),.agg [.v (.int .i64 R.laid),.v (.int .i64 R.moved)],.a (.v (.int .i64 R.e))],(by (repeat' (first | exact trivial | refine AllLt.of ?_ | refine SV.lt_tup ?_ | constructor))),hv.symm,?_⟩
  refine oj_run TT rfl ?_
  (repeat (first | refine oj_then ?_ | refine cj_ret ?_))
  refine nj_ret TT rfl fun β w' _ _=>?_
  exact ⟨bo,bc,rfl,HR⟩
end Go.Sy
namespace Go.Sy
open Go.Proofs
set_option maxRecDepth 100000 in
set_option maxHeartbeats 1000000 in
theorem RDelete_c (σ:Snap) (L:List GRec) (hW:recsW L<=100000) (hL:L.length<=4096) (ao:Option Addr) (cap:Nat) (H:SlAt σ ao L.length cap 11 (recRows L)) (i:Int) :
    PureS Tryz.prog 20 [.a (.v (.slice ao L.length cap)),.a (.v (.int .i64 i))] σ (fun v σ'=>∃ bo bc,v=.tuple #[.slice bo (deleteG L i).1.length bc,.int .i64 (deleteG L i).2]/\SlAt σ' bo (deleteG L i).1.length bc 11 (recRows (deleteG L i).1)):=by
  have hdg:deleteG L i=if placeE L i≠0 then ([],placeE L i) else if i=0 then ([],6) else (L.take i.toNat++L.drop (lastG L i.toNat+1).toNat,0):=rfl
  refine enter_s Tryz.func20 rfl rfl (by (repeat' (first | exact trivial | constructor))) fun w=>?_
  (repeat (first | refine cj_seq ?_ | refine cjr TT rfl ?_ | refine oj_then ?_))
  refine oj_callP rfl rfl rfl rfl rfl Tryz.call64 (by (repeat' (first | exact trivial | constructor))) (rplace12_c σ L hW hL ao cap H i) fun v hv=>⟨.a (.v (.int .i64 (placeE L i))),trivial,hv.symm,?_⟩
  refine oj_run TT rfl ?_
  (repeat (first | refine cj_seq ?_ | refine cjr TT rfl ?_ | refine oj_then ?_))
  refine cj_if rfl (fun h=>?_) (fun h=>?_)
  · have h:placeE L i≠0:=by simpa using h
    rw [if_pos h] at hdg
    rw [hdg]
    (repeat (first | refine cj_seq ?_ | refine cjr TT rfl ?_ | refine oj_then ?_ | refine cj_ret ?_ | refine nj_then_ret ?_))
    refine nj_ret TT rfl fun β w' _ _=>?_
    exact ⟨none,0,rfl,SlAt.nil _ _ _ _⟩
  have h:placeE L i=0:=by simpa using h
  rw [if_neg (by simp [h])] at hdg
  obtain ⟨hs,hi0,hil⟩:=place_ok h
  (repeat (first | refine cj_seq ?_ | refine cjr TT rfl ?_ | refine oj_then ?_ | refine cj_skip ?_ | refine nj_then ?_))
  refine cj_if rfl (fun h=>?_) (fun h=>?_)
  · have h:i=0:=of_decide_eq_true h
    rw [if_pos h] at hdg
    rw [hdg]
    (repeat (first | refine cj_seq ?_ | refine cjr TT rfl ?_ | refine oj_then ?_ | refine cj_ret ?_ | refine nj_then_ret ?_))
    refine nj_ret TT rfl fun β w' _ _=>?_
    exact ⟨none,0,rfl,SlAt.nil _ _ _ _⟩
  have h0:¬ i=0:=of_decide_eq_false h
  rw [if_neg h0] at hdg
  obtain ⟨i,rfl⟩:∃ j:Nat,i=j:=⟨i.toNat,by omega⟩
  rw [Int.toNat_natCast] at hdg
  have hi:i<L.length:=by omega
  have hat:atG L i=true:=by
    unfold atG
    rw [hs]
    simp
    omega
  have hla:lastA L i=lastG L i:=by unfold lastA;rw [if_pos hat];rfl
  have hlb:=lastG_bd L i hi
  have hc:=RLast_c σ L hW hL ao cap H i
  rw [hla] at hc
  obtain ⟨j,hj⟩:∃ j:Nat,lastG L i=j:=⟨(lastG L i).toNat,by omega⟩
  rw [hj] at hc hdg hlb
  have hsp:deleteG L i=(spliced L i (j+1) [],0):=by
    rw [hdg,show ((j:Int)+1).toNat=j+1 by omega]
    rfl
  rw [hsp]
  (repeat (first | refine cj_seq ?_ | refine cjr TT rfl ?_ | refine cj_skip ?_ | refine nj_then ?_))
  refine oj_callP rfl rfl rfl rfl rfl Tryz.call69 (by (repeat' (first | exact trivial | constructor))) hc fun v hv=>⟨.a (.v (.int .i64 j)),trivial,hv.symm,?_⟩
  refine oj_run TT rfl ?_
  refine oj_add rfl rfl rfl rfl rfl rfl (by omega) (oj_run TT rfl ?_)
  rw [show (j:Int)+1=((j+1:Nat):Int) by omega]
  refine oj_callS rfl rfl rfl rfl rfl Tryz.call74 ⟨trivial,trivial,trivial,trivial,trivial⟩ (parts_s σ L (by omega) ao cap H [] (by simp) none 0 (SlAt.nil _ _ _ _) i (j+1) (by omega) (by omega)) fun v σ1 hle1 ⟨oo,oc,hv,H1⟩=>⟨.a (.v (.slice oo (spliced L i (j+1) []).length oc)),trivial,hv.symm,?_⟩
  refine oj_run TT rfl ?_
  (repeat (first | refine oj_then ?_ | refine cj_ret ?_))
  refine nj_ret TT rfl fun β w' _ _=>?_
  exact ⟨oo,oc,rfl,H1⟩
theorem er_weight {g:GVal} (hw:g.wf) {L:List GRec} (h:L.map er=(shredV 1 g 0 false emptyS 0).1.map er):g.weight<=recsW L:=by
  rw [recsW_er h]
  have hl:=shred_lay (gap:=1) (by omega) hw 0 false emptyS 0
  have hb:=hl.built hw
  have:=buildG_w (L:=(shredV 1 g 0 false emptyS 0).1) (by rw [shredV_eq];simp)
  rw [hb] at this
  exact this
theorem whole12 {L:List GRec} {g:GVal} (hw:g.wf) (h:L.map er=(shredV 1 g 0 false emptyS 0).1.map er) (hW:recsW L<=100000):(rvalG (L.map er)).weight<=100000/\rwholeG L=anewG L:=by
  have h2:(L.map er).map er=(shredV 1 g 0 false emptyS 0).1.map er:=by
    rw [List.map_map,<-h]
    exact List.map_congr_left fun r _=>rfl
  refine ⟨?_,rwhole_of hw h⟩
  rw [rval_of hw h2]
  have:=er_weight hw h
  omega
end Go.Sy
namespace Go.Sy
open Go.Proofs
theorem ins_nu (gp:GGap) (m:Int):(fun n=>gp.lo+(gp.hi - gp.lo).tdiv (2*m+1)+n*(gp.hi - gp.lo).tdiv (2*m+1))=gapN gp m:=by
  funext n
  unfold gapN
  rw [Int.mul_add,Int.mul_one,Int.mul_comm n,Int.add_assoc,Int.add_comm ((gp.hi - gp.lo).tdiv (2*m+1))]
set_option maxRecDepth 100000 in
set_option maxHeartbeats 4000000 in
theorem RInsert_c (σ:Snap) (L:List GRec) (hL:L.length<=4096) (ao:Option Addr) (cap:Nat) (H:SlAt σ ao L.length cap 11 (recRows L)) (i k:Int) (key:ByteArray) (hkey:key.size<=mostLen) (g:GVal) (r:List AT) (hr:RepV σ g r) (hW:recsW L+g.weight+key.size<=100000) :
    PureS Tryz.prog 16 [.a (.v (.slice ao L.length cap)),.a (.v (.int .i64 i)),.a (.v (.int .i64 k)),.a (.v (.string key)),.agg r] σ (fun v σ'=>ResOk σ' (insertG L i k key g) v):=by
  obtain ⟨la,lc,lrows,ma,mc,vrows,rfl,V⟩:=hr.open
  have S:=snd_all (L:=L) (by omega)
  have hig:insertG L i k key g=if placeE L i≠0 then ⟨[],0,0,placeE L i⟩ else
    match L[i.toNat]? with
    | none=>⟨[],0,0,1⟩
    | some r =>
      if r.kd≠4/\r.kd≠5 then ⟨[],0,0,8⟩ else
      match gapG L i.toNat k with
      | none=>⟨[],0,0,1⟩
      | some gp =>
        if r.kd=5/\sane g=0 then
          if fitsE L i.toNat key≠0 then ⟨[],0,0,fitsE L i.toNat key⟩ else runG L gp.at_.toNat gp.at_.toNat (laidG g (topG r true key) (gapN gp (cntS g))) (gp.hi - gp.lo - 1)
        else if sane g≠0 then ⟨[],0,0,sane g⟩ else runG L gp.at_.toNat gp.at_.toNat (laidG g (topG r false emptyS) (gapN gp (cntS g))) (gp.hi - gp.lo - 1):=rfl
  refine enter_s Tryz.func16 rfl rfl (by (repeat' (first | exact trivial | exact vCells_lt _ _ _ _ _ _ | constructor))) fun w=>?_
  (repeat (first | refine cj_seq ?_ | refine cjr TT rfl ?_ | refine oj_then ?_))
  refine oj_callP rfl rfl rfl rfl rfl Tryz.call64 (by (repeat' (first | exact trivial | constructor))) (rplace12_c σ L (by omega) hL ao cap H i) fun v hv=>⟨.a (.v (.int .i64 (placeE L i))),trivial,hv.symm,?_⟩
  refine oj_run TT rfl ?_
  (repeat (first | refine cj_seq ?_ | refine cjr TT rfl ?_ | refine oj_then ?_))
  refine cj_if rfl (fun h=>?_) (fun h=>?_)
  · have h:placeE L i≠0:=by simpa using h
    rw [if_pos h] at hig
    rw [hig]
    (repeat (first | refine cj_seq ?_ | refine cjr TT rfl ?_ | refine oj_then ?_ | refine cj_ret ?_ | refine nj_then_ret ?_))
    refine nj_ret TT rfl fun β w' _ _=>?_
    exact bad_ok _ _
  have h:placeE L i=0:=by simpa using h
  rw [if_neg (by simp [h])] at hig
  obtain ⟨hs,hi0,hil⟩:=place_ok h
  obtain ⟨i,rfl⟩:∃ j:Nat,i=j:=⟨i.toNat,by omega⟩
  rw [Int.toNat_natCast] at hig
  have hi:i<L.length:=by omega
  have hLi:L[i]?=some L[i]:=List.getElem?_eq_getElem hi
  rw [hLi] at hig
  dsimp only at hig
  have hkb:=kidsG_bd L i
  have hrow:=recRows_get hLi
  have hlv:=sound_levels hs
  have hlvi:=hlv L[i] (List.getElem_mem hi)
  have hat:atG L i=true:=by
    unfold atG
    rw [hs]
    simp
    omega
  have hka:kidsA L i=kidsG L i:=by unfold kidsA;rw [if_pos hat];rfl
  generalize L[i]=x at *
  refine cj_skip ?_
  refine nj_then ?_
  refine cj_seq ?_
  refine cj_seq ?_
  refine cj_cutN (fun (_:Unit)=>σ) (fun _=>[(0,.a (.v (.slice ao L.length cap))),(1,.a (.v (.int .i64 i))),(2,.a (.v (.int .i64 k))),(3,.a (.v (.string key))),(9,.a (.p 0 0)),(11,.a (.p 1 0)),(45,.a (.b (!decide (x.kd=4)&&!decide (x.kd=5))))])
    (fun _=>[(0,.loc 28,vCells g la lc ma mc),(1,.loc 39,[.v (.int .i64 0),.v (.int .i64 0)])]) (fun _=>[]) 2 (fun _=>True) ?_ (fun _ _=>?_)
  · refine cj_region ?_
    refine oj_run TT rfl ?_
    refine oj_idx TT rfl rfl rfl rfl rfl rfl rfl rfl rfl H (by omega) hrow (oj_run TT rfl ?_)
    refine oj_split 38 rfl (fun h=>?_) (fun h=>?_)
    · have h:(!decide (x.kd=4))=true:=h
      refine oj_run TT rfl ?_
      refine oj_idx TT rfl rfl rfl rfl rfl rfl rfl rfl rfl H (by omega) hrow (oj_run TT rfl ?_)
      (repeat refine oj_nil ?_)
      refine nj_set 45 (.a (.b (!decide (x.kd=4)&&!decide (x.kd=5)))) rfl trivial (fun β=>by rw [h,Bool.true_and]) ?_
      refine nj_again () trivial Nat.zero_lt_one rfl (by (repeat first | exact trivial | refine ⟨rfl,?_⟩)) (by (repeat first | exact trivial | refine ⟨rfl,?_⟩)) rfl (by (repeat' (first | exact trivial | exact Nat.le_of_ble_eq_true rfl | constructor))) (by (repeat' (first | exact trivial | exact Nat.le_of_ble_eq_true rfl | exact vCells_lt _ _ _ _ _ _ | refine AllLt.of ?_ | constructor)))
    · have h:(!decide (x.kd=4))=false:=h
      refine oj_run TT rfl ?_
      (repeat refine oj_nil ?_)
      refine nj_set 45 (.a (.b (!decide (x.kd=4)&&!decide (x.kd=5)))) rfl trivial (fun β=>by rw [h,Bool.false_and];rfl) ?_
      refine nj_again () trivial Nat.zero_lt_one rfl (by (repeat first | exact trivial | refine ⟨rfl,?_⟩)) (by (repeat first | exact trivial | refine ⟨rfl,?_⟩)) rfl (by (repeat' (first | exact trivial | exact Nat.le_of_ble_eq_true rfl | constructor))) (by (repeat' (first | exact trivial | exact Nat.le_of_ble_eq_true rfl | exact vCells_lt _ _ _ _ _ _ | refine AllLt.of ?_ | constructor)))
  skip
  refine cj_if rfl (fun h=>?_) (fun h=>?_)
  · have h1:(!decide (x.kd=4)&&!decide (x.kd=5))=true:=h
    rw [Bool.and_eq_true] at h1
    rw [if_pos ⟨by simpa using h1.1,by simpa using h1.2⟩] at hig
    rw [hig]
    (repeat (first | refine cj_seq ?_ | refine cjr TT rfl ?_ | refine oj_then ?_ | refine cj_ret ?_ | refine nj_then_ret ?_))
    refine nj_ret TT rfl fun β w' _ _=>?_
    exact bad_ok _ _
  have hkd:x.kd=4\/x.kd=5:=by
    have h1:(!decide (x.kd=4)&&!decide (x.kd=5))=false:=h
    rw [Bool.and_eq_false_iff] at h1
    simpa using h1
  rw [if_neg (by omega)] at hig
  have hb:=bounds_c σ L (by omega) hL ao cap H i hi hs k
  (repeat (first | refine cj_seq ?_ | refine cjr TT rfl ?_ | refine cj_skip ?_ | refine nj_then ?_))
  cases hg:gapG L i k with
  | none =>
    rw [hg] at hb hig
    dsimp only at hb hig
    rw [hig]
    refine oj_callS rfl rfl rfl rfl rfl Tryz.call65 ⟨trivial,trivial,trivial,trivial⟩ hb fun v σ1 hle1 hv=>⟨.tup [.a (.v (.int .i64 0)),.a (.v (.int .i64 0)),.a .ff],(by (repeat' (first | exact trivial | refine SV.lt_tup ?_ | constructor))),hv.symm,?_⟩
    refine oj_run TT rfl ?_
    (repeat (first | refine cj_seq ?_ | refine cjr TT rfl ?_ | refine oj_then ?_ | refine cj_if_t rfl ?_ | refine cj_ret ?_ | refine nj_then_ret ?_))
    refine nj_ret TT rfl fun β w' _ _=>?_
    exact bad_ok _ _
  | some gp =>
    rw [hg] at hb hig
    dsimp only at hb hig
    obtain ⟨n1,n2,n3,n4,n5,n6⟩:=gap_num S hs hi hg
    obtain ⟨at_,hat_⟩:∃ j:Nat,gp.at_=j:=⟨gp.at_.toNat,by omega⟩
    refine oj_callS rfl rfl rfl rfl rfl Tryz.call65 ⟨trivial,trivial,trivial,trivial⟩ hb fun v σ1 hle1 hv=>⟨.tup [.a (.v (.int .i64 gp.lo)),.a (.v (.int .i64 gp.hi)),.a .tt],(by (repeat' (first | exact trivial | refine SV.lt_tup ?_ | constructor))),hv.symm,?_⟩
    have H:=H.mono hle1
    have V:=V.monoC hle1.cle
    refine oj_run TT rfl ?_
    (repeat (first | refine cj_seq ?_ | refine cjr TT rfl ?_ | refine oj_then ?_ | refine cj_if_f rfl ?_ | refine cj_skip ?_ | refine nj_then ?_))
    refine oj_callP rfl rfl rfl rfl rfl Tryz.call66 (by (repeat' (first | exact trivial | exact vCells_lt _ _ _ _ _ _ | constructor))) (RSane_c σ1 g _ V.rep (by omega)) fun v hv=>⟨.a (.v (.int .i64 (sane g))),trivial,hv.symm,?_⟩
    refine oj_run TT rfl ?_
    (repeat (first | refine cj_seq ?_ | refine cjr TT rfl ?_ | refine oj_then ?_))
    refine cj_if rfl (fun h=>?_) (fun h=>?_)
    · have h:sane g≠0:=by simpa using h
      rw [if_neg (fun hc=>h hc.2),if_pos h] at hig
      rw [hig]
      (repeat (first | refine cj_seq ?_ | refine cjr TT rfl ?_ | refine oj_then ?_ | refine cj_ret ?_ | refine nj_then_ret ?_))
      refine nj_ret TT rfl fun β w' _ _=>?_
      exact bad_ok _ _
    have hsg:sane g=0:=by simpa using h
    have hkd2:=RKids_c σ1 L (by omega) hL ao cap H i
    rw [hka] at hkd2
    have hfe:fitsE L i key=if (kidsG L i).any fun k=>decide ((L[k]?.map GRec.name).getD emptyS=key) then 7 else if keyOk key then 0 else 1:=rfl
    have hgap:gapG L i k=if k<0\/((kidsG L i).length:Int)<k then none else some (gapK L (kidsG L i) i k.toNat):=rfl
    rw [hg] at hgap
    have hkin:¬ (k<0\/((kidsG L i).length:Int)<k):=fun hc=>by rw [if_pos hc] at hgap;cases hgap
    rw [if_neg hkin] at hgap
    have hgap:=congrArg GGap.at_ (Option.some.inj hgap)
    have hins:∀ {top:GRec},top.lv=x.lv+1->top.nm=decide (x.kd=5)->top.name=(if x.kd=5 then key else emptyS)->∀ ν,∃ g':GVal,g'.wf/\(spliced L at_ at_ (laidG g top ν)).map er=(shredV 1 g' 0 false emptyS 0).1.map er:=fun t1 t2 t3 ν=>by
      have:=ins_whole hs hLi hkd hg V.rep.wf key t1 t2 t3 ν
      rw [hat_,Int.toNat_natCast] at this
      exact this
    rw [hat_,Int.toNat_natCast] at hig
    generalize hks:kidsG L i=ks at *
    (repeat (first | refine cj_seq ?_ | refine cjr TT rfl ?_ | refine cj_skip ?_ | refine nj_then ?_))
    refine oj_idx TT rfl rfl rfl rfl rfl rfl rfl rfl rfl H (by omega) hrow (oj_run TT rfl ?_)
    (repeat (first | refine cj_seq ?_ | refine cjr TT rfl ?_ | refine oj_then ?_))
    refine oj_callS rfl rfl rfl rfl rfl Tryz.call67 ⟨trivial,trivial,trivial⟩ hkd2 fun v σ2 hle2 ⟨qo,qc,hv,HK⟩=>⟨.a (.v (.slice qo ks.length qc)),trivial,hv.symm,?_⟩
    have H:=H.mono hle2
    have V:=V.monoC hle2.cle
    refine oj_run TT rfl ?_
    (repeat (first | refine cj_seq ?_ | refine cjr TT rfl ?_ | refine oj_then ?_ | refine cj_block ?_))
    refine cj_cutB (α:=Unit) (fun _=>σ2) (fun _=>[(0,.a (.v (.slice ao L.length cap))),(1,.a (.v (.int .i64 i))),(2,.a (.v (.int .i64 k))),(3,.a (.v (.string key))),(9,.a (.p 0 0)),(11,.a (.p 1 0)),(14,.a (.v (.int .i64 gp.lo))),(15,.a (.v (.int .i64 gp.hi))),(17,.a (.b (decide (x.kd=5)))),(18,.a (.v (.slice qo ks.length qc)))])
      (fun _=>[(0,.loc 28,vCells g la lc ma mc),(1,.loc 39,[.v (.int .i64 0),.v (.int .i64 0)])]) (fun _=>[]) 2 (fun _=>x.kd=5->(ks.any fun k=>decide ((L[k]?.map GRec.name).getD emptyS=key))=false) ?_ (fun _ hany=>?_)
    · refine cj_loop (fun (_:Nat)=>σ2) (fun j=>[(0,.a (.v (.slice ao L.length cap))),(1,.a (.v (.int .i64 i))),(2,.a (.v (.int .i64 k))),(3,.a (.v (.string key))),(9,.a (.p 0 0)),(11,.a (.p 1 0)),(14,.a (.v (.int .i64 gp.lo))),(15,.a (.v (.int .i64 gp.hi))),(17,.a (.b (decide (x.kd=5)))),(18,.a (.v (.slice qo ks.length qc))),(19,.a (.v (.int .i64 (j:Nat))))])
        (fun _=>[(0,.loc 28,vCells g la lc ma mc),(1,.loc 39,[.v (.int .i64 0),.v (.int .i64 0)])]) (fun _=>[]) 2
        (fun j=>j<=ks.length/\((ks.drop j).any fun k=>decide ((L[k]?.map GRec.name).getD emptyS=key))=(ks.any fun k=>decide ((L[k]?.map GRec.name).getD emptyS=key))) (fun j=>ks.length - j) 0 ⟨Nat.zero_le _,rfl⟩ rfl (by (repeat first | exact trivial | refine ⟨rfl,?_⟩)) (by (repeat first | exact trivial | refine ⟨rfl,?_⟩)) rfl (by (repeat' (first | exact trivial | exact Nat.le_of_ble_eq_true rfl | constructor))) (by (repeat' (first | exact trivial | exact Nat.le_of_ble_eq_true rfl | exact vCells_lt _ _ _ _ _ _ | refine AllLt.of ?_ | constructor))) fun j ⟨hj,hp⟩=>?_
      (repeat (first | refine cj_seq ?_ | refine cjr TT rfl ?_))
      refine oj_split 77 rfl (fun h=>?_) (fun h=>?_)
      rotate_left
      · have hj0:j=ks.length:=by have:=of_decide_eq_false h;omega
        rw [hj0,List.drop_length] at hp
        refine oj_run TT rfl ?_
        (repeat (first | refine oj_then ?_ | refine cj_if_f rfl ?_ | refine cj_exit ?_ | refine nj_then_exit ?_ | refine nj_block_out ?_))
        refine nj_again () (fun _=>hp.symm) Nat.zero_lt_one rfl (by (repeat first | exact trivial | refine ⟨rfl,?_⟩)) (by (repeat first | exact trivial | refine ⟨rfl,?_⟩)) rfl (by (repeat' (first | exact trivial | exact Nat.le_of_ble_eq_true rfl | constructor))) (by (repeat' (first | exact trivial | exact Nat.le_of_ble_eq_true rfl | exact vCells_lt _ _ _ _ _ _ | refine AllLt.of ?_ | constructor)))
      have hjl:j<ks.length:=by have:=of_decide_eq_true h;omega
      refine oj_run TT rfl ?_
      (repeat refine oj_then ?_)
      refine cj_if rfl (fun h=>?_) (fun h=>?_)
      rotate_left
      · have h5:¬ x.kd=5:=of_decide_eq_false h
        (repeat (first | refine cj_exit ?_ | refine nj_then_exit ?_ | refine nj_block_out ?_))
        refine nj_again () (fun h=>absurd h h5) Nat.zero_lt_one rfl (by (repeat first | exact trivial | refine ⟨rfl,?_⟩)) (by (repeat first | exact trivial | refine ⟨rfl,?_⟩)) rfl (by (repeat' (first | exact trivial | exact Nat.le_of_ble_eq_true rfl | constructor))) (by (repeat' (first | exact trivial | exact Nat.le_of_ble_eq_true rfl | exact vCells_lt _ _ _ _ _ _ | refine AllLt.of ?_ | constructor)))
      have h5:x.kd=5:=of_decide_eq_true h
      have hkr:=kidRows_get (List.getElem?_eq_getElem hjl)
      have hq:=hkb.1 ks[j] (List.getElem_mem hjl)
      rw [List.drop_eq_getElem_cons hjl,List.any_cons] at hp
      generalize ks[j]=q at *
      have hLq:L[q]?=some L[q]:=List.getElem?_eq_getElem hq
      have hqr:=recRows_get hLq
      rw [hLq] at hp
      generalize L[q]=rq at *
      (repeat (first | refine cj_seq ?_ | refine cjr TT rfl ?_ | refine cj_skip ?_ | refine cj_block ?_ | refine nj_then ?_))
      refine oj_idx TT rfl rfl rfl rfl rfl rfl rfl rfl rfl HK (by omega) hkr (oj_run TT rfl ?_)
      refine oj_idx TT rfl rfl rfl rfl rfl rfl rfl rfl rfl H (by omega) hqr (oj_run TT rfl ?_)
      (repeat refine oj_then ?_)
      refine cj_if rfl (fun h=>?_) (fun h=>?_)
      · have h1:decide (((some rq).map GRec.name).getD emptyS=key)=true:=h
        rw [h1,Bool.true_or] at hp
        rw [if_pos hp.symm] at hfe
        rw [if_pos ⟨h5,hsg⟩,hfe,if_pos (by decide)] at hig
        rw [hig]
        (repeat (first | refine cj_seq ?_ | refine cjr TT rfl ?_ | refine oj_then ?_ | refine cj_ret ?_ | refine nj_then_ret ?_ | refine nj_block_ret ?_))
        refine nj_ret TT rfl fun β w' _ _=>?_
        exact bad_ok _ _
      · have h1:decide (((some rq).map GRec.name).getD emptyS=key)=false:=h
        rw [h1,Bool.false_or] at hp
        (repeat (first | refine cjr TT rfl ?_ | refine oj_nil ?_ | refine cj_skip ?_ | refine nj_then ?_ | refine nj_block ?_ | (refine oj_add rfl rfl rfl rfl rfl rfl (by omega) ?_;refine oj_run TT rfl ?_)))
        refine nj_again (j+1) ⟨hjl,hp⟩ (by omega) rfl (by (repeat first | exact trivial | refine ⟨rfl,?_⟩)) (by (repeat first | exact trivial | refine ⟨rfl,?_⟩)) rfl (by (repeat' (first | exact trivial | exact Nat.le_of_ble_eq_true rfl | constructor))) (by (repeat' (first | exact trivial | exact Nat.le_of_ble_eq_true rfl | exact vCells_lt _ _ _ _ _ _ | refine AllLt.of ?_ | constructor)))
    refine cj_seq ?_
    refine cj_cutN (fun (s:Snap)=>s) (fun _=>[(0,.a (.v (.slice ao L.length cap))),(1,.a (.v (.int .i64 i))),(2,.a (.v (.int .i64 k))),(3,.a (.v (.string key))),(9,.a (.p 0 0)),(11,.a (.p 1 0)),(14,.a (.v (.int .i64 gp.lo))),(15,.a (.v (.int .i64 gp.hi))),(17,.a (.b (decide (x.kd=5)))),(18,.a (.v (.slice qo ks.length qc)))])
      (fun _=>[(0,.loc 28,vCells g la lc ma mc),(1,.loc 39,[.v (.int .i64 0),.v (.int .i64 0)])]) (fun _=>[]) 2 (fun s=>σ2.le s/\(x.kd=5->fitsE L i key=0)) ?_ (fun σ3 ⟨hle3,hfit⟩=>?_)
    · (repeat (first | refine cj_seq ?_ | refine cjr TT rfl ?_))
      refine oj_split 94 rfl (fun h=>?_) (fun h=>?_)
      rotate_left
      · have h5:¬ x.kd=5:=of_decide_eq_false h
        refine oj_run TT rfl ?_
        (repeat (first | refine oj_then ?_ | refine cj_if_f rfl ?_ | refine cj_skip ?_))
        refine nj_again σ2 ⟨Snap.le_refl _,fun h=>absurd h h5⟩ Nat.zero_lt_one rfl (by (repeat first | exact trivial | refine ⟨rfl,?_⟩)) (by (repeat first | exact trivial | refine ⟨rfl,?_⟩)) rfl (by (repeat' (first | exact trivial | exact Nat.le_of_ble_eq_true rfl | constructor))) (by (repeat' (first | exact trivial | exact Nat.le_of_ble_eq_true rfl | exact vCells_lt _ _ _ _ _ _ | refine AllLt.of ?_ | constructor)))
      have h5:x.kd=5:=of_decide_eq_true h
      rw [if_neg (by rw [hany h5];decide)] at hfe
      obtain ⟨l,rfl⟩:=mkB_ex key
      have hkey':l.length<=mostLen:=by rw [mkB_size] at hkey;exact hkey
      have hko:keyOk (mkB l)=decide (utfCheck l<0):=rfl
      refine oj_run TT rfl ?_
      refine oj_bytes (y:=mkB l) TT rfl rfl rfl rfl rfl rfl rfl rfl rfl rfl rfl fun bo bc σ3 hle3 HB=>?_
      refine oj_run TT rfl ?_
      refine oj_callP rfl rfl rfl rfl rfl Tryz.call68 (by (repeat' (first | exact trivial | constructor))) (rCheck_c σ3 bo bc l HB hkey') fun v hv=>⟨.a (.v (.int .i64 (utfCheck l))),trivial,hv.symm,?_⟩
      refine oj_run TT rfl ?_
      (repeat refine oj_then ?_)
      refine cj_if rfl (fun h=>?_) (fun h=>?_)
      · have h:=of_decide_eq_true h
        rw [hko,decide_eq_false (by omega)] at hfe
        rw [if_pos ⟨h5,hsg⟩,hfe,if_pos (by decide)] at hig
        rw [hig]
        (repeat (first | refine cj_seq ?_ | refine cjr TT rfl ?_ | refine oj_then ?_ | refine cj_ret ?_ | refine nj_then_ret ?_))
        refine nj_ret TT rfl fun β w' _ _=>?_
        exact bad_ok _ _
      · have h:=of_decide_eq_false h
        rw [hko,decide_eq_true (by omega)] at hfe
        (repeat refine cj_skip ?_)
        refine nj_again σ3 ⟨hle3,fun _=>hfe⟩ Nat.zero_lt_one rfl (by (repeat first | exact trivial | refine ⟨rfl,?_⟩)) (by (repeat first | exact trivial | refine ⟨rfl,?_⟩)) rfl (by (repeat' (first | exact trivial | exact Nat.le_of_ble_eq_true rfl | constructor))) (by (repeat' (first | exact trivial | exact Nat.le_of_ble_eq_true rfl | exact vCells_lt _ _ _ _ _ _ | refine AllLt.of ?_ | constructor)))
    have H:=H.mono hle3
    have V:=V.monoC hle3.cle
    have HK:=HK.mono hle3
    clear hfe hany
    refine cj_seq ?_
    refine cj_cutN (fun (_:ByteArray)=>σ3) (fun s=>[(0,.a (.v (.slice ao L.length cap))),(1,.a (.v (.int .i64 i))),(2,.a (.v (.int .i64 k))),(3,.a (.v (.string s))),(9,.a (.p 0 0)),(11,.a (.p 1 0)),(14,.a (.v (.int .i64 gp.lo))),(15,.a (.v (.int .i64 gp.hi))),(17,.a (.b (decide (x.kd=5)))),(18,.a (.v (.slice qo ks.length qc)))])
      (fun _=>[(0,.loc 28,vCells g la lc ma mc),(1,.loc 39,[.v (.int .i64 0),.v (.int .i64 0)])]) (fun _=>[]) 2 (fun s=>s=if x.kd=5 then key else emptyS) ?_ (fun nk hnk=>?_)
    · (repeat (first | refine cj_seq ?_ | refine cjr TT rfl ?_ | refine oj_then ?_))
      refine cj_if rfl (fun h=>?_) (fun h=>?_)
      · have h5:¬ x.kd=5:=by simpa using h
        (repeat (first | refine cjr TT rfl ?_ | refine oj_nil ?_))
        refine nj_again emptyS (by rw [if_neg h5]) Nat.zero_lt_one rfl (by (repeat first | exact trivial | refine ⟨rfl,?_⟩)) (by (repeat first | exact trivial | refine ⟨rfl,?_⟩)) rfl (by (repeat' (first | exact trivial | exact Nat.le_of_ble_eq_true rfl | constructor))) (by (repeat' (first | exact trivial | exact Nat.le_of_ble_eq_true rfl | exact vCells_lt _ _ _ _ _ _ | refine AllLt.of ?_ | constructor)))
      · have h5:x.kd=5:=by simpa using h
        (repeat refine cj_skip ?_)
        refine nj_again key (by rw [if_pos h5]) Nat.zero_lt_one rfl (by (repeat first | exact trivial | refine ⟨rfl,?_⟩)) (by (repeat first | exact trivial | refine ⟨rfl,?_⟩)) rfl (by (repeat' (first | exact trivial | exact Nat.le_of_ble_eq_true rfl | constructor))) (by (repeat' (first | exact trivial | exact Nat.le_of_ble_eq_true rfl | exact vCells_lt _ _ _ _ _ _ | refine AllLt.of ?_ | constructor)))
    have hig2:insertG L i k key g=runG L at_ at_ (laidG g (topG x (decide (x.kd=5)) nk) (gapN gp (cntS g))) (gp.hi - gp.lo - 1):=by
      rw [hig]
      by_cases h5:x.kd=5
      · rw [if_pos ⟨h5,hsg⟩,if_neg (by rw [hfit h5];decide),hnk,if_pos h5,decide_eq_true h5]
      · rw [if_neg (fun hc=>h5 hc.1),if_neg (fun hc=>hc hsg),hnk,if_neg h5,decide_eq_false h5]
    have hnks:nk.size<=key.size:=by
      rw [hnk]
      split
      · exact Nat.le_refl _
      · exact Nat.zero_le _
    obtain ⟨g',hw',her⟩:=hins (top:=topG x (decide (x.kd=5)) nk) rfl rfl hnk (gapN gp (cntS g))
    rw [hig2]
    clear hig hig2 hins hfit
    obtain ⟨k,rfl⟩:∃ j:Nat,k=j:=⟨k.toNat,by omega⟩
    rw [Int.toNat_natCast] at hgap
    have hgap:gp.at_=if 0<k then lastG L (ks.getD (k - 1) 0)+1 else (i:Int)+1:=hgap
    refine cj_seq ?_
    refine cj_region ?_
    refine oj_run TT rfl ?_
    refine oj_add rfl rfl rfl rfl rfl rfl (by omega) (oj_run TT rfl ?_)
    refine oj_then ?_
    refine cj_seq ?_
    refine cj_cutN (fun (_:Unit)=>σ3) (fun _=>[(0,.a (.v (.slice ao L.length cap))),(1,.a (.v (.int .i64 i))),(2,.a (.v (.int .i64 k))),(3,.a (.v (.string nk))),(9,.a (.p 0 0)),(11,.a (.p 1 0)),(14,.a (.v (.int .i64 gp.lo))),(15,.a (.v (.int .i64 gp.hi))),(17,.a (.b (decide (x.kd=5)))),(18,.a (.v (.slice qo ks.length qc))),(20,.a (.v (.int .i64 at_)))])
      (fun _=>[(0,.loc 28,vCells g la lc ma mc),(1,.loc 39,[.v (.int .i64 0),.v (.int .i64 0)])]) (fun _=>[]) 2 (fun _=>True) ?_ (fun _ _=>?_)
    · (repeat (first | refine cj_seq ?_ | refine cjr TT rfl ?_ | refine oj_then ?_))
      refine cj_if rfl (fun h=>?_) (fun h=>?_)
      · have hk0:0<k:=by have:=of_decide_eq_true h;omega
        have hkm:k - 1<ks.length:=by omega
        have hm:=List.getElem?_eq_getElem hkm
        have hmr:=kidRows_get hm
        have hml:=hkb.1 _ (List.mem_of_getElem? hm)
        rw [if_pos hk0,getD_get hm] at hgap
        generalize ks[k - 1]=m at *
        have hatm:atG L m=true:=by
          unfold atG
          rw [hs]
          simp
          omega
        have hla:lastA L m=lastG L m:=by unfold lastA;rw [if_pos hatm];rfl
        have hlc:=RLast_c σ3 L (by omega) hL ao cap H m
        rw [hla] at hlc
        have hlb:=lastG_bd L m hml
        have e:lastG L m+1=(at_:Int):=by omega
        (repeat (first | refine cjr TT rfl ?_ | (refine oj_minus rfl rfl rfl rfl rfl rfl (by omega) ?_;refine oj_run TT rfl ?_)))
        rw [show (k:Int) - 1=((k - 1:Nat):Int) by omega]
        refine oj_idx TT rfl rfl rfl rfl rfl rfl rfl rfl rfl HK (by omega) hmr (oj_run TT rfl ?_)
        refine oj_callP rfl rfl rfl rfl rfl Tryz.call69 (by (repeat' (first | exact trivial | constructor))) hlc fun v hv=>⟨.a (.v (.int .i64 (lastG L m))),trivial,hv.symm,?_⟩
        refine oj_run TT rfl ?_
        refine oj_add rfl rfl rfl rfl rfl rfl (by omega) (oj_run TT rfl ?_)
        rw [e]
        (repeat refine oj_nil ?_)
        refine nj_again () trivial Nat.zero_lt_one rfl (by (repeat first | exact trivial | refine ⟨rfl,?_⟩)) (by (repeat first | exact trivial | refine ⟨rfl,?_⟩)) rfl (by (repeat' (first | exact trivial | exact Nat.le_of_ble_eq_true rfl | constructor))) (by (repeat' (first | exact trivial | exact Nat.le_of_ble_eq_true rfl | exact vCells_lt _ _ _ _ _ _ | refine AllLt.of ?_ | constructor)))
      · have hk0:¬ 0<k:=by have:=of_decide_eq_false h;omega
        rw [if_neg hk0] at hgap
        have e:(i:Int)+1=(at_:Int):=by omega
        rw [e]
        (repeat refine cj_skip ?_)
        refine nj_again () trivial Nat.zero_lt_one rfl (by (repeat first | exact trivial | refine ⟨rfl,?_⟩)) (by (repeat first | exact trivial | refine ⟨rfl,?_⟩)) rfl (by (repeat' (first | exact trivial | exact Nat.le_of_ble_eq_true rfl | constructor))) (by (repeat' (first | exact trivial | exact Nat.le_of_ble_eq_true rfl | exact vCells_lt _ _ _ _ _ _ | refine AllLt.of ?_ | constructor)))
    have hwf:=V.rep.wf
    have hcs:=cntS_eq hwf
    have hcw:=cntV_le g
    have hcp:=cntV_pos g
    have hMl:=laid_len hwf (topG x (decide (x.kd=5)) nk) (gapN gp (cntS g))
    have hlw:=laid_w g (topG x (decide (x.kd=5)) nk) (gapN gp (cntS g))
    have hsw:=spliced_w L (laidG g (topG x (decide (x.kd=5)) nk) (gapN gp (cntS g))) at_ at_ (Nat.le_refl _)
    have htn:(topG x (decide (x.kd=5)) nk).name.size=nk.size:=rfl
    have hq:=tdiv_bd (a:=gp.hi - gp.lo) (b:=2*(cntV g:Int)+1) (c:=1099511627778) (by omega)
    have hld:=laid12_f σ3 g _ V.rep (by omega) hsg (x.lv+1) (by omega) (by omega) (decide (x.kd=5)) nk (gp.lo+(gp.hi - gp.lo).tdiv (2*(cntV g:Int)+1)) ((gp.hi - gp.lo).tdiv (2*(cntV g:Int)+1)) (by omega) (by omega) (by omega) (by omega)
    rw [ins_nu,show top12 (x.lv+1) (decide (x.kd=5)) nk=topG x (decide (x.kd=5)) nk from rfl,<-hcs] at hld
    have hatl:at_<=L.length:=by omega
    have hlvM:∀ q∈spliced L at_ at_ (laidG g (topG x (decide (x.kd=5)) nk) (gapN gp (cntS g))),0<=q.lv/\q.lv<=1000000:=by
      intro q hq
      rcases spliced_mem hq with hq | hq
      · have:=hlv q hq
        omega
      · have hl:=(laid_lay hwf (topG x (decide (x.kd=5)) nk) (fun n=>n+1) (fun n=>n) (fun a b _ h=>h) (fun n _ _=>by omega)).lvb
        have he:(laidG g (topG x (decide (x.kd=5)) nk) (fun n=>n+1)).map er=(laidG g (topG x (decide (x.kd=5)) nk) (gapN gp (cntS g))).map er:=by rw [laid_er hwf _ _ 1 0,laid_er hwf _ _ 1 0]
        obtain ⟨jq,hjq⟩:=List.getElem?_of_mem hq
        obtain ⟨z,hz,hze⟩:=er_get he.symm hjq
        have h1:=hl z (List.mem_of_getElem? hz)
        have h2:q.lv=z.lv:=(er_fields he.symm hjq hz).1
        have h3:(laidG g (topG x (decide (x.kd=5)) nk) (fun n=>n+1)).length=cntV g:=laid_len hwf _ _
        have h4:(topG x (decide (x.kd=5)) nk).lv=x.lv+1:=rfl
        rw [h3,h4] at h1
        omega
    obtain ⟨hrw,hrwe⟩:=whole12 hw' her (by omega)
    have hspl:0<(spliced L at_ at_ (laidG g (topG x (decide (x.kd=5)) nk) (gapN gp (cntS g)))).length:=by
      unfold spliced
      rw [List.length_append,List.length_append,hMl]
      omega
    have hspn:=recsW_len (spliced L at_ at_ (laidG g (topG x (decide (x.kd=5)) nk) (gapN gp (cntS g))))
    rw [hcs] at hld hlvM hrw hrwe hspl hspn hsw hlw hMl ⊢
    generalize laidG g (topG x (decide (x.kd=5)) nk) (gapN gp (cntV g))=M at *
    have hrun:runG L at_ at_ M (gp.hi - gp.lo - 1)=if (anewG (spliced L at_ at_ M)).2≠0 then ⟨[],0,0,(anewG (spliced L at_ at_ M)).2⟩
        else if gp.hi - gp.lo - 1<2*(cntV g:Int) then ⟨(anewG (spliced L at_ at_ M)).1,cntV g,L.length,0⟩ else ⟨spliced L at_ at_ M,cntV g,0,0⟩:=by
      unfold runG
      rw [hMl,Int.sub_self,Int.sub_zero]
    rw [hrun]
    clear hrun her
    (repeat (first | refine cj_seq ?_ | refine cjr TT rfl ?_))
    refine oj_callP rfl rfl rfl rfl rfl Tryz.call70 (by (repeat' (first | exact trivial | exact vCells_lt _ _ _ _ _ _ | constructor))) (RCount_c g σ3 _ V.rep (by omega)) fun v hv=>⟨.a (.v (.int .i64 (cntV g))),trivial,hv.symm,?_⟩
    refine oj_run TT rfl ?_
    (repeat (first | refine cj_seq ?_ | refine cjr TT rfl ?_ | refine oj_then ?_ | (refine oj_minus rfl rfl rfl rfl rfl rfl (by omega) ?_;refine oj_run TT rfl ?_)))
    refine oj_mul rfl rfl rfl rfl rfl rfl (by omega) (oj_run TT rfl ?_)
    refine oj_add rfl rfl rfl rfl rfl rfl (by omega) (oj_run TT rfl ?_)
    refine oj_quo rfl rfl rfl rfl rfl rfl (by omega) (by omega) (oj_run TT rfl ?_)
    generalize (gp.hi - gp.lo).tdiv (2*(cntV g:Int)+1)=stp at *
    (repeat (first | refine cj_seq ?_ | refine oj_then ?_))
    refine cj_draw [(0,.quiet),(1,.pure),(2,.pure),(3,.pure),(4,.pure),(5,.quiet),(6,.pure),(7,.pure),(8,.pure),(9,.pure),(10,.pure),(11,.pure),(12,.pure),(13,.sink),(14,.pure)] mixed (by kernel_rfl) (oj_run TT rfl ?_)
    refine oj_idx TT rfl rfl rfl rfl rfl rfl rfl rfl rfl H (by omega) hrow (oj_run TT rfl ?_)
    refine oj_add rfl rfl rfl rfl rfl rfl (by omega) (oj_run TT rfl ?_)
    refine oj_add rfl rfl rfl rfl rfl rfl (by omega) (oj_run TT rfl ?_)
    refine oj_callF [] (A0:=[]) (Ar:=[]) rfl rfl rfl rfl rfl rfl rfl Tryz.call71 (by (repeat' (first | exact trivial | exact vCells_lt _ _ _ _ _ _ | constructor))) hld fun v σ4 A4 hle4 ⟨g1,oc,hoc,hA,hv⟩=>⟨.a (.v (.slice (some ⟨g1,0,none⟩) M.length oc)),trivial,hv.symm,?_⟩
    subst hA
    refine oj_run TT rfl ?_
    refine oj_then ?_
    refine cj_seal 0 rfl rfl fun σ5 hle5 hS=>?_
    have HM:SlAt σ5 (some ⟨g1,0,none⟩) M.length oc 11 (recRows M):=r2E_sealed hS hoc
    have H:=H.mono (Snap.le_trans hle4 hle5)
    (repeat (first | refine cj_seq ?_ | refine cjr TT rfl ?_))
    refine oj_callS rfl rfl rfl rfl rfl Tryz.call74 ⟨trivial,trivial,trivial,trivial,trivial⟩ (parts_s σ5 L (by omega) ao cap H M (by omega) _ oc HM at_ at_ (Nat.le_refl _) hatl) fun v σ6 hle6 ⟨po,pc,hv,HP⟩=>⟨.a (.v (.slice po (spliced L at_ at_ M).length pc)),trivial,hv.symm,?_⟩
    have H:=H.mono hle6
    have HM:=HM.mono hle6
    refine oj_run TT rfl ?_
    refine oj_callF [] (A0:=[]) (Ar:=[]) rfl rfl rfl rfl rfl rfl rfl Tryz.call73 (by (repeat' (first | exact trivial | constructor))) (copied_f σ6 (spliced L at_ at_ M) (by omega) po pc HP) fun v σ7 A7 hle7 ⟨co,cc,hcc,hv,hA⟩=>⟨.a (.v (.slice co (spliced L at_ at_ M).length cc)),trivial,hv.symm,?_⟩
    subst hA
    have H:=H.mono hle7
    have HM:=HM.mono hle7
    refine oj_arrAt 0 (E:=r2E co (spliced L at_ at_ M).length cc (spliced L at_ at_ M)) rfl hspl fun gc hgc=>?_
    have hgc:co=some ⟨gc,0,none⟩:=hgc
    subst hgc
    refine oj_run TT rfl ?_
    have hwh:=whole_f σ7 (spliced L at_ at_ M) (by omega) hspl hlvM hrw gc cc hcc
    rw [hrwe] at hwh
    refine oj_callF [0] (A0:=[r2E (some ⟨gc,0,none⟩) (spliced L at_ at_ M).length cc (spliced L at_ at_ M)]) (Ar:=[]) rfl rfl rfl rfl rfl rfl rfl Tryz.call72 (by (repeat' (first | exact trivial | constructor))) hwh fun v σ8 A8 hle8 ⟨hA,bo,bc,hv,HA⟩=>⟨.tup [.a (.v (.slice bo (anewG (spliced L at_ at_ M)).1.length bc)),.a (.v (.int .i64 (anewG (spliced L at_ at_ M)).2))],(by (repeat' (first | exact trivial | refine SV.lt_tup ?_ | constructor))),hv.symm,?_⟩
    subst hA
    have H:=H.mono hle8
    have HM:=HM.mono hle8
    generalize (anewG (spliced L at_ at_ M)).1=AL at *
    generalize (anewG (spliced L at_ at_ M)).2=ae at *
    refine oj_run TT rfl ?_
    (repeat (first | refine cj_seq ?_ | refine cjr TT rfl ?_ | refine oj_then ?_))
    refine cj_if rfl (fun h=>?_) (fun h=>?_)
    · have h:ae≠0:=by simpa using h
      rw [if_pos h]
      (repeat (first | refine cj_seq ?_ | refine cjr TT rfl ?_ | refine oj_then ?_ | refine cj_ret ?_ | refine nj_then_ret ?_))
      refine nj_ret TT rfl fun β w' _ _=>?_
      exact bad_ok _ _
    have h:ae=0:=by simpa using h
    rw [if_neg (by simp [h])]
    (repeat (first | refine cj_seq ?_ | refine cjr TT rfl ?_ | refine cj_skip ?_ | refine nj_then ?_ | (refine oj_minus rfl rfl rfl rfl rfl rfl (by omega) ?_;refine oj_run TT rfl ?_)))
    refine oj_mul rfl rfl rfl rfl rfl rfl (by omega) (oj_run TT rfl ?_)
    (repeat refine oj_then ?_)
    refine cj_if rfl (fun h=>?_) (fun h=>?_)
    · have h:=of_decide_eq_true h
      rw [if_neg (by omega)]
      (repeat (first | refine cj_seq ?_ | refine cjr TT rfl ?_))
      refine oj_callS rfl rfl rfl rfl rfl Tryz.call74 ⟨trivial,trivial,trivial,trivial,trivial⟩ (parts_s σ8 L (by omega) ao cap H M (by omega) _ oc HM at_ at_ (Nat.le_refl _) hatl) fun v σ9 hle9 ⟨qo2,qc2,hv,HQ⟩=>⟨.a (.v (.slice qo2 (spliced L at_ at_ M).length qc2)),trivial,hv.symm,?_⟩
      refine oj_run TT rfl ?_
      (repeat (first | refine oj_then ?_ | refine cj_ret ?_ | refine nj_then_ret ?_))
      refine nj_ret TT rfl fun β w' _ _=>?_
      exact ⟨qo2,qc2,rfl,HQ⟩
    · have h:=of_decide_eq_false h
      rw [if_pos (by omega)]
      (repeat (first | refine cj_seq ?_ | refine cjr TT rfl ?_ | refine oj_then ?_ | refine cj_skip ?_ | refine cj_ret ?_ | refine nj_then ?_))
      refine nj_ret TT rfl fun β w' _ _=>?_
      exact ⟨bo,bc,rfl,HA⟩
end Go.Sy
namespace Go.Sy
open Go.Proofs
def hdEn (e:Int):List GRec->List GRec
  | []=>[]
  | r::l=>r.atEn e::l
theorem rep_laid {g:GVal} (hw:g.wf) (x:GRec):laidG g x (repN x (cntS g))=hdEn x.en (laidG g (top12 x.lv x.nm x.name) (fun n=>x.st+n*(x.en - x.st+1).tdiv (2*(cntV g:Int)))):=by
  have hc:=cntV_pos g
  have hwv:=wV1 hw
  have hK:=shredI_lay' (gap:=1) (by omega) (wfs_its hw) (0+1) (0+1)
  have hbd:=hK.bd
  have hwe:=wI_its (gap:=1) hw
  rw [cntS_eq hw]
  unfold laidG
  rw [shredV_its 1 g 0 false emptyS 0 hw,List.map_cons,List.map_cons]
  have e0:repN x (cntV g:Int) (0+1 - 1)=x.st+(0+1 - 1)*(x.en - x.st+1).tdiv (2*(cntV g:Int)):=by
    unfold repN
    rw [if_neg (by omega),show (0:Int)+1 - 1=0 by omega,Int.mul_zero,Int.zero_mul]
  have e1:repN x (cntV g:Int) (0+wV 1 g - 1)=x.en:=by
    unfold repN
    rw [hwv,if_pos (by omega)]
  have e2:(shredI 1 (its g) (0+1) (0+1)).1.map (lift x.lv (repN x (cntV g)))=(shredI 1 (its g) (0+1) (0+1)).1.map (lift x.lv fun n=>x.st+n*(x.en - x.st+1).tdiv (2*(cntV g:Int))):=by
    refine List.map_congr_left fun r hr=>?_
    have hr:=hbd r hr
    unfold lift
    have f:∀ n:Int,n<2*(cntV g:Int) - 1->repN x (cntV g) n=x.st+n*(x.en - x.st+1).tdiv (2*(cntV g:Int)):=fun n hn=>by
      unfold repN
      rw [if_neg (by omega),Int.mul_comm]
    rw [f _ (by omega),f _ (by omega)]
  rw [e2]
  show reName x.nm x.name (lift x.lv (repN x (cntV g)) _)::_=GRec.atEn (reName x.nm x.name (lift x.lv (fun n=>x.st+n*(x.en - x.st+1).tdiv (2*(cntV g:Int))) _)) x.en::_
  congr 1
  unfold lift reName GRec.atEn
  dsimp only
  rw [e0,e1]
set_option maxRecDepth 100000 in
set_option maxHeartbeats 4000000 in
theorem RReplace_c (σ:Snap) (L:List GRec) (hL:L.length<=4096) (ao:Option Addr) (cap:Nat) (H:SlAt σ ao L.length cap 11 (recRows L)) (i:Int) (g:GVal) (r:List AT) (hr:RepV σ g r) (hW:recsW L+g.weight<=100000) (hN:∀ x∈L,recsW L+g.weight+x.name.size<=100000) :
    PureS Tryz.prog 22 [.a (.v (.slice ao L.length cap)),.a (.v (.int .i64 i)),.agg r] σ (fun v σ'=>ResOk σ' (replaceG L i g) v):=by
  obtain ⟨la,lc,lrows,ma,mc,vrows,rfl,V⟩:=hr.open
  have S:=snd_all (L:=L) (by omega)
  have hrg:replaceG L i g=if placeE L i≠0 then ⟨[],0,0,placeE L i⟩ else if sane g≠0 then ⟨[],0,0,sane g⟩ else
    match L[i.toNat]? with
    | none=>⟨[],0,0,1⟩
    | some r=>runG L i.toNat (lastG L i.toNat+1).toNat (laidG g r (repN r (cntS g))) (r.en - r.st+1):=rfl
  refine enter_s Tryz.func22 rfl rfl (by (repeat' (first | exact trivial | exact vCells_lt _ _ _ _ _ _ | constructor))) fun w=>?_
  (repeat (first | refine cj_seq ?_ | refine cjr TT rfl ?_ | refine oj_then ?_))
  refine oj_callP rfl rfl rfl rfl rfl Tryz.call64 (by (repeat' (first | exact trivial | constructor))) (rplace12_c σ L (by omega) hL ao cap H i) fun v hv=>⟨.a (.v (.int .i64 (placeE L i))),trivial,hv.symm,?_⟩
  refine oj_run TT rfl ?_
  (repeat (first | refine cj_seq ?_ | refine cjr TT rfl ?_ | refine oj_then ?_))
  refine cj_if rfl (fun h=>?_) (fun h=>?_)
  · have h:placeE L i≠0:=by simpa using h
    rw [if_pos h] at hrg
    rw [hrg]
    (repeat (first | refine cj_seq ?_ | refine cjr TT rfl ?_ | refine oj_then ?_ | refine cj_ret ?_ | refine nj_then_ret ?_))
    refine nj_ret TT rfl fun β w' _ _=>?_
    exact bad_ok _ _
  have h:placeE L i=0:=by simpa using h
  rw [if_neg (by simp [h])] at hrg
  obtain ⟨hs,hi0,hil⟩:=place_ok h
  obtain ⟨i,rfl⟩:∃ j:Nat,i=j:=⟨i.toNat,by omega⟩
  rw [Int.toNat_natCast] at hrg
  have hi:i<L.length:=by omega
  have hLi:L[i]?=some L[i]:=List.getElem?_eq_getElem hi
  rw [hLi] at hrg
  dsimp only at hrg
  have hrow:=recRows_get hLi
  have hnum:=S.num hs L[i] (List.getElem_mem hi)
  have hlv:=sound_levels hs
  have hlvi:=hlv L[i] (List.getElem_mem hi)
  have hwi:=recsW_mem (List.getElem_mem hi)
  have hwf:=V.rep.wf
  rw [recW] at hwi
  have hnx:=hN _ (List.getElem_mem hi)
  (repeat (first | refine cj_seq ?_ | refine cjr TT rfl ?_ | refine cj_skip ?_ | refine nj_then ?_))
  refine oj_callP rfl rfl rfl rfl rfl Tryz.call66 (by (repeat' (first | exact trivial | exact vCells_lt _ _ _ _ _ _ | constructor))) (RSane_c σ g _ V.rep (by omega)) fun v hv=>⟨.a (.v (.int .i64 (sane g))),trivial,hv.symm,?_⟩
  refine oj_run TT rfl ?_
  (repeat (first | refine cj_seq ?_ | refine cjr TT rfl ?_ | refine oj_then ?_))
  refine cj_if rfl (fun h=>?_) (fun h=>?_)
  · have h:sane g≠0:=by simpa using h
    rw [if_pos h] at hrg
    rw [hrg]
    (repeat (first | refine cj_seq ?_ | refine cjr TT rfl ?_ | refine oj_then ?_ | refine cj_ret ?_ | refine nj_then_ret ?_))
    refine nj_ret TT rfl fun β w' _ _=>?_
    exact bad_ok _ _
  have hsg:sane g=0:=by simpa using h
  rw [if_neg (by simp [hsg])] at hrg
  have hat:atG L i=true:=by
    unfold atG
    rw [hs]
    simp
    omega
  have hla:lastA L i=lastG L i:=by unfold lastA;rw [if_pos hat];rfl
  have hlb:=lastG_bd L i hi
  have hlc:=RLast_c σ L (by omega) hL ao cap H i
  rw [hla] at hlc
  obtain ⟨g',hw',her⟩:=rep_whole hs hLi hwf (laid_er hwf L[i] (repN L[i] (cntS g)) 1 0)
  obtain ⟨j,hj⟩:∃ j:Nat,lastG L i+1=j:=⟨(lastG L i+1).toNat,by omega⟩
  rw [hj,Int.toNat_natCast] at hrg her
  rw [hrg]
  clear hrg
  have hcs:=cntS_eq hwf
  have hcw:=cntV_le g
  have hcp:=cntV_pos g
  have hMl:=laid_len hwf L[i] (repN L[i] (cntS g))
  have hlw:=laid_w g L[i] (repN L[i] (cntS g))
  have hsw:=spliced_w L (laidG g L[i] (repN L[i] (cntS g))) i j (by omega)
  generalize L[i]=x at *
  have hq:=tdiv_bd (a:=x.en - x.st+1) (b:=2*(cntV g:Int)) (c:=1099511627779) (by omega)
  have hld:=laid12_f σ g _ V.rep (by omega) hsg x.lv (by omega) (by omega) x.nm x.name x.st ((x.en - x.st+1).tdiv (2*(cntV g:Int))) (by omega) (by omega) (by omega) (by omega)
  have hrl:=rep_laid hwf x
  have hlvM:∀ q∈spliced L i j (laidG g x (repN x (cntS g))),0<=q.lv/\q.lv<=1000000:=by
    intro q hq
    rcases spliced_mem hq with hq | hq
    · have:=hlv q hq
      omega
    · have hl:=(laid_lay hwf x (fun n=>n+1) (fun n=>n) (fun a b _ h=>h) (fun n _ _=>by omega)).lvb
      have he:(laidG g x (fun n=>n+1)).map er=(laidG g x (repN x (cntS g))).map er:=by rw [laid_er hwf _ _ 1 0,laid_er hwf _ _ 1 0]
      obtain ⟨jq,hjq⟩:=List.getElem?_of_mem hq
      obtain ⟨z,hz,hze⟩:=er_get he.symm hjq
      have h1:=hl z (List.mem_of_getElem? hz)
      have h2:q.lv=z.lv:=(er_fields he.symm hjq hz).1
      have h3:(laidG g x (fun n=>n+1)).length=cntV g:=laid_len hwf _ _
      rw [h3] at h1
      omega
  obtain ⟨hrw,hrwe⟩:=whole12 hw' her (by omega)
  have hspl:0<(spliced L i j (laidG g x (repN x (cntS g)))).length:=by
    unfold spliced
    rw [List.length_append,List.length_append,hMl]
    omega
  have hspn:=recsW_len (spliced L i j (laidG g x (repN x (cntS g))))
  generalize hM:laidG g x (repN x (cntS g))=M at *
  obtain ⟨q0,M0,hM0⟩:∃ q0 M0,laidG g (top12 x.lv x.nm x.name) (fun n=>x.st+n*(x.en - x.st+1).tdiv (2*(cntV g:Int)))=q0::M0:=by
    cases hc:laidG g (top12 x.lv x.nm x.name) (fun n=>x.st+n*(x.en - x.st+1).tdiv (2*(cntV g:Int))) with
    | nil=>rw [hc] at hrl;rw [hrl] at hMl;simp [hdEn] at hMl;omega
    | cons a b=>exact ⟨a,b,rfl⟩
  rw [hM0] at hld hrl
  have hrl:M=q0.atEn x.en::M0:=hrl
  have hml0:(q0::M0).length=M.length:=by rw [hrl];rfl
  have hrun:runG L i j M (x.en - x.st+1)=if (anewG (spliced L i j M)).2≠0 then ⟨[],0,0,(anewG (spliced L i j M)).2⟩
      else if x.en - x.st+1<2*(cntV g:Int) then ⟨(anewG (spliced L i j M)).1,cntV g,(L.length:Int) - ((j:Int) - i),0⟩ else ⟨spliced L i j M,cntV g,0,0⟩:=by
    unfold runG
    rw [hMl]
  rw [hrun]
  clear hrun her
  (repeat (first | refine cj_seq ?_ | refine cjr TT rfl ?_ | refine cj_skip ?_ | refine nj_then ?_))
  refine oj_callP rfl rfl rfl rfl rfl Tryz.call70 (by (repeat' (first | exact trivial | exact vCells_lt _ _ _ _ _ _ | constructor))) (RCount_c g σ _ V.rep (by omega)) fun v hv=>⟨.a (.v (.int .i64 (cntV g))),trivial,hv.symm,?_⟩
  refine oj_run TT rfl ?_
  (repeat (first | refine cj_seq ?_ | refine cjr TT rfl ?_ | refine oj_then ?_))
  refine oj_callP rfl rfl rfl rfl rfl Tryz.call69 (by (repeat' (first | exact trivial | constructor))) hlc fun v hv=>⟨.a (.v (.int .i64 (lastG L i))),trivial,hv.symm,?_⟩
  refine oj_run TT rfl ?_
  refine oj_add rfl rfl rfl rfl rfl rfl (by omega) (oj_run TT rfl ?_)
  rw [hj]
  (repeat (first | refine cj_seq ?_ | refine oj_then ?_))
  refine cj_draw [(0,.pure),(1,.pure),(2,.pure),(3,.pure),(4,.quiet),(5,.pure),(6,.pure),(7,.pure),(8,.pure),(9,.quiet),(10,.pure),(11,.pure),(12,.pure)] mixed (by kernel_rfl) (oj_run TT rfl ?_)
  refine oj_idx TT rfl rfl rfl rfl rfl rfl rfl rfl rfl H (by omega) hrow (oj_run TT rfl ?_)
  refine oj_idx TT rfl rfl rfl rfl rfl rfl rfl rfl rfl H (by omega) hrow (oj_run TT rfl ?_)
  refine oj_minus rfl rfl rfl rfl rfl rfl (by omega) (oj_run TT rfl ?_)
  refine oj_add rfl rfl rfl rfl rfl rfl (by omega) (oj_run TT rfl ?_)
  (repeat (first | refine cj_seq ?_ | refine oj_then ?_))
  refine cj_draw [(0,.quiet),(1,.pure),(2,.pure),(3,.pure),(4,.pure),(5,.quiet),(6,.pure),(7,.pure),(8,.pure),(9,.pure),(10,.quiet),(11,.pure),(12,.pure),(13,.pure),(14,.pure),(15,.quiet),(16,.pure),(17,.pure),(18,.pure),(19,.pure),(20,.quiet),(21,.pure),(22,.pure),(23,.pure),(24,.pure),(25,.sink),(26,.pure)] mixed (by kernel_rfl) (oj_run TT rfl ?_)
  refine oj_idx TT rfl rfl rfl rfl rfl rfl rfl rfl rfl H (by omega) hrow (oj_run TT rfl ?_)
  refine oj_idx TT rfl rfl rfl rfl rfl rfl rfl rfl rfl H (by omega) hrow (oj_run TT rfl ?_)
  refine oj_idx TT rfl rfl rfl rfl rfl rfl rfl rfl rfl H (by omega) hrow (oj_run TT rfl ?_)
  refine oj_idx TT rfl rfl rfl rfl rfl rfl rfl rfl rfl H (by omega) hrow (oj_run TT rfl ?_)
  refine oj_mul rfl rfl rfl rfl rfl rfl (by omega) (oj_run TT rfl ?_)
  refine oj_quo rfl rfl rfl rfl rfl rfl (by omega) (by omega) (oj_run TT rfl ?_)
  refine oj_callF [] (A0:=[]) (Ar:=[]) rfl rfl rfl rfl rfl rfl rfl Tryz.call71 (by (repeat' (first | exact trivial | exact vCells_lt _ _ _ _ _ _ | constructor))) hld fun v σ4 A4 hle4 ⟨g1,oc,hoc,hA,hv⟩=>⟨.a (.v (.slice (some ⟨g1,0,none⟩) (q0::M0).length oc)),trivial,hv.symm,?_⟩
  subst hA
  have had:∀ k j:Nat,some (SV.a (AT.v (.pointer (some (Addr.add (Addr.add ⟨g1,0,none⟩ ((k:Int).toNat*11)) j)))))=some (SV.a (AT.v (.pointer (some ⟨g1,k*11+j,none⟩)))):=fun k j=>by rw [add0,Addr.add_lit];rfl
  have H:=H.mono hle4
  refine oj_run TT rfl ?_
  (repeat (first | refine cj_seq ?_ | refine cjr TT rfl ?_ | refine oj_then ?_))
  refine oj_idx TT rfl rfl rfl rfl rfl rfl rfl rfl rfl H (by omega) hrow (oj_run TT rfl ?_)
  refine oj_indexAddr TT rfl rfl rfl rfl rfl rfl rfl rfl rfl ⟨by omega,by rw [List.length_cons];omega⟩ (oj_run TT rfl ?_)
  refine oj_stA 0 (off:=0*11+1) (A':=[r2E (some ⟨g1,0,none⟩) (q0::M0).length oc (q0.atEn x.en::M0)]) TT rfl rfl rfl rfl (had 0 1) rfl rfl rfl rfl rfl (by show 0*11+1<(q0::M0).length*11;rw [List.length_cons];omega) trivial rfl rfl (oj_run TT rfl ?_)
  rw [<-hrl,hml0]
  rw [hml0] at hoc
  refine oj_then ?_
  refine cj_seal 0 rfl rfl fun σ5 hle5 hS=>?_
  have HM:SlAt σ5 (some ⟨g1,0,none⟩) M.length oc 11 (recRows M):=r2E_sealed hS hoc
  have H:=H.mono hle5
  (repeat (first | refine cj_seq ?_ | refine cjr TT rfl ?_))
  refine oj_callS rfl rfl rfl rfl rfl Tryz.call74 ⟨trivial,trivial,trivial,trivial,trivial⟩ (parts_s σ5 L (by omega) ao cap H M (by omega) _ oc HM i j (by omega) (by omega)) fun v σ6 hle6 ⟨po,pc,hv,HP⟩=>⟨.a (.v (.slice po (spliced L i j M).length pc)),trivial,hv.symm,?_⟩
  have H:=H.mono hle6
  have HM:=HM.mono hle6
  refine oj_run TT rfl ?_
  refine oj_callF [] (A0:=[]) (Ar:=[]) rfl rfl rfl rfl rfl rfl rfl Tryz.call73 (by (repeat' (first | exact trivial | constructor))) (copied_f σ6 (spliced L i j M) (by omega) po pc HP) fun v σ7 A7 hle7 ⟨co,cc,hcc,hv,hA⟩=>⟨.a (.v (.slice co (spliced L i j M).length cc)),trivial,hv.symm,?_⟩
  subst hA
  have H:=H.mono hle7
  have HM:=HM.mono hle7
  refine oj_arrAt 0 (E:=r2E co (spliced L i j M).length cc (spliced L i j M)) rfl hspl fun gc hgc=>?_
  have hgc:co=some ⟨gc,0,none⟩:=hgc
  subst hgc
  refine oj_run TT rfl ?_
  have hwh:=whole_f σ7 (spliced L i j M) (by omega) hspl hlvM hrw gc cc hcc
  rw [hrwe] at hwh
  refine oj_callF [0] (A0:=[r2E (some ⟨gc,0,none⟩) (spliced L i j M).length cc (spliced L i j M)]) (Ar:=[]) rfl rfl rfl rfl rfl rfl rfl Tryz.call72 (by (repeat' (first | exact trivial | constructor))) hwh fun v σ8 A8 hle8 ⟨hA,bo,bc,hv,HA⟩=>⟨.tup [.a (.v (.slice bo (anewG (spliced L i j M)).1.length bc)),.a (.v (.int .i64 (anewG (spliced L i j M)).2))],(by (repeat' (first | exact trivial | refine SV.lt_tup ?_ | constructor))),hv.symm,?_⟩
  subst hA
  have H:=H.mono hle8
  have HM:=HM.mono hle8
  generalize (anewG (spliced L i j M)).1=AL at *
  generalize (anewG (spliced L i j M)).2=ae at *
  refine oj_run TT rfl ?_
  (repeat (first | refine cj_seq ?_ | refine cjr TT rfl ?_ | refine oj_then ?_))
  refine cj_if rfl (fun h=>?_) (fun h=>?_)
  · have h:ae≠0:=by simpa using h
    rw [if_pos h]
    (repeat (first | refine cj_seq ?_ | refine cjr TT rfl ?_ | refine oj_then ?_ | refine cj_ret ?_ | refine nj_then_ret ?_))
    refine nj_ret TT rfl fun β w' _ _=>?_
    exact bad_ok _ _
  have h:ae=0:=by simpa using h
  rw [if_neg (by simp [h])]
  (repeat (first | refine cj_seq ?_ | refine cjr TT rfl ?_ | refine cj_skip ?_ | refine nj_then ?_))
  refine oj_mul rfl rfl rfl rfl rfl rfl (by omega) (oj_run TT rfl ?_)
  (repeat refine oj_then ?_)
  refine cj_if rfl (fun h=>?_) (fun h=>?_)
  · have h:=of_decide_eq_true h
    rw [if_neg (by omega)]
    (repeat (first | refine cj_seq ?_ | refine cjr TT rfl ?_))
    refine oj_callS rfl rfl rfl rfl rfl Tryz.call74 ⟨trivial,trivial,trivial,trivial,trivial⟩ (parts_s σ8 L (by omega) ao cap H M (by omega) _ oc HM i j (by omega) (by omega)) fun v σ9 hle9 ⟨qo2,qc2,hv,HQ⟩=>⟨.a (.v (.slice qo2 (spliced L i j M).length qc2)),trivial,hv.symm,?_⟩
    refine oj_run TT rfl ?_
    (repeat (first | refine oj_then ?_ | refine cj_ret ?_ | refine nj_then_ret ?_))
    refine nj_ret TT rfl fun β w' _ _=>?_
    exact ⟨qo2,qc2,rfl,HQ⟩
  · have h:=of_decide_eq_false h
    rw [if_pos (by omega)]
    (repeat (first | refine cj_seq ?_ | refine cjr TT rfl ?_ | refine oj_then ?_ | refine cj_skip ?_ | refine cj_ret ?_ | refine nj_then ?_ | (refine oj_minus rfl rfl rfl rfl rfl rfl (by omega) ?_;refine oj_run TT rfl ?_)))
    refine nj_ret TT rfl fun β w' _ _=>?_
    exact ⟨bo,bc,rfl,HA⟩
end Go.Sy
namespace Go.Sy
open Go.Proofs
theorem few_w {L:List GRec} {n:Nat} (h1:L.length<=n) (h2:∀ r∈L,r.name.size+r.s.size<=300/\r.n.dg.size<=200):recsW L<=n*501:=by
  have:recsW L<=L.length*501:=by
    clear h1
    induction L with
    | nil=>exact Nat.le_refl _
    | cons r l ih =>
      have:=ih fun x hx=>h2 x (List.mem_cons_of_mem _ hx)
      have:=h2 r List.mem_cons_self
      rw [recsW,recW,List.length_cons]
      omega
  exact Nat.le_trans this (Nat.mul_le_mul_right _ h1)
theorem buildR_w {L:List GRec} (h:recsW L<=100000):(buildR L).1.weight<=100000/\(buildR L).1.wf:=by
  unfold buildR
  have hg:gval0.weight<=100000:=by decide
  split
  · exact ⟨hg,⟨rfl,trivial,trivial⟩⟩
  · rename_i hc
    split
    · exact ⟨hg,⟨rfl,trivial,trivial⟩⟩
    · refine ⟨?_,buildN_wf _ _⟩
      have hpos:0<L.length:=by
        have hn:¬ nestedG L=false:=fun h=>hc (.inr (.inl h))
        have hn:nestedG L=true:=by simpa using hn
        unfold nestedG at hn
        simp only [Bool.and_eq_true,decide_eq_true_eq] at hn
        omega
      have:=buildG_w hpos
      show (buildG L).1.weight<=_
      omega
end Go.Sy
namespace Go.Sy
open Go.Proofs
mutual
theorem shredV_le (gap:Int):∀ (g:GVal) (lv:Int) (nm:Bool) (name:ByteArray) (now:Int),(shredV gap g lv nm name now).1.length<=cntV g
  | .mk k b n s l ks vs,lv,nm,name,now=>by
    have h1:=shredL_le gap l (lv+1) (now+gap)
    have h2:=shredM_le gap vs ks (lv+1) (shredL gap l (lv+1) (now+gap)).2
    simp only [shredV,List.length_cons,List.length_append,cntV]
    omega
theorem shredL_le (gap:Int):∀ (gs:List GVal) (lv now:Int),(shredL gap gs lv now).1.length<=cntL gs
  | [],lv,now=>by simp [shredL,cntL]
  | g::gs,lv,now=>by
    have h1:=shredV_le gap g lv false ⟨#[]⟩ now
    have h2:=shredL_le gap gs lv (shredV gap g lv false ⟨#[]⟩ now).2
    simp only [shredL,List.length_append,cntL]
    omega
theorem shredM_le (gap:Int):∀ (gs:List GVal) (ks:List ByteArray) (lv now:Int),(shredM gap gs ks lv now).1.length<=cntL gs
  | [],ks,lv,now=>by simp [shredM]
  | g::gs,[],lv,now=>by simp [shredM]
  | g::gs,k::ks,lv,now=>by
    have h1:=shredV_le gap g lv true k now
    have h2:=shredM_le gap gs ks lv (shredV gap g lv true k now).2
    simp only [shredM,List.length_append,cntL]
    omega
end
theorem shredG_le (g:GVal) (gap:Int):(shredG g gap).1.length<=4096:=by
  unfold shredG
  split
  · simp
  · split
    · simp
    · rename_i h
      have h:sane g=0:=by simpa using h
      have:=(sane_iff.1 h).2
      have:=shredV_le gap g 0 false emptyS 0
      show (shredV gap g 0 false emptyS 0).1.length<=4096
      omega
theorem runG_le (L:List GRec) (fr to:Nat) (M:List GRec) (room:Int):(runG L fr to M room).l.length<=4096+L.length+L.length+M.length:=by
  have h1:(anewG (spliced L fr to M)).1.length<=4096:=shredG_le _ _
  have h2:(spliced L fr to M).length<=L.length+L.length+M.length:=by
    unfold spliced
    rw [List.length_append,List.length_append,List.length_take,List.length_drop]
    omega
  unfold runG
  split
  · simp
  · split
    · dsimp only;omega
    · dsimp only;omega
theorem insertG_le (L:List GRec) (i k:Int) (key:ByteArray) {g:GVal} (hw:g.wf):(insertG L i k key g).l.length<=4096+L.length+L.length+cntV g:=by
  have hr:∀ (fr to:Nat) (top:GRec) (ν:Int->Int) (room:Int),(runG L fr to (laidG g top ν) room).l.length<=4096+L.length+L.length+cntV g:=fun fr to top ν room=>by
    have:=runG_le L fr to (laidG g top ν) room
    rw [laid_len hw] at this
    exact this
  unfold insertG
  split
  · simp
  · split
    · simp
    · split
      · simp
      · split
        · simp
        · split
          · split
            · simp
            · exact hr _ _ _ _ _
          · split
            · simp
            · exact hr _ _ _ _ _
theorem replaceG_le (L:List GRec) (i:Int) {g:GVal} (hw:g.wf):(replaceG L i g).l.length<=4096+L.length+L.length+cntV g:=by
  have hr:∀ (fr to:Nat) (top:GRec) (ν:Int->Int) (room:Int),(runG L fr to (laidG g top ν) room).l.length<=4096+L.length+L.length+cntV g:=fun fr to top ν room=>by
    have:=runG_le L fr to (laidG g top ν) room
    rw [laid_len hw] at this
    exact this
  unfold replaceG
  split
  · simp
  · split
    · simp
    · split
      · simp
      · exact hr _ _ _ _ _
theorem deleteG_le (L:List GRec) (i:Int):(deleteG L i).1.length<=L.length+L.length:=by
  unfold deleteG
  split
  · simp
  · split
    · simp
    · dsimp only
      rw [List.length_append,List.length_take,List.length_drop]
      omega
theorem spreadG_le (L:List GRec) (gap:Int):(spreadG L gap).1.length<=4096:=by
  unfold spreadG
  split
  · simp
  · exact shredG_le _ _
end Go.Sy
namespace Go.Sy
open Go.Proofs
set_option maxRecDepth 100000 in
set_option maxHeartbeats 4000000 in
theorem EditsAre_c (σ:Snap) (g:GVal) (r:List AT) (i k:Int) (key:ByteArray) (L:List GRec) (lo:Option Addr) (lc:Nat) (HL:SlAt σ lo L.length lc 11 (recRows L)) (hLl:L.length<=140737488355328) (hLf:∀ x∈L,x.name.size<=140737488355328/\x.s.size<=140737488355328) (hr:RepV σ g r) :
    PlainS Tryz.prog 3 [.a (.v (.slice lo L.length lc)),.a (.v (.int .i64 i)),.a (.v (.int .i64 k)),.a (.v (.string key)),.agg r] σ (fun v=>v=.bool true):=by
  obtain ⟨la,lcap,lrows,ma,mc,vrows,rfl,V⟩:=hr.open
  have hwf:=V.rep.wf
  refine enter_p Tryz.func3 rfl rfl (by (repeat' (first | exact trivial | exact vCells_lt _ _ _ _ _ _ | constructor))) fun w=>?_
  (repeat (first | refine cj_seq ?_ | refine cjr TT rfl ?_ | refine oj_then ?_))
  refine oj_callS rfl rfl rfl rfl rfl Tryz.call11 trivial (awake12_c σ) fun v σ0 hle0 hv=>⟨.a .tt,trivial,hv.symm,?_⟩
  have HL:=HL.mono hle0
  have V:=V.monoC hle0.cle
  refine oj_run TT rfl ?_
  (repeat (first | refine cj_seq ?_ | refine cjr TT rfl ?_ | refine oj_then ?_))
  refine oj_callP rfl rfl rfl rfl rfl Tryz.call12 (by (repeat' (first | exact trivial | constructor))) (RFew_c σ0 L hLl hLf lo lc HL 100) fun v ⟨fb2,hv,hfew2⟩=>⟨.a (.b fb2),trivial,hv.symm,?_⟩
  refine oj_run TT rfl ?_
  refine oj_split 23 rfl (fun h=>?_) (fun h=>?_)
  · refine oj_run TT rfl ?_
    (repeat (first | refine cj_seq ?_ | refine cjr TT rfl ?_ | refine oj_then ?_ | refine cj_if_t rfl ?_ | refine cj_ret ?_ | refine nj_then_ret ?_))
    refine nj_ret TT rfl fun β w' _ _=>?_
    rfl
  obtain ⟨hl1,hl2⟩:=hfew2 (by simpa using h)
  have hl1:L.length<=100:=by omega
  have hW:recsW L<=50100:=few_w hl1 hl2
  refine oj_run TT rfl ?_
  refine oj_callP rfl rfl rfl rfl rfl Tryz.call13 (by (repeat' (first | exact trivial | exact vCells_lt _ _ _ _ _ _ | constructor))) (Few_c σ0 g _ 1000 V.rep (by omega) (by omega)) fun v ⟨fb,hv,hfew⟩=>⟨.a (.b fb),trivial,hv.symm,?_⟩
  refine oj_run TT rfl ?_
  refine oj_split 28 rfl (fun h=>?_) (fun h=>?_)
  · refine oj_run TT rfl ?_
    (repeat (first | refine cj_seq ?_ | refine cjr TT rfl ?_ | refine oj_then ?_ | refine cj_if_t rfl ?_ | refine cj_ret ?_ | refine nj_then_ret ?_))
    refine nj_ret TT rfl fun β w' _ _=>?_
    rfl
  have hw:g.weight<=1000:=by
    have:=hfew (by simpa using h)
    omega
  refine oj_run TT rfl ?_
  (repeat refine oj_then ?_)
  refine cj_if rfl (fun h=>?_) (fun h=>?_)
  · (repeat (first | refine cj_seq ?_ | refine cjr TT rfl ?_ | refine oj_then ?_ | refine cj_ret ?_ | refine nj_then_ret ?_))
    refine nj_ret TT rfl fun β w' _ _=>?_
    rfl
  have hkey:key.size<=200:=by have:=of_decide_eq_false h;omega
  have hkm:key.size<=mostLen:=by simp only [mostLen];omega
  have S:=snd_all (L:=L) (by omega)
  have hcw:=cntV_le g
  have hil:=insertG_le L i k key hwf
  have hrl:=replaceG_le L i hwf
  have hdl:=deleteG_le L i
  have hsl:=spreadG_le L k
  have hbw:=(buildR_w (L:=L) (by omega)).1
  (repeat (first | refine cj_seq ?_ | refine cjr TT rfl ?_ | refine cj_skip ?_ | refine nj_then ?_))
  refine oj_callS rfl rfl rfl rfl rfl Tryz.call14 ⟨trivial,trivial⟩ (ours_c σ0 L (by omega) lo lc HL) fun v σ1 hle1 ⟨oo,oc,hv,HO⟩=>⟨.a (.v (.slice oo L.length oc)),trivial,hv.symm,?_⟩
  have HL:=HL.mono hle1
  have V:=V.monoC hle1.cle
  refine oj_run TT rfl ?_
  (repeat (first | refine cj_seq ?_ | refine cjr TT rfl ?_ | refine oj_then ?_))
  have hIp:=Insert_c σ1 L S oo oc HO i k key hkm g _ V.rep (by omega)
  have hIr:=fun (σ':Snap) (hle:σ1.le σ')=>RInsert_c σ' L (by omega) lo lc (HL.mono hle) i k key hkm g _ (V.rep.mono hle) (by omega)
  have hRp:=fun (σ':Snap) (hle:σ1.le σ')=>Replace12n_c σ' L S oo oc (HO.mono hle) i g _ (V.rep.mono hle) (by omega) (fun x hx=>by have:=(hl2 x hx).1;omega)
  have hRr:=fun (σ':Snap) (hle:σ1.le σ')=>RReplace_c σ' L (by omega) lo lc (HL.mono hle) i g _ (V.rep.mono hle) (by omega) (fun x hx=>by have:=(hl2 x hx).1;omega)
  have hDp:=fun (σ':Snap) (hle:σ1.le σ')=>Delete12_c σ' L S oo oc (HO.mono hle) i
  have hDr:=fun (σ':Snap) (hle:σ1.le σ')=>RDelete_c σ' L (by omega) (by omega) lo lc (HL.mono hle) i
  have hSp:=fun (σ':Snap) (hle:σ1.le σ')=>Spread_c σ' L S.ok hbw oo oc (HO.mono hle) k
  have hSr:=fun (σ':Snap) (hle:σ1.le σ')=>RSpread_c σ' L (by omega) (by omega) hbw lo lc (HL.mono hle) k
  have hMp:=fun (σ':Snap) (hle:σ1.le σ')=>Room_c σ' L S oo oc (HO.mono hle) i k
  have hMr:=fun (σ':Snap) (hle:σ1.le σ')=>RRoom_c σ' L (by omega) (by omega) lo lc (HL.mono hle) i k
  generalize insertG L i k key g=I at *
  generalize replaceG L i g=P at *
  generalize (deleteG L i).1=D at *
  generalize (deleteG L i).2=de at *
  generalize (spreadG L k).1=Q at *
  generalize (spreadG L k).2=qe at *
  generalize roomG L i k=rm at *
  refine oj_callS rfl rfl rfl rfl rfl Tryz.call15 ⟨trivial,trivial,trivial,trivial,vCells_lt _ _ _ _ _ _,trivial⟩ hIp fun v σ2 hle2 ⟨b1,c1,hv,H1⟩=>⟨.tup [.a (.v (.slice b1 I.l.length c1)),.agg [.v (.int .i64 I.laid),.v (.int .i64 I.moved)],.a (.v (.int .i64 I.e))],(by (repeat' (first | exact trivial | refine AllLt.of ?_ | refine SV.lt_tup ?_ | constructor))),hv.symm,?_⟩
  refine oj_run TT rfl ?_
  (repeat (first | refine cj_seq ?_ | refine cjr TT rfl ?_ | refine oj_then ?_))
  refine oj_callS rfl rfl rfl rfl rfl Tryz.call16 ⟨trivial,trivial,trivial,trivial,vCells_lt _ _ _ _ _ _,trivial⟩ (hIr σ2 hle2) fun v σ3 hle3 ⟨b2,c2,hv,H2⟩=>⟨.tup [.a (.v (.slice b2 I.l.length c2)),.agg [.v (.int .i64 I.laid),.v (.int .i64 I.moved)],.a (.v (.int .i64 I.e))],(by (repeat' (first | exact trivial | refine AllLt.of ?_ | refine SV.lt_tup ?_ | constructor))),hv.symm,?_⟩
  refine oj_run TT rfl ?_
  (repeat (first | refine cj_seq ?_ | refine cjr TT rfl ?_ | refine oj_then ?_))
  refine oj_callS rfl rfl rfl rfl rfl Tryz.call18 ⟨trivial,trivial⟩ (theirs_c σ3 I.l (by omega) b1 c1 (H1.mono hle3)) fun v σ4 hle4 ⟨b3,c3,hv,H3⟩=>⟨.a (.v (.slice b3 I.l.length c3)),trivial,hv.symm,?_⟩
  refine oj_run TT rfl ?_
  refine oj_callP rfl rfl rfl rfl rfl Tryz.call17 (by (repeat' (first | exact trivial | constructor))) (Same_c σ4 I.l I.l (by omega) b3 b2 c3 c2 H3 (H2.mono hle4)) fun v hv=>⟨.a .tt,trivial,by rw [hv,sameRec_refl];rfl,?_⟩
  refine oj_run TT rfl ?_
  have hl4:=Snap.le_trans hle2 (Snap.le_trans hle3 hle4)
  refine oj_split 68 rfl (fun h=>?_) (fun h=>?_)
  · simp at h
  refine oj_run TT rfl ?_
  refine oj_split 75 rfl (fun h=>?_) (fun h=>?_)
  · simp at h
  refine oj_run TT rfl ?_
  (repeat refine oj_then ?_)
  refine cj_if rfl (fun h=>?_) (fun h=>?_)
  · simp at h
  (repeat (first | refine cj_seq ?_ | refine cjr TT rfl ?_ | refine cj_skip ?_ | refine nj_then ?_))
  refine oj_callS rfl rfl rfl rfl rfl Tryz.call19 ⟨trivial,trivial,trivial⟩ (hDp σ4 hl4) fun v σ5 hle5 ⟨b1',c1',hv,H1'⟩=>⟨.tup [.a (.v (.slice b1' D.length c1')),.a (.v (.int .i64 de))],(by (repeat' (first | exact trivial | refine SV.lt_tup ?_ | constructor))),hv.symm,?_⟩
  have hl5:=Snap.le_trans hl4 hle5
  refine oj_run TT rfl ?_
  (repeat (first | refine cj_seq ?_ | refine cjr TT rfl ?_ | refine oj_then ?_))
  refine oj_callS rfl rfl rfl rfl rfl Tryz.call20 ⟨trivial,trivial,trivial⟩ (hDr σ5 hl5) fun v σ6 hle6 ⟨b2',c2',hv,H2'⟩=>⟨.tup [.a (.v (.slice b2' D.length c2')),.a (.v (.int .i64 de))],(by (repeat' (first | exact trivial | refine SV.lt_tup ?_ | constructor))),hv.symm,?_⟩
  have hl6:=Snap.le_trans hl5 hle6
  refine oj_run TT rfl ?_
  (repeat (first | refine cj_seq ?_ | refine cjr TT rfl ?_ | refine oj_then ?_))
  refine oj_callS rfl rfl rfl rfl rfl Tryz.call18 ⟨trivial,trivial⟩ (theirs_c σ6 D (by omega) b1' c1' (H1'.mono hle6)) fun v σ7 hle7 ⟨b3',c3',hv,H3'⟩=>⟨.a (.v (.slice b3' D.length c3')),trivial,hv.symm,?_⟩
  have hl7:=Snap.le_trans hl6 hle7
  refine oj_run TT rfl ?_
  refine oj_callP rfl rfl rfl rfl rfl Tryz.call17 (by (repeat' (first | exact trivial | constructor))) (Same_c σ7 D D (by omega) b3' b2' c3' c2' H3' (H2'.mono hle7)) fun v hv=>⟨.a .tt,trivial,by rw [hv,sameRec_refl];rfl,?_⟩
  refine oj_run TT rfl ?_
  (repeat refine oj_then ?_)
  refine cj_if rfl (fun h=>?_) (fun h=>?_)
  · simp at h
  (repeat (first | refine cj_seq ?_ | refine cjr TT rfl ?_ | refine cj_skip ?_ | refine nj_then ?_))
  refine oj_callS rfl rfl rfl rfl rfl Tryz.call21 ⟨trivial,trivial,vCells_lt _ _ _ _ _ _,trivial⟩ (hRp σ7 hl7) fun v σ8 hle8 ⟨d1,e1,hv,J1⟩=>⟨.tup [.a (.v (.slice d1 P.l.length e1)),.agg [.v (.int .i64 P.laid),.v (.int .i64 P.moved)],.a (.v (.int .i64 P.e))],(by (repeat' (first | exact trivial | refine AllLt.of ?_ | refine SV.lt_tup ?_ | constructor))),hv.symm,?_⟩
  have hl8:=Snap.le_trans hl7 hle8
  refine oj_run TT rfl ?_
  (repeat (first | refine cj_seq ?_ | refine cjr TT rfl ?_ | refine oj_then ?_))
  refine oj_callS rfl rfl rfl rfl rfl Tryz.call22 ⟨trivial,trivial,vCells_lt _ _ _ _ _ _,trivial⟩ (hRr σ8 hl8) fun v σ9 hle9 ⟨d2,e2,hv,J2⟩=>⟨.tup [.a (.v (.slice d2 P.l.length e2)),.agg [.v (.int .i64 P.laid),.v (.int .i64 P.moved)],.a (.v (.int .i64 P.e))],(by (repeat' (first | exact trivial | refine AllLt.of ?_ | refine SV.lt_tup ?_ | constructor))),hv.symm,?_⟩
  have hl9:=Snap.le_trans hl8 hle9
  refine oj_run TT rfl ?_
  (repeat (first | refine cj_seq ?_ | refine cjr TT rfl ?_ | refine oj_then ?_))
  refine oj_callS rfl rfl rfl rfl rfl Tryz.call18 ⟨trivial,trivial⟩ (theirs_c σ9 P.l (by omega) d1 e1 (J1.mono hle9)) fun v σ10 hle10 ⟨d3,e3,hv,J3⟩=>⟨.a (.v (.slice d3 P.l.length e3)),trivial,hv.symm,?_⟩
  have hl10:=Snap.le_trans hl9 hle10
  refine oj_run TT rfl ?_
  refine oj_callP rfl rfl rfl rfl rfl Tryz.call17 (by (repeat' (first | exact trivial | constructor))) (Same_c σ10 P.l P.l (by omega) d3 d2 e3 e2 J3 (J2.mono hle10)) fun v hv=>⟨.a .tt,trivial,by rw [hv,sameRec_refl];rfl,?_⟩
  refine oj_run TT rfl ?_
  refine oj_split 130 rfl (fun h=>?_) (fun h=>?_)
  · simp at h
  refine oj_run TT rfl ?_
  refine oj_split 137 rfl (fun h=>?_) (fun h=>?_)
  · simp at h
  refine oj_run TT rfl ?_
  (repeat refine oj_then ?_)
  refine cj_if rfl (fun h=>?_) (fun h=>?_)
  · simp at h
  (repeat (first | refine cj_seq ?_ | refine cjr TT rfl ?_ | refine cj_skip ?_ | refine nj_then ?_))
  refine oj_callS rfl rfl rfl rfl rfl Tryz.call23 ⟨trivial,trivial,trivial⟩ (hSp σ10 hl10) fun v σ11 hle11 ⟨f1,q1,hv,K1⟩=>⟨.tup [.a (.v (.slice f1 Q.length q1)),.a (.v (.int .i64 qe))],(by (repeat' (first | exact trivial | refine SV.lt_tup ?_ | constructor))),hv.symm,?_⟩
  have hl11:=Snap.le_trans hl10 hle11
  refine oj_run TT rfl ?_
  (repeat (first | refine cj_seq ?_ | refine cjr TT rfl ?_ | refine oj_then ?_))
  refine oj_callS rfl rfl rfl rfl rfl Tryz.call24 ⟨trivial,trivial,trivial⟩ (hSr σ11 hl11) fun v σ12 hle12 ⟨f2,q2,hv,K2⟩=>⟨.tup [.a (.v (.slice f2 Q.length q2)),.a (.v (.int .i64 qe))],(by (repeat' (first | exact trivial | refine SV.lt_tup ?_ | constructor))),hv.symm,?_⟩
  have hl12:=Snap.le_trans hl11 hle12
  refine oj_run TT rfl ?_
  (repeat (first | refine cj_seq ?_ | refine cjr TT rfl ?_ | refine oj_then ?_))
  refine oj_callS rfl rfl rfl rfl rfl Tryz.call18 ⟨trivial,trivial⟩ (theirs_c σ12 Q (by omega) f1 q1 (K1.mono hle12)) fun v σ13 hle13 ⟨f3,q3,hv,K3⟩=>⟨.a (.v (.slice f3 Q.length q3)),trivial,hv.symm,?_⟩
  have hl13:=Snap.le_trans hl12 hle13
  refine oj_run TT rfl ?_
  refine oj_callP rfl rfl rfl rfl rfl Tryz.call17 (by (repeat' (first | exact trivial | constructor))) (Same_c σ13 Q Q (by omega) f3 f2 q3 q2 K3 (K2.mono hle13)) fun v hv=>⟨.a .tt,trivial,by rw [hv,sameRec_refl];rfl,?_⟩
  refine oj_run TT rfl ?_
  refine oj_split 166 rfl (fun h=>?_) (fun h=>absurd h (by simp))
  refine oj_run TT rfl ?_
  refine oj_callS rfl rfl rfl rfl rfl Tryz.call25 ⟨trivial,trivial,trivial,trivial⟩ (hMp σ13 hl13) fun v σ14 hle14 hv=>⟨.a (.v (.int .i64 rm)),trivial,hv.symm,?_⟩
  have hl14:=Snap.le_trans hl13 hle14
  refine oj_run TT rfl ?_
  refine oj_callS rfl rfl rfl rfl rfl Tryz.call26 ⟨trivial,trivial,trivial,trivial⟩ (hMr σ14 hl14) fun v σ15 hle15 hv=>⟨.a (.v (.int .i64 rm)),trivial,hv.symm,?_⟩
  have hl15:=Snap.le_trans hl14 hle15
  refine oj_run TT rfl ?_
  refine oj_split 177 rfl (fun h=>?_) (fun h=>absurd h (by simp))
  refine oj_run TT rfl ?_
  refine oj_callS rfl rfl rfl rfl rfl Tryz.call18 ⟨trivial,trivial⟩ (theirs_c σ15 L (by omega) oo oc (HO.mono hl15)) fun v σ16 hle16 ⟨u3,w3,hv,U3⟩=>⟨.a (.v (.slice u3 L.length w3)),trivial,hv.symm,?_⟩
  refine oj_run TT rfl ?_
  refine oj_callP rfl rfl rfl rfl rfl Tryz.call17 (by (repeat' (first | exact trivial | constructor))) (Same_c σ16 L L (by omega) u3 lo w3 lc U3 ((HL.mono hl15).mono hle16)) fun v hv=>⟨.a .tt,trivial,by rw [hv,sameRec_refl];rfl,?_⟩
  refine oj_run TT rfl ?_
  (repeat (first | refine oj_then ?_ | refine cj_ret ?_))
  refine nj_ret TT rfl fun β w' _ _=>?_
  rfl
end Go.Sy
