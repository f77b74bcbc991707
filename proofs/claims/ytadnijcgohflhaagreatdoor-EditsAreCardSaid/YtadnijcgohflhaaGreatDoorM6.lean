/- Parts of the proof of CEditsAre: F11, F12, F13, F14, F15, F16, F17, La, Lb, F18, F19, F20. No conditions. -/
import Derived.Test.YtadnijcgohflhaaGreatDoorM5
namespace Go.Sy
open Go.Proofs
def bE (gb:Nat) (ao:Option Addr) (n cap:Nat) (k:Int):AE:=⟨some ⟨gb,0,none⟩,1,1,255,2,[.slice ao n cap,.int .i64 k]⟩
def RecsFit (L:List GRec):Prop:=∀ r∈L,r.n.dg.size<=mostLen/\r.s.size<=mostLen/\r.name.size<=mostLen
structure BuS where
  σ:Snap
  m:Nat
  k:Nat
  ls:List GVal
  lr:List (List AT)
  la:Option Addr
  lc:Nat
  ks:List ByteArray
  vs:List GVal
  vr:List (List AT)
  ma:Option Addr
  mc:Nat
def buCells (r:GRec) (s:BuS):List AT:=[.v (.int .i64 r.kd),.b r.b,.b r.n.neg,.v (.string r.n.dg),.v (.int .i64 r.n.ex),.v (.string r.s),.v (.slice s.la s.ls.length s.lc),.v (.slice s.ma s.ks.length s.mc)]
def buA (gb:Nat) (ao:Option Addr) (n cap:Nat) (s:BuS):List AE:=[bE gb ao n cap s.k,⟨s.la,s.ls.length,s.lc,28,8,s.lr.flatten.map AT.val⟩,⟨s.ma,s.ks.length,s.mc,184,9,(keyRows s.ks s.vr).flatten.map AT.val⟩]
theorem keyRows_snoc:∀ (ks:List ByteArray) (rs:List (List AT)) (k:ByteArray) (r:List AT),ks.length=rs.length->keyRows (ks++[k]) (rs++[r])=keyRows ks rs++[keyRow k r]
  | [],[],_,_,_=>rfl
  | [],_::_,_,_,h=>by simp at h
  | _::_,[],_,_,h=>by simp at h
  | x::ks,y::rs,k,r,h=>by
    simp only [List.cons_append,keyRows,keyRows_snoc ks rs k r (by simpa using h)]
def zeroV:List AT:=[.v (.int .i64 0),.ff,.ff,.v (.string ⟨#[]⟩),.v (.int .i64 0),.v (.string ⟨#[]⟩),.v (.slice none 0 0),.v (.slice none 0 0)]
set_option maxRecDepth 100000 in
set_option maxHeartbeats 4000000 in
theorem builder_c (L:List GRec) (hF:RecsFit L) (hL:L.length<=100000) (ao:Option Addr) (cap:Nat):∀ (n:Nat) (σ:Snap) (k:Nat) (gb:Nat),SlAt σ ao L.length cap 11 (recRows L)->k<L.length->2*(L.drop k).length<=n ->
    FnS Tryz.prog 153 [.a (.v (.pointer (some ⟨gb,0,none⟩)))] σ [bE gb ao L.length cap k] (fun v σ' A'=>∃ r k',v=(SV.agg r).den β0/\RepV σ' (buildN n (L.drop k)).1 r/\L.drop k'=(buildN n (L.drop k)).2/\k<k'/\k'<=L.length/\A'=[bE gb ao L.length cap k']):=by
  intro n
  induction n using Nat.strongRecOn with | _ n ih=>?_
  intro σ k gb H hk hn
  have hdl:(L.drop k).length=L.length - k:=List.length_drop
  obtain ⟨n,rfl⟩:∃ m,n=m+1:=⟨n - 1,by omega⟩
  have hdc:L.drop k=L[k]::L.drop (k+1):=List.drop_eq_getElem_cons hk
  have hrow:(recRows L)[k]?=some (recCells L[k]):=recRows_get (List.getElem?_eq_getElem hk)
  have hfit:=hF _ (List.getElem_mem hk)
  have hcap:=H.ncap
  rw [hdc,buildN]
  generalize hx:L[k]=x at *
  dsimp only
  refine enter_f Tryz.func153 rfl rfl (by (repeat' (first | exact trivial | constructor))) fun w=>?_
  (repeat (first | refine cj_seq ?_ | refine cjr TT rfl ?_ | refine oj_then ?_))
  refine cj_draw [(0,.pure),(1,.pure),(2,.pure),(3,.quiet),(4,.pure),(5,.pure),(6,.pure),(7,.quiet),(8,.pure),(9,.quiet),(10,.keep),(11,.sink)] mixed (by kernel_rfl) (oj_run TT rfl ?_)
  refine oj_ldA 0 (c:=.v (.slice ao L.length cap)) TT rfl rfl rfl rfl rfl rfl rfl rfl rfl rfl rfl trivial (oj_run TT rfl ?_)
  refine oj_ldA 0 (c:=.v (.int .i64 k)) TT rfl rfl rfl rfl rfl rfl rfl rfl rfl rfl rfl trivial (oj_run TT rfl ?_)
  refine oj_idx TT rfl rfl rfl rfl rfl rfl rfl rfl rfl H (by omega) hrow (oj_run TT rfl ?_)
  (repeat (first | refine cj_seq ?_ | refine cjr TT rfl ?_ | refine oj_then ?_))
  refine oj_ldA 0 (c:=.v (.int .i64 k)) TT rfl rfl rfl rfl rfl rfl rfl rfl rfl rfl rfl trivial (oj_run TT rfl ?_)
  refine oj_add rfl rfl rfl rfl rfl rfl (by omega) (oj_run TT rfl ?_)
  refine oj_stA 0 (A':=[bE gb ao L.length cap ((k+1:Nat):Int)]) TT rfl rfl rfl rfl rfl rfl rfl rfl rfl rfl (by show 1<1*2;omega) trivial rfl rfl (oj_run TT rfl ?_)
  refine oj_nilarr 28 8 (oj_nilarr 184 9 ?_)
  (repeat (first | refine cj_seq ?_ | refine oj_then ?_ | refine cj_block ?_))
  refine cj_cutB (fun (s:BuS)=>s.σ) (fun _=>[(0,.a (.v (.pointer (some ⟨gb,0,none⟩)))),(2,.a (.p 0 0)),(4,.a (.p 3 0))])
    (fun s=>[(0,.loc 28,zeroV),(3,.loc 28,buCells x s)]) (buA gb ao L.length cap) 4
    (fun s=>σ.le s.σ/\s.ls=(kidsN n x.lv (L.drop (k+1))).ls/\s.ks=(kidsN n x.lv (L.drop (k+1))).ks/\s.vs=(kidsN n x.lv (L.drop (k+1))).vs/\L.drop s.k=(kidsN n x.lv (L.drop (k+1))).rest /\
      RepL s.σ s.ls s.lr/\RepL s.σ s.vs s.vr/\s.ks.length=s.vs.length/\k<s.k/\s.k<=L.length/\s.ls.length+s.ks.length<=L.length/\(∀ y∈s.ks,y.size<=mostLen)/\s.ls.length<=s.lc/\s.ks.length<=s.mc) ?_
    (fun s ⟨hs,e1,e2,e3,e4,hR1,hR2,hkv,hk1,hk2,hlen,hky,hc1,hc2⟩=>?_)
  · refine cj_loop (fun (s:BuS)=>s.σ) (fun _=>[(0,.a (.v (.pointer (some ⟨gb,0,none⟩)))),(2,.a (.p 0 0)),(3,.a (.p 2 0)),(4,.a (.p 3 0))])
      (fun s=>[(0,.loc 28,zeroV),(2,.loc 130,recCells x),(3,.loc 28,buCells x s)]) (buA gb ao L.length cap) 4
      (fun s=>σ.le s.σ/\s.ls++(kidsN s.m x.lv (L.drop s.k)).ls=(kidsN n x.lv (L.drop (k+1))).ls/\s.ks++(kidsN s.m x.lv (L.drop s.k)).ks=(kidsN n x.lv (L.drop (k+1))).ks/\s.vs++(kidsN s.m x.lv (L.drop s.k)).vs=(kidsN n x.lv (L.drop (k+1))).vs /\
        (kidsN s.m x.lv (L.drop s.k)).rest=(kidsN n x.lv (L.drop (k+1))).rest/\s.m<=n/\2*(L.drop s.k).length+1<=s.m /\
        RepL s.σ s.ls s.lr/\RepL s.σ s.vs s.vr/\s.ks.length=s.vs.length/\k<s.k/\s.k<=L.length/\s.ls.length+s.ks.length+(L.length - s.k)<=L.length/\(∀ y∈s.ks,y.size<=mostLen)/\s.ls.length<=s.lc/\s.ks.length<=s.mc)
      (fun s=>L.length - s.k) ⟨σ,n,k+1,[],[],none,0,[],[],[],none,0⟩ ⟨Snap.le_refl _,rfl,rfl,rfl,rfl,Nat.le_refl _,by dsimp only;rw [List.length_drop];omega,rfl,rfl,rfl,by dsimp only;omega,by dsimp only;omega,by dsimp only [List.length_nil];omega,fun y h=>(by cases h),Nat.le_refl _,Nat.le_refl _⟩
      rfl (by (repeat first | exact trivial | refine ⟨rfl,?_⟩)) (by (repeat first | exact trivial | refine ⟨rfl,?_⟩)) rfl (by (repeat' (first | exact trivial | exact Nat.le_of_ble_eq_true rfl | constructor))) (by (repeat' (first | exact trivial | exact Nat.le_of_ble_eq_true rfl | refine AllLt.of ?_ | constructor))) fun ⟨s,m,k1,ls,lr,la,lc,ks,vs,vr,ma,mc⟩ ⟨hs,e1,e2,e3,e4,hm,hm2,hR1,hR2,hkv,hk1,hk2,hlen,hky,hc1,hc2⟩=>?_
    dsimp only at hs e1 e2 e3 e4 hm hm2 hR1 hR2 hkv hk1 hk2 hlen hky hc1 hc2 ⊢
    obtain ⟨m,rfl⟩:∃ m',m=m'+1:=⟨m - 1,by omega⟩
    (repeat refine cj_seq ?_)
    refine cj_draw [(0,.pure),(1,.pure),(2,.pure),(3,.quiet),(4,.pure),(5,.pure),(6,.pure),(7,.quiet),(8,.pure),(9,.pure),(10,.pure),(11,.pure),(12,.pure),(13,.pure),(14,.quiet),(15,.pure),(16,.pure),(17,.pure),(18,.quiet),(19,.pure),(20,.pure),(21,.quiet),(22,.pure),(23,.quiet),(24,.pure),(25,.pure)] mixed (by kernel_rfl) (oj_run TT rfl ?_)
    refine oj_ldA 0 (c:=.v (.int .i64 k1)) TT rfl rfl rfl rfl rfl rfl rfl rfl rfl rfl rfl trivial (oj_run TT rfl ?_)
    refine oj_ldA 0 (c:=.v (.slice ao L.length cap)) TT rfl rfl rfl rfl rfl rfl rfl rfl rfl rfl rfl trivial (oj_run TT rfl ?_)
    refine oj_split 43 rfl (fun h=>?_) (fun h=>?_)
    rotate_left
    · have hk0:k1=L.length:=by have:=of_decide_eq_false h;omega
      subst hk0
      rw [List.drop_length,kidsN] at e1 e2 e3 e4
      simp only [List.append_nil] at e1 e2 e3
      refine oj_run TT rfl ?_
      (repeat (first | refine oj_then ?_ | refine cj_if_f rfl ?_ | refine cj_exit ?_ | refine nj_then_exit ?_ | refine nj_block_out ?_))
      refine nj_again ⟨s,m,L.length,ls,lr,la,lc,ks,vs,vr,ma,mc⟩ ⟨hs,e1,e2,e3,by dsimp only;rw [List.drop_length];exact e4,hR1,hR2,hkv,hk1,hk2,by dsimp only;omega,hky,hc1,hc2⟩ Nat.zero_lt_one rfl (by (repeat first | exact trivial | refine ⟨rfl,?_⟩)) (by (repeat first | exact trivial | refine ⟨rfl,?_⟩)) rfl (by (repeat' (first | exact trivial | exact Nat.le_of_ble_eq_true rfl | constructor))) (by (repeat' (first | exact trivial | exact Nat.le_of_ble_eq_true rfl | refine AllLt.of ?_ | constructor)))
    have hkl:k1<L.length:=by have:=of_decide_eq_true h;omega
    have hd1:L.drop k1=L[k1]::L.drop (k1+1):=List.drop_eq_getElem_cons hkl
    have hrow1:(recRows L)[k1]?=some (recCells L[k1]):=recRows_get (List.getElem?_eq_getElem hkl)
    have hfit1:=hF _ (List.getElem_mem hkl)
    generalize hy:L[k1]=y at *
    rw [hd1,kidsN] at e1 e2 e3 e4
    refine oj_run TT rfl ?_
    refine oj_ldA 0 (c:=.v (.slice ao L.length cap)) TT rfl rfl rfl rfl rfl rfl rfl rfl rfl rfl rfl trivial (oj_run TT rfl ?_)
    refine oj_ldA 0 (c:=.v (.int .i64 k1)) TT rfl rfl rfl rfl rfl rfl rfl rfl rfl rfl rfl trivial (oj_run TT rfl ?_)
    refine oj_idx TT rfl rfl rfl rfl rfl rfl rfl rfl rfl (H.mono hs) (by omega) hrow1 (oj_run TT rfl ?_)
    (repeat refine oj_then ?_)
    refine cj_if rfl (fun h=>?_) (fun h=>?_)
    rotate_left
    · have hlv:¬ x.lv<y.lv:=of_decide_eq_false h
      simp only [if_neg hlv,List.append_nil] at e1 e2 e3 e4
      (repeat (first | refine cj_exit ?_ | refine nj_then_exit ?_ | refine nj_block_out ?_))
      refine nj_again ⟨s,m,k1,ls,lr,la,lc,ks,vs,vr,ma,mc⟩ ⟨hs,e1,e2,e3,by dsimp only;rw [hd1];exact e4,hR1,hR2,hkv,hk1,hk2,by dsimp only;omega,hky,hc1,hc2⟩ Nat.zero_lt_one rfl (by (repeat first | exact trivial | refine ⟨rfl,?_⟩)) (by (repeat first | exact trivial | refine ⟨rfl,?_⟩)) rfl (by (repeat' (first | exact trivial | exact Nat.le_of_ble_eq_true rfl | constructor))) (by (repeat' (first | exact trivial | exact Nat.le_of_ble_eq_true rfl | refine AllLt.of ?_ | constructor)))
    have hlv:x.lv<y.lv:=of_decide_eq_true h
    rw [if_pos hlv] at e1 e2 e3 e4
    (repeat (first | refine cj_seq ?_ | refine cj_skip ?_ | refine cj_block ?_ | refine nj_then ?_))
    refine cj_draw [(0,.pure),(1,.pure),(2,.pure),(3,.quiet),(4,.pure),(5,.pure),(6,.pure),(7,.quiet),(8,.pure),(9,.quiet),(10,.keep),(11,.sink)] mixed (by kernel_rfl) (oj_run TT rfl ?_)
    refine oj_ldA 0 (c:=.v (.slice ao L.length cap)) TT rfl rfl rfl rfl rfl rfl rfl rfl rfl rfl rfl trivial (oj_run TT rfl ?_)
    refine oj_ldA 0 (c:=.v (.int .i64 k1)) TT rfl rfl rfl rfl rfl rfl rfl rfl rfl rfl rfl trivial (oj_run TT rfl ?_)
    refine oj_idx TT rfl rfl rfl rfl rfl rfl rfl rfl rfl (H.mono hs) (by omega) hrow1 (oj_run TT rfl ?_)
    (repeat (first | refine cj_seq ?_ | refine cjr TT rfl ?_ | refine oj_then ?_))
    have hdl1:(L.drop k1).length=L.length - k1:=List.length_drop
    refine oj_callF [0,1,2] (A0:=[bE gb ao L.length cap k1]) (Ar:=[⟨la,ls.length,lc,28,8,lr.flatten.map AT.val⟩,⟨ma,ks.length,mc,184,9,(keyRows ks vr).flatten.map AT.val⟩]) rfl rfl rfl rfl rfl rfl rfl Tryz.call153 (by (repeat' (first | exact trivial | constructor))) (ih m (by omega) s k1 gb (H.mono hs) hkl (by omega)) fun v σ2 A2 hle2 ⟨rr,k2,hv,hrep,hrest,hk12,hk2L,hA⟩=>⟨.agg rr,hrep.clo,hv.symm,?_⟩
    subst hA
    rw [hd1] at hrep hrest
    rw [<-hrest] at e1 e2 e3 e4
    generalize (buildN m (y::L.drop (k1+1))).1=gx at *
    obtain ⟨xla,xlc,xlrows,xma,xmc,xvrows,rfl,XV⟩:=hrep.open
    have hdl2:(L.drop k2).length=L.length - k2:=List.length_drop
    have hbr:=kidsN_rest
    have hs2:=Snap.le_trans hs hle2
    have hR1':=hR1.mono hle2
    have hR2':=hR2.mono hle2
    have hlr:=hR1.len
    have hvr:=hR2.len
    refine oj_run TT rfl ?_
    (repeat (first | refine cj_seq ?_ | refine cjr TT rfl ?_ | refine oj_then ?_))
    refine cj_if rfl (fun h=>?_) (fun h=>?_)
    · simp only [if_pos (show y.nm=true from h)] at e1 e2 e3 e4
      (repeat refine cjr TT rfl ?_)
      refine oj_append_lit TT 2 rfl rfl rfl rfl rfl rfl rfl rfl rfl rfl rfl rfl rfl rfl rfl rfl rfl rfl (by (repeat' (first | exact trivial | refine AllLt.of ?_ | constructor))) rfl (by omega) (by show (ks.length+1)*128<=_;omega) fun ao' cap' hcap'=>oj_run TT rfl ?_
      (repeat (first | refine oj_nil ?_ | refine nj_block ?_))
      refine nj_again ⟨σ2,m,k2,ls,lr,la,lc,ks++[y.name],vs++[gx],vr++[vCells gx xla xlc xma xmc],ao',cap'⟩
        ⟨hs2,e1,by rw [List.append_assoc];exact e2,by rw [List.append_assoc];exact e3,e4,by dsimp only;omega,by dsimp only;omega,hR1',RepL.append hR2' ⟨_,_,rfl,hrep,rfl⟩,by simp [hkv],by dsimp only;omega,hk2L,by dsimp only;rw [List.length_append,List.length_singleton];omega,
          fun z hz=>by
            rcases List.mem_append.1 hz with hz | hz
            · exact hky z hz
            · rw [List.mem_singleton.1 hz];exact hfit1.2.2,hc1,by dsimp only;rw [List.length_append];exact hcap'⟩ (by dsimp only;omega) rfl (by (repeat first | exact trivial | refine ⟨rfl,?_⟩)) ?_ ?_ (by (repeat' (first | exact trivial | exact Nat.le_of_ble_eq_true rfl | constructor))) (by (repeat' (first | exact trivial | exact Nat.le_of_ble_eq_true rfl | refine AllLt.of ?_ | constructor)))
      · refine ⟨rfl,rfl,?_,trivial⟩
        show some _=some _
        unfold buCells
        rw [List.length_append]
        rfl
      · unfold buA
        dsimp only
        rw [keyRows_snoc _ _ _ _ (by omega),List.length_append]
        simp only [List.flatten_append,List.map_append,List.flatten_cons,List.flatten_nil,List.append_nil]
        rfl
    · simp only [if_neg (show ¬ y.nm=true by simp [show y.nm=false from h])] at e1 e2 e3 e4
      (repeat refine cjr TT rfl ?_)
      refine oj_append_lit TT 1 rfl rfl rfl rfl rfl rfl rfl rfl rfl rfl rfl rfl rfl rfl rfl rfl rfl rfl (by (repeat' exact vCells_lt _ _ _ _ _ _)) rfl (by omega) (by show (ls.length+1)*112<=_;omega) fun ao' cap' hcap'=>oj_run TT rfl ?_
      (repeat (first | refine oj_nil ?_ | refine nj_block ?_))
      refine nj_again ⟨σ2,m,k2,ls++[gx],lr++[vCells gx xla xlc xma xmc],ao',cap',ks,vs,vr,ma,mc⟩
        ⟨hs2,by rw [List.append_assoc];exact e1,e2,e3,e4,by dsimp only;omega,by dsimp only;omega,RepL.append hR1' ⟨_,_,rfl,hrep,rfl⟩,hR2',hkv,by dsimp only;omega,hk2L,by dsimp only;rw [List.length_append,List.length_singleton];omega,
          hky,by dsimp only;rw [List.length_append];exact hcap',hc2⟩ (by dsimp only;omega) rfl (by (repeat first | exact trivial | refine ⟨rfl,?_⟩)) ?_ ?_ (by (repeat' (first | exact trivial | exact Nat.le_of_ble_eq_true rfl | constructor))) (by (repeat' (first | exact trivial | exact Nat.le_of_ble_eq_true rfl | refine AllLt.of ?_ | constructor)))
      · refine ⟨rfl,rfl,?_,trivial⟩
        show some _=some _
        unfold buCells
        rw [List.length_append]
        rfl
      · unfold buA
        dsimp only
        rw [List.length_append]
        simp only [List.flatten_append,List.map_append,List.flatten_cons,List.flatten_nil,List.append_nil]
        rfl
  obtain ⟨s,m,k1,ls,lr,la,lc,ks,vs,vr,ma,mc⟩:=s
  dsimp only at hs e1 e2 e3 e4 hR1 hR2 hkv hk1 hk2 hlen hky hc1 hc2 ⊢
  rw [<-e1,<-e2,<-e3,<-e4]
  clear e1 e2 e3 e4
  have hlr:=hR1.len
  have hvr:=hR2.len
  (repeat (first | refine cj_seq ?_ | refine cjr TT rfl ?_ | refine oj_then ?_ | refine cj_ret ?_))
  refine nj_seal 1 rfl rfl fun σ1 hle1 hS1=>?_
  refine nj_seal 1 rfl rfl fun σ2 hle2 hS2=>?_
  refine nj_fret TT rfl fun β w' _ _=>?_
  have S1:=(hS1.sl (rows:=lr) (sz:=8) rfl (fun r hr=>⟨(hR1.rows r hr).1,(hR1.rows r hr).2.1⟩) hlr rfl hc1).mono hle2
  have S2:=hS2.sl (rows:=keyRows ks vr) (sz:=9) (n:=ks.length) rfl (fun r hr=>?_) (keyRows_len (by omega)) rfl hc2
  · refine ⟨buCells x ⟨s,m,k1,ls,lr,la,lc,ks,vs,vr,ma,mc⟩,k1,rfl,?_,rfl,hk1,hk2,rfl⟩
    simp only [RepV]
    exact ⟨la,lc,lr,ma,mc,vr,rfl,S1,(hR1.mono hle1).mono hle2,hkv,S2,(hR2.mono hle1).mono hle2,hfit.1,hfit.2.1,by simp only [mostLen];omega,by simp only [mostLen];omega,hky⟩
  · obtain ⟨j,hj⟩:=List.getElem?_of_mem hr
    have hjl:=(List.getElem?_eq_some_iff.1 hj).1
    rw [keyRows_len (by omega)] at hjl
    have hg:=keyRows_get (List.getElem?_eq_getElem hjl) (List.getElem?_eq_getElem (l:=vr) (i:=j) (by omega))
    rw [hg] at hj
    injection hj with hj
    subst hj
    have:=hR2.rows _ (List.getElem_mem (l:=vr) (n:=j) (by omega))
    exact ⟨by simp [keyRow,this.1],keyRow_lt this.2.1⟩
end Go.Sy
namespace Go.Sy
open Go.Proofs
def intVs (l:List Int):List Value:=l.map fun x=>Value.int .i64 x
structure NmS where
  k:Nat
  op:List Int
  oo:Option Addr
  oc:Nat
def nmA (oo:Option Addr) (oc:Nat) (op:List Int):List AE:=[⟨oo,op.length,oc,3,1,intVs op⟩]
set_option maxRecDepth 100000 in
set_option maxHeartbeats 2000000 in
theorem named_c (σ:Snap) (L:List GRec) (hL:L.length<=100000) (ao:Option Addr) (cap:Nat) (H:SlAt σ ao L.length cap 11 (recRows L)) (hlv:levelsOk 0 L) :
    PlainS Tryz.prog 152 [.a (.v (.slice ao L.length cap))] σ (fun v=>v=.bool (namedG L)):=by
  refine enter_p Tryz.func152 rfl rfl (by (repeat' (first | exact trivial | constructor))) fun w=>?_
  refine cj_nilarr 3 1 ?_
  (repeat (first | refine cj_seq ?_ | refine cjr TT rfl ?_ | refine oj_then ?_ | refine cj_block ?_))
  refine cj_loop (fun _=>σ) (fun (s:NmS)=>[(3,.a (.v (.slice s.oo s.op.length s.oc))),(7,.a (.v (.slice ao L.length cap))),(8,.a (.v (.int .i64 L.length))),(9,.a (.v (.int .i64 s.k)))]) (fun _=>[]) (fun s=>nmA s.oo s.oc s.op) 0
    (fun s=>s.k<=L.length/\namedFrom s.op (L.drop s.k)=namedG L/\levelsOk s.op.length (L.drop s.k)/\s.op.length<=s.oc/\s.op.length<=s.k) (fun s=>L.length - s.k) ⟨0,[],none,0⟩ ⟨Nat.zero_le _,rfl,hlv,Nat.le_refl _,Nat.le_refl _⟩ rfl (by (repeat first | exact trivial | refine ⟨rfl,?_⟩)) (by (repeat first | exact trivial | refine ⟨rfl,?_⟩)) rfl (by (repeat' (first | exact trivial | constructor))) (by (repeat' exact trivial)) fun ⟨k,op,oo,oc⟩ ⟨hk,hnm,hlv,hc,hok⟩=>?_
  dsimp only at hk hnm hlv hc hok ⊢
  (repeat (first | refine cj_seq ?_ | refine cjr TT rfl ?_ | refine oj_then ?_))
  refine cj_if rfl (fun h=>?_) (fun h=>?_)
  rotate_left
  · have hk0:k=L.length:=by have:=of_decide_eq_false h;omega
    subst hk0
    rw [List.drop_length] at hnm
    (repeat (first | refine cj_seq ?_ | refine cjr TT rfl ?_ | refine oj_then ?_ | refine cj_exit ?_ | refine cj_ret ?_ | refine nj_then ?_ | refine nj_then_exit ?_ | refine nj_block_out ?_))
    refine nj_ret TT rfl fun β w' _ _=>?_
    rw [<-hnm]
    rfl
  have hkl:k<L.length:=by have:=of_decide_eq_true h;omega
  have hrow:(recRows L)[k]?=some (recCells L[k]):=recRows_get (List.getElem?_eq_getElem hkl)
  rw [List.drop_eq_getElem_cons hkl] at hnm hlv
  generalize L[k]=x at *
  obtain ⟨hlv1,hlv2,hlv3⟩:=hlv
  rw [namedFrom] at hnm
  obtain ⟨j,hj⟩:∃ j:Nat,x.lv=j:=⟨x.lv.toNat,by omega⟩
  rw [show x.lv.toNat=j by omega] at hnm hlv3
  have hjl:j<=op.length:=by omega
  (repeat (first | refine cj_seq ?_ | refine cjr TT rfl ?_ | refine cj_skip ?_ | refine cj_block ?_ | refine nj_then ?_))
  refine oj_idx TT rfl rfl rfl rfl rfl rfl rfl rfl rfl H (by omega) hrow (oj_run TT rfl ?_)
  (repeat (first | refine cj_seq ?_ | refine cjr TT rfl ?_ | refine oj_then ?_))
  refine oj_slice_to TT j rfl rfl rfl rfl rfl rfl rfl rfl rfl hj (by omega) hc (oj_run TT rfl ?_)
  have hl1:(op.take j).length=j:=by rw [List.length_take];omega
  have hcut:[(⟨oo,op.length,oc,3,1,intVs op⟩:AE)].set 0 (AE.cut ⟨oo,op.length,oc,3,1,intVs op⟩ j)=nmA oo oc (op.take j):=by
    show [_]=[_]
    rw [hl1]
    simp [AE.cut,intVs,List.map_take]
  refine oj_cutArr 0 j rfl rfl hjl hcut ?_
  generalize op.take j=o at *
  subst hl1
  refine oj_then ?_
  refine cj_cut (α:=Unit) (fun _=>σ) (fun _=>[(3,.a (.v (.slice oo o.length oc))),(5,.a (.p 1 0)),(6,.a (.b (o.getLast? == some 5))),(7,.a (.v (.slice ao L.length cap))),(8,.a (.v (.int .i64 L.length))),(9,.a (.v (.int .i64 k)))])
    (fun _=>[(1,.loc 130,recCells x)]) (fun _=>nmA oo oc o) 2 (fun _=>True) ?_ (fun _ _=>?_)
  · (repeat refine cjr TT rfl ?_)
    refine oj_split 20 rfl (fun h=>?_) (fun h=>?_)
    · have hpos:0<o.length:=by have:=of_decide_eq_true h;omega
      have hlast:o.getLast?=some o[o.length - 1]:=by rw [List.getLast?_eq_getElem?,List.getElem?_eq_getElem]
      refine oj_arrAt 0 (E:=⟨oo,o.length,oc,3,1,intVs o⟩) rfl hpos fun g1 hg1=>?_
      have hg1:oo=some ⟨g1,0,none⟩:=hg1
      subst hg1
      refine oj_run TT rfl ?_
      refine oj_minus rfl rfl rfl rfl rfl rfl (by omega) (oj_run TT rfl ?_)
      refine oj_indexAddr TT rfl rfl rfl rfl rfl rfl rfl rfl rfl ⟨by omega,by omega⟩ (oj_run TT rfl ?_)
      refine oj_ldA 0 (off:=o.length - 1) (c:=.v (.int .i64 o[o.length - 1])) TT rfl rfl rfl rfl rfl ?_ rfl rfl rfl rfl ?_ trivial (oj_run TT rfl ?_)
      · show some (SV.a (AT.v (.pointer (some (Addr.add ⟨g1,0,none⟩ (((o.length:Int) - 1).toNat*1))))))=_
        rw [add0,show ((o.length:Int) - 1).toNat*1=o.length - 1 by omega]
      · show (intVs o)[o.length - 1]?=_
        unfold intVs
        rw [List.getElem?_map,List.getElem?_eq_getElem (by omega)]
        rfl
      (repeat refine oj_nil ?_)
      refine nj_set 6 (.a (.b (o.getLast? == some 5))) rfl trivial (fun β=>?_) ?_
      · show Value.bool _=Value.bool _
        congr 1
        rw [hlast,Bool.eq_iff_iff]
        simp
      refine nj_again () trivial Nat.zero_lt_one rfl (by (repeat first | exact trivial | refine ⟨rfl,?_⟩)) (by (repeat first | exact trivial | refine ⟨rfl,?_⟩)) rfl (by (repeat' (first | exact trivial | exact Nat.le_of_ble_eq_true rfl | constructor))) (by (repeat' (first | exact trivial | exact Nat.le_of_ble_eq_true rfl | refine AllLt.of ?_ | constructor)))
    · have h0:o=[]:=by
        have:=of_decide_eq_false h
        exact List.eq_nil_of_length_eq_zero (by omega)
      subst h0
      refine oj_run TT rfl ?_
      (repeat refine oj_nil ?_)
      refine nj_set 6 (.a (.b (([]:List Int).getLast? == some 5))) rfl trivial (fun β=>rfl) ?_
      refine nj_again () trivial Nat.zero_lt_one rfl (by (repeat first | exact trivial | refine ⟨rfl,?_⟩)) (by (repeat first | exact trivial | refine ⟨rfl,?_⟩)) rfl (by (repeat' (first | exact trivial | exact Nat.le_of_ble_eq_true rfl | constructor))) (by (repeat' (first | exact trivial | exact Nat.le_of_ble_eq_true rfl | refine AllLt.of ?_ | constructor)))
  have go:∀ (e:(x.nm != (o.getLast? == some 5))=false) (e2:(!x.nm&&!decide (x.name=⟨#[]⟩))=false),namedFrom (o++[x.kd]) (L.drop (k+1))=namedG L:=fun e e2=>by
    rw [e,e2] at hnm
    exact hnm
  (repeat (first | refine cj_seq ?_ | refine cjr TT rfl ?_))
  refine oj_split 33 rfl (fun h=>?_) (fun h=>?_)
  · refine oj_run TT rfl ?_
    (repeat (first | refine cj_seq ?_ | refine cjr TT rfl ?_ | refine oj_then ?_ | refine cj_if_t rfl ?_ | refine cj_ret ?_ | refine nj_then_ret ?_ | refine nj_block_ret ?_))
    refine nj_ret TT rfl fun β w' _ _=>?_
    have h:(x.nm != (o.getLast? == some 5))=true:=h
    rw [h,Bool.true_or,if_pos rfl] at hnm
    rw [<-hnm]
    rfl
  have h1:(x.nm != (o.getLast? == some 5))=false:=h
  refine oj_run TT rfl ?_
  refine oj_split 37 rfl (fun h=>?_) (fun h=>?_)
  · have h2:(!x.nm)=true:=h
    refine oj_run TT rfl ?_
    (repeat refine oj_then ?_)
    refine cj_if rfl (fun h=>?_) (fun h=>?_)
    · have h3:(!decide (x.name=⟨#[]⟩))=true:=h
      (repeat (first | refine cj_seq ?_ | refine cjr TT rfl ?_ | refine oj_then ?_ | refine cj_ret ?_ | refine nj_then_ret ?_ | refine nj_block_ret ?_))
      refine nj_ret TT rfl fun β w' _ _=>?_
      rw [h1,h2,h3,Bool.true_and,Bool.or_true,if_pos rfl] at hnm
      rw [<-hnm]
      rfl
    · have h3:(!decide (x.name=⟨#[]⟩))=false:=h
      have hnx:=go h1 (by rw [h3,Bool.and_false])
      (repeat (first | refine cjr TT rfl ?_ | refine cj_skip ?_ | refine nj_then ?_))
      refine oj_append_lit TT 0 rfl rfl rfl rfl rfl rfl rfl rfl rfl rfl rfl rfl rfl rfl rfl rfl rfl rfl (by (repeat' (first | exact trivial | refine AllLt.of ?_ | constructor))) rfl (by omega) (by show (o.length+1)*8<=_;omega) fun ao' cap' hcap'=>oj_run TT rfl ?_
      (repeat (first | refine cjr TT rfl ?_ | refine oj_nil ?_ | refine nj_then ?_ | refine nj_block ?_ | (refine oj_add rfl rfl rfl rfl rfl rfl (by omega) ?_;refine oj_run TT rfl ?_)))
      refine nj_again ⟨k+1,o++[x.kd],ao',cap'⟩ ⟨hkl,hnx,by dsimp only;rw [List.length_append];exact hlv3,by dsimp only;rw [List.length_append];exact hcap',by dsimp only;rw [List.length_append,List.length_singleton];omega⟩ (by dsimp only;omega) rfl ?_ (by (repeat first | exact trivial | refine ⟨rfl,?_⟩)) ?_ (by (repeat' (first | exact trivial | constructor))) (by (repeat' exact trivial))
      · refine ⟨?_,rfl,rfl,rfl,trivial⟩
        dsimp only
        rw [List.length_append]
        rfl
      · unfold nmA
        dsimp only
        rw [List.length_append]
        simp only [intVs,List.map_append]
        rfl
  · have h2:(!x.nm)=false:=h
    have hnx:=go h1 (by rw [h2,Bool.false_and])
    refine oj_run TT rfl ?_
    (repeat (first | refine cjr TT rfl ?_ | refine oj_then ?_ | refine cj_if_f rfl ?_ | refine cj_skip ?_ | refine nj_then ?_))
    refine oj_append_lit TT 0 rfl rfl rfl rfl rfl rfl rfl rfl rfl rfl rfl rfl rfl rfl rfl rfl rfl rfl (by (repeat' (first | exact trivial | refine AllLt.of ?_ | constructor))) rfl (by omega) (by show (o.length+1)*8<=_;omega) fun ao' cap' hcap'=>oj_run TT rfl ?_
    (repeat (first | refine cjr TT rfl ?_ | refine oj_nil ?_ | refine nj_then ?_ | refine nj_block ?_ | (refine oj_add rfl rfl rfl rfl rfl rfl (by omega) ?_;refine oj_run TT rfl ?_)))
    refine nj_again ⟨k+1,o++[x.kd],ao',cap'⟩ ⟨hkl,hnx,by dsimp only;rw [List.length_append];exact hlv3,by dsimp only;rw [List.length_append];exact hcap',by dsimp only;rw [List.length_append,List.length_singleton];omega⟩ (by dsimp only;omega) rfl ?_ (by (repeat first | exact trivial | refine ⟨rfl,?_⟩)) ?_ (by (repeat' (first | exact trivial | constructor))) (by (repeat' exact trivial))
    · refine ⟨?_,rfl,rfl,rfl,trivial⟩
      dsimp only
      rw [List.length_append]
      rfl
    · unfold nmA
      dsimp only
      rw [List.length_append]
      simp only [intVs,List.map_append]
      rfl
end Go.Sy
namespace Go.Sy
open Go.Proofs
set_option maxRecDepth 100000 in
set_option maxHeartbeats 1000000 in
theorem backward_c (σ:Snap) (ao:Option Addr) (n cap:Nat) :
    PureS Tryz.prog 209 [.a (.v (.slice ao n cap))] σ (fun v σ'=>∃ g,v=.func (.func 233) #[] #[.pointer (some ⟨g,0,none⟩)]/\σ'.cell ⟨g,0,none⟩=some (.slice ao n cap)):=by
  refine enter_s Tryz.func209 rfl rfl (by (repeat' (first | exact trivial | constructor))) fun w=>?_
  (repeat (first | refine cj_seq ?_ | refine cjr TT rfl ?_ | refine oj_then ?_ | refine cj_ret ?_))
  refine nj_own 0 1 1 rfl (by (repeat' (first | exact trivial | refine AllLt.of ?_ | constructor))) rfl (by decide) fun g=>?_
  refine nj_seal 0 rfl rfl fun σ' hle hS=>?_
  refine nj_ret TT rfl fun β w' _ _=>?_
  refine ⟨g,rfl,?_⟩
  rcases hS with ⟨h1,_⟩ | ⟨g',h1,h2⟩
  · cases h1
  · injection h1 with h1
    simp only [Addr.mk.injEq,and_true] at h1
    subst h1
    exact h2 0 _ rfl
set_option maxRecDepth 100000 in
set_option maxHeartbeats 1000000 in
theorem backwardIt_c (σ:Snap) (l:Nat) (r:Loop) (g:Nat) (ao:Option Addr) (cap:Nat) (L:List GRec) (hL:L.length<=100000) (E1 E2:AE) (Inv:Nat->AE->AE->Prop) (Stop:Snap->AE->AE->Prop)
    (hl:σ l=some (.loop r)) (hp:Nat.beq 2 r.params.size=true) (hg:σ.cell ⟨g,0,none⟩=some (.slice ao L.length cap)) (H:SlAt σ ao L.length cap 11 (recRows L)) (h0:Inv L.length E1 E2)
    (hround:∀ (k:Nat) (hk:k<L.length) (s:Snap) (F1 F2:AE),s l=some (.loop r)->σ.leB l s->Inv (k+1) F1 F2->RoundC Tryz.prog l r (([.a (.v (.int .i64 k)),.agg (recCells L[k])]:List SV).map (SV.den β0)).toArray s [F1,F2] (fun v s' A'=>∃ G1 G2,A'=[G1,G2] /\
      ((v=.bool true/\s' l=some (.loop r)/\Inv k G1 G2)\/(v=.bool false/\Stop s' G1 G2)))) :
    IterC Tryz.prog 233 (([.a (.fn (.yield l) []),.a (.v (.pointer (some ⟨g,0,none⟩)))]:List SV).map (SV.den β0)).toArray l σ [E1,E2] (fun _ s' A'=>∃ G1 G2,A'=[G1,G2]/\((s' l=some (.loop r)/\Inv 0 G1 G2)\/Stop s' G1 G2)):=by
  refine enter_it Tryz.func233 rfl rfl ⟨SV.lt_fn0,trivial,trivial⟩ fun w=>?_
  (repeat (first | refine cj_seq ?_ | refine cjr TT rfl ?_))
  refine oj_ldS (c:=.v (.slice ao L.length cap)) TT rfl rfl rfl rfl rfl rfl rfl rfl hg trivial (oj_run TT rfl ?_)
  (repeat (first | refine oj_then ?_ | refine cj_block ?_ | (refine oj_minus rfl rfl rfl rfl rfl rfl (by omega) ?_;refine oj_run TT rfl ?_)))
  refine cj_loop (fun (p:Snap×Nat×AE×AE)=>p.1) (fun p=>[(0,.a (.fn (.yield l) [])),(1,.a (.v (.pointer (some ⟨g,0,none⟩)))),(3,.a (.v (.int .i64 (p.2.1 - 1))))]) (fun _=>[]) (fun p=>[p.2.2.1,p.2.2.2]) 0
    (fun p=>p.2.1<=L.length/\p.1 l=some (.loop r)/\σ.leB l p.1/\Inv p.2.1 p.2.2.1 p.2.2.2) (fun p=>p.2.1) (σ,L.length,E1,E2) ⟨Nat.le_refl _,hl,fun b o h=>?_,h0⟩ rfl (by (repeat first | exact trivial | refine ⟨rfl,?_⟩)) (by (repeat first | exact trivial | refine ⟨rfl,?_⟩)) rfl ⟨SV.lt_fn0,trivial,trivial,trivial⟩ (by (repeat' exact trivial)) fun ⟨s,m,F1,F2⟩ ⟨hm,hsl,hs,hI⟩=>?_
  · by_cases hb:b=l
    · subst hb;rw [Snap.set_self] at h;cases h
    · rw [Snap.set_ne hb] at h;exact h
  dsimp only at hm hsl hs hI ⊢
  (repeat (first | refine cj_seq ?_ | refine cjr TT rfl ?_ | refine oj_then ?_))
  refine cj_if rfl (fun h=>?_) (fun h=>?_)
  rotate_left
  · have hm0:m=0:=by have:=of_decide_eq_false h;omega
    subst hm0
    (repeat (first | refine cj_exit ?_ | refine nj_then_exit ?_ | refine nj_block_out ?_))
    refine nj_iend TT rfl fun β=>?_
    exact ⟨F1,F2,rfl,.inl ⟨hsl,hI⟩⟩
  obtain ⟨k,rfl⟩:∃ k,m=k+1:=⟨m - 1,by have:=of_decide_eq_true h;omega⟩
  have hrow:(recRows L)[k]?=some (recCells L[k]):=recRows_get (List.getElem?_eq_getElem hm)
  refine cj_set 3 (.a (.v (.int .i64 k))) rfl trivial (fun β=>?_) ?_
  · show Value.int .i64 (((k+1:Nat):Int) - 1)=_
    congr 1
    omega
  (repeat (first | refine cj_seq ?_ | refine cjr TT rfl ?_ | refine cj_skip ?_ | refine cj_block ?_ | refine nj_then ?_))
  refine oj_ldS (c:=.v (.slice ao L.length cap)) TT rfl rfl rfl rfl rfl rfl rfl rfl (hs.cle hl _ _ hg) trivial (oj_run TT rfl ?_)
  refine oj_idx TT rfl rfl rfl rfl rfl rfl rfl rfl rfl (H.monoC (hs.cle hl)) (by omega) hrow (oj_run TT rfl ?_)
  refine oj_yield [0,1] (A0:=[F1,F2]) (Ar:=[]) hsl (Snap.set_self ..) rfl rfl rfl hp rfl rfl rfl rfl ⟨trivial,recCells_lt _ _,trivial⟩ (hround k hm s F1 F2 hsl hs hI) fun v s' A' hle ⟨G1,G2,hA,hv⟩=>?_
  subst hA
  have hs':σ.leB l s':=fun b o h=>by
    have hb:b≠l:=fun e=>by subst e;rw [Snap.set_self] at h;cases h
    rw [Snap.set_ne hb] at h
    exact hle.at_ hb (hs.at_ hb h)
  rcases hv with ⟨hv,hsl',hI'⟩ | ⟨hv,hst⟩
  · refine ⟨.a .tt,trivial,hv.symm,oj_run TT rfl ?_⟩
    (repeat (first | refine cjr TT rfl ?_ | refine oj_then ?_ | refine oj_nil ?_ | refine cj_if_f rfl ?_ | refine cj_skip ?_ | refine nj_then ?_ | refine nj_block ?_ | (refine oj_minus rfl rfl rfl rfl rfl rfl (by omega) ?_;refine oj_run TT rfl ?_)))
    refine nj_again (s',k,G1,G2) ⟨by dsimp only;omega,hsl',hs',hI'⟩ (Nat.lt_succ_self k) rfl (by (repeat first | exact trivial | refine ⟨rfl,?_⟩)) (by (repeat first | exact trivial | refine ⟨rfl,?_⟩)) rfl ⟨SV.lt_fn0,trivial,trivial,trivial⟩ (by (repeat' exact trivial))
  · refine ⟨.a .ff,trivial,hv.symm,oj_run TT rfl ?_⟩
    (repeat (first | refine oj_then ?_ | refine cj_if_t rfl ?_ | refine cj_ret ?_ | refine nj_then_ret ?_ | refine nj_block_ret ?_))
    refine nj_iret TT rfl fun β=>?_
    exact ⟨G1,G2,rfl,.inr hst⟩
end Go.Sy
namespace Go.Sy
open Go.Proofs
theorem results_cellA {cf:Cf} {σ:Snap} {env:Env} {hp:HP} {A:List AE} {β:Nat->Addr} {a:Act} {w:World} {T:List (Nat×TI)} (hT:TTok cf.P T) (ha:StA cf env β a) (hw:StW cf σ hp A β w) {fn:Func} {p t:Nat} {ti:TI} {g off i:Nat} {E:AE} {v:Value}
    (hr:fn.results=#[.cell p t]) (hp':env.get p=some (.a (.v (.pointer (some ⟨g,off,none⟩))))) (ht:tget T t=some ti) (hag:ti.agg=false) (hi:A[i]?=some E) (hE:E.ao=some ⟨g,0,none⟩) (hv:E.xs[off]?=some v) :
    (results fn a.tmps).run cf.P w=.ok v w:=by
  obtain ⟨inf,d',z,hs⟩:=tiOf_spec (hT _ _ ht)
  have hcell:=(hw.arr i E hi).cell hE hv
  have hx:a.tmps.getD p undef=.pointer (some ⟨g,off,none⟩):=evalO_eval (x:=.tmp p) ha hp'
  have hload:(load ⟨g,off,none⟩).run cf.P w=.ok v w:=by rw [run_load,hcell]
  rw [results_eq,hr,Array.mapM_eq_mapM_toList,Sem.run_bind,Sem.run_map]
  simp only [List.mapM_cons,List.mapM_nil,Sem.run_bind,Sem.run_pure,resOne,hx,asAddr,loadVar,Result.andThen_ok,run_isAgg hs.und,hs.agg,hag,Bool.false_eq_true,if_false,hload]
  rfl
theorem nj_mretA {P:Program} {w0:World} {σ0:Snap} {M:Nat->Prop} {N:Nat} {T:List (Nat×TI)} {fn:Func} {Post:Value->World->Snap->Prop} {σ:Snap} {env:Env} {hp:HP} {A:List AE} {nh:Nat} {D:Nat} (hD:σ D=some (.deferred (some []))) (h0:σ0 D=none) (hT:TTok P T)
    {p t:Nat} {ti:TI} {g off:Nat} (i:Nat) {E:AE} (v:Value) (hr:fn.results=#[.cell p t]) (hp':env.get p=some (.a (.v (.pointer (some ⟨g,off,none⟩))))) (ht:tget T t=some ti) (hag:ti.agg=false) (hi:A[i]?=some E) (hE:E.ao=some ⟨g,0,none⟩) (hv:E.xs[off]?=some v)
    (h:∀ w,Post v w (σ.set D none)) :
    NJ ⟨P,w0,σ0,M,N,[markD D],none⟩ .ret (bodyPostM (FR none) 0 P fn (postR w0 M σ0 Post)) σ env hp A nh:=⟨fun hb a β w ha hw=>by
  show LeavesInM (FR none) 0 P fn a.tmps _ a.defers .returning w
  rw [ha.defers]
  have hfin:StW ⟨P,w0,σ0,M,N,[],none⟩ (σ.set D none) hp A β (w.putObj D (.deferred none)):=(hw.swap (w':=w.putObj D (.deferred none)) none (hw.sealed _ _ hD) rfl h0 (hw.own_of hD h0) rfl rfl rfl (by simp) (fun c hc=>World.putObj_heap_other hc) fun _ e=>(by cases e)).re _ _ _
  have ha':StA ⟨P,w0,σ0,M,N,[],none⟩ env β ⟨a.tmps,[]⟩:=⟨ha.size,rfl,ha.env⟩
  refine ⟨by simp,.inl ⟨D,_,rfl,run_takeDeferred (hw.sealed _ _ hD),_,results_cellA (cf:=⟨P,w0,σ0,M,N,[],none⟩) hT ha' hfin hr hp' ht hag hi hE hv,_,σ.set D none,rfl,Fr.of hfin,SGrow.of hfin,hfin.sealed,h _⟩⟩⟩
theorem cell_DL {σ:Snap} {D l:Nat} {r:Loop} (hDl:D≠l) (hD:σ D=none) (hl:σ l=none) (a:Addr):((σ.set D (some (.deferred (some [])))).set l (some (.loop r))).cell a=σ.cell a:=by
  rw [Snap.cell_set (fun o e=>by rw [Snap.set_ne (Ne.symm hDl),hl] at e;cases e) (fun o e=>by injection e with e;subst e;rfl),Snap.cell_set (fun o e=>by rw [hD] at e;cases e) (fun o e=>by injection e with e;subst e;rfl)]
theorem okRd_of {rd:Option Nat} {ops:Array Oper} (h:ops.toList.all noDefer=true):okRd rd ops=true:=by
  cases rd with
  | none=>rfl
  | some l=>simp only [okRd];rw [<-Array.all_toList];exact h
theorem IterC.mono {P:Program} {f:FuncId} {args:Array Value} {l:Nat} {σ:Snap} {A:List AE} {Φ Ψ:Value->Snap->List AE->Prop} (h:IterC P f args l σ A Φ) (hi:∀ v s A',Φ v s A'->Ψ v s A'):IterC P f args l σ A Ψ :=
  fun w hw=>Calls.mono (h w hw) fun _ _ ⟨v,σ',A',h1,h2,h3⟩=>⟨v,σ',A',h1,h2,hi _ _ _ h3⟩
structure NeS where
  k:Nat
  ro:List GRec
  last:Int
  oo:Option Addr
  oc:Nat
def neA (oo:Option Addr) (oc:Nat) (ro:List GRec):List AE:=[⟨oo,ro.length,oc,130,11,recXs ro.reverse⟩]
def boxE (g e:Nat) (v:Value):AE:=⟨some ⟨g,0,none⟩,1,1,e,1,[v]⟩
set_option maxRecDepth 100000 in
set_option maxHeartbeats 4000000 in
theorem nested_c (σ:Snap) (L:List GRec) (hL:L.length<=100000) (ao:Option Addr) (cap:Nat) (H:SlAt σ ao L.length cap 11 (recRows L)) :
    PlainS Tryz.prog 151 [.a (.v (.slice ao L.length cap))] σ (fun v=>v=.bool (nestedG L)):=by
  refine enter_mp Tryz.func151 rfl rfl (by (repeat' (first | exact trivial | constructor))) fun w=>?_
  refine cj_nilarr 130 11 ?_
  (repeat (first | refine cj_seq ?_ | refine cjr TT rfl ?_ | refine oj_then ?_ | refine cj_block ?_))
  refine cj_cutB (fun (_:NeS)=>σ) (fun s=>[(0,.a (.v (.slice ao L.length cap))),(2,.a (.p 0 0)),(3,.a (.v (.slice s.oo s.ro.length s.oc))),(4,.a (.p 1 0))]) (fun s=>[(0,.loc 4,[.ff]),(1,.loc 3,[.v (.int .i64 s.last)])]) (fun s=>neA s.oo s.oc s.ro) 2
    (fun s=>(closeAll s.ro s.last&&decide (0<(L.length:Int)))=nestedG L/\s.ro.length<=s.oc/\s.ro.length<=L.length) ?_ (fun ⟨_,ro,last,oo,oc⟩ ⟨hne,hc,hrl⟩=>?_)
  · refine cj_loop (fun (_:NeS)=>σ) (fun s=>[(0,.a (.v (.slice ao L.length cap))),(2,.a (.p 0 0)),(3,.a (.v (.slice s.oo s.ro.length s.oc))),(4,.a (.p 1 0)),(10,.a (.v (.slice ao L.length cap))),(11,.a (.v (.int .i64 L.length))),(12,.a (.v (.int .i64 s.k)))])
      (fun s=>[(0,.loc 4,[.ff]),(1,.loc 3,[.v (.int .i64 s.last)])]) (fun s=>neA s.oo s.oc s.ro) 2
      (fun s=>s.k<=L.length/\(nestFrom s.k s.ro s.last (L.drop s.k)&&decide (0<(L.length:Int)))=nestedG L/\s.ro.length<=s.oc/\s.ro.length<=s.k) (fun s=>L.length - s.k) ⟨0,[],-1,none,0⟩ ⟨Nat.zero_le _,rfl,Nat.le_refl _,Nat.le_refl _⟩ rfl (by (repeat first | exact trivial | refine ⟨rfl,?_⟩)) (by (repeat first | exact trivial | refine ⟨rfl,?_⟩)) rfl (by (repeat' (first | exact trivial | exact Nat.le_of_ble_eq_true rfl | constructor))) (by (repeat' (first | exact trivial | exact Nat.le_of_ble_eq_true rfl | refine AllLt.of ?_ | constructor))) fun ⟨k,ro,last,oo,oc⟩ ⟨hk,hne,hc,hrk⟩=>?_
    dsimp only at hk hne hc hrk ⊢
    (repeat (first | refine cj_seq ?_ | refine cjr TT rfl ?_ | refine oj_then ?_))
    refine cj_if rfl (fun h=>?_) (fun h=>?_)
    rotate_left
    · have hk0:k=L.length:=by have:=of_decide_eq_false h;omega
      subst hk0
      rw [List.drop_length,nestFrom] at hne
      (repeat (first | refine cj_exit ?_ | refine nj_then_exit ?_ | refine nj_block_out ?_))
      refine nj_again ⟨L.length,ro,last,oo,oc⟩ ⟨hne,hc,hrk⟩ Nat.zero_lt_one rfl (by (repeat first | exact trivial | refine ⟨rfl,?_⟩)) (by (repeat first | exact trivial | refine ⟨rfl,?_⟩)) rfl (by (repeat' (first | exact trivial | exact Nat.le_of_ble_eq_true rfl | constructor))) (by (repeat' (first | exact trivial | exact Nat.le_of_ble_eq_true rfl | refine AllLt.of ?_ | constructor)))
    have hkl:k<L.length:=by have:=of_decide_eq_true h;omega
    have hrow:(recRows L)[k]?=some (recCells L[k]):=recRows_get (List.getElem?_eq_getElem hkl)
    rw [List.drop_eq_getElem_cons hkl] at hne
    generalize L[k]=x at *
    rw [nestFrom] at hne
    have bad:(x.lv<0\/(ro.length:Int)<x.lv\/(decide (x.lv=0) != decide ((k:Int)=0))=true)->nestedG L=false:=fun h=>by rw [if_pos h] at hne;exact hne.symm
    (repeat (first | refine cj_seq ?_ | refine cjr TT rfl ?_ | refine cj_skip ?_ | refine cj_block ?_ | refine nj_then ?_))
    refine oj_idx TT rfl rfl rfl rfl rfl rfl rfl rfl rfl H (by omega) hrow (oj_run TT rfl ?_)
    (repeat (first | refine cj_seq ?_ | refine cjr TT rfl ?_ | refine oj_then ?_))
    refine oj_split 20 rfl (fun h=>?_) (fun h=>?_)
    · refine oj_run TT rfl ?_
      (repeat (first | refine cj_seq ?_ | refine cjr TT rfl ?_ | refine oj_then ?_ | refine cj_if_t rfl ?_ | refine cj_ret ?_ | refine nj_then_ret ?_ | refine nj_block_ret ?_))
      refine nj_mret0 TT rfl fun β w' _ _=>?_
      rw [bad (.inl (of_decide_eq_true h))]
      rfl
    have hlv0:0<=x.lv:=by have:=of_decide_eq_false h;omega
    refine oj_run TT rfl ?_
    refine oj_split 27 rfl (fun h=>?_) (fun h=>?_)
    · refine oj_run TT rfl ?_
      (repeat (first | refine cj_seq ?_ | refine cjr TT rfl ?_ | refine oj_then ?_ | refine cj_if_t rfl ?_ | refine cj_ret ?_ | refine nj_then_ret ?_ | refine nj_block_ret ?_))
      refine nj_mret0 TT rfl fun β w' _ _=>?_
      rw [bad (.inr (.inl (of_decide_eq_true h)))]
      rfl
    have hlv1:x.lv<=ro.length:=by have:=of_decide_eq_false h;omega
    refine oj_run TT rfl ?_
    (repeat refine oj_then ?_)
    refine cj_if rfl (fun h=>?_) (fun h=>?_)
    · (repeat (first | refine cj_seq ?_ | refine cjr TT rfl ?_ | refine oj_then ?_ | refine cj_ret ?_ | refine nj_then_ret ?_ | refine nj_block_ret ?_))
      refine nj_mret0 TT rfl fun β w' _ _=>?_
      rw [bad (.inr (.inr h))]
      rfl
    have hlv2:(decide (x.lv=0) != decide ((k:Int)=0))=false:=h
    rw [if_neg (by rw [hlv2];intro hh;rcases hh with hh | hh | hh<;>first | omega | cases hh)] at hne
    clear bad
    refine cj_skip (nj_then (cj_seq (cj_block ?_)))
    refine cj_cutB (fun (_:NeS)=>σ) (fun s=>[(0,.a (.v (.slice ao L.length cap))),(2,.a (.p 0 0)),(3,.a (.v (.slice oo s.ro.length oc))),(4,.a (.p 1 0)),(6,.a (.p 3 0)),(10,.a (.v (.slice ao L.length cap))),(11,.a (.v (.int .i64 L.length))),(12,.a (.v (.int .i64 k)))])
      (fun s=>[(0,.loc 4,[.ff]),(1,.loc 3,[.v (.int .i64 s.last)]),(3,.loc 130,recCells x)]) (fun s=>neA oo oc s.ro) 4
      (fun s=>closeTo x.lv ro last=some (s.ro,s.last)/\s.ro.length<=ro.length) ?_ (fun ⟨_,ro1,last1,_,_⟩ ⟨hcl,hr1⟩=>?_)
    · refine cj_loop (fun (_:NeS)=>σ) (fun s=>[(0,.a (.v (.slice ao L.length cap))),(2,.a (.p 0 0)),(3,.a (.v (.slice oo s.ro.length oc))),(4,.a (.p 1 0)),(6,.a (.p 3 0)),(10,.a (.v (.slice ao L.length cap))),(11,.a (.v (.int .i64 L.length))),(12,.a (.v (.int .i64 k)))])
        (fun s=>[(0,.loc 4,[.ff]),(1,.loc 3,[.v (.int .i64 s.last)]),(3,.loc 130,recCells x)]) (fun s=>neA oo oc s.ro) 4
        (fun s=>closeTo x.lv s.ro s.last=closeTo x.lv ro last/\s.ro.length<=ro.length) (fun s=>s.ro.length) ⟨k,ro,last,oo,oc⟩ ⟨rfl,Nat.le_refl _⟩ rfl (by (repeat first | exact trivial | refine ⟨rfl,?_⟩)) (by (repeat first | exact trivial | refine ⟨rfl,?_⟩)) rfl (by (repeat' (first | exact trivial | exact Nat.le_of_ble_eq_true rfl | constructor))) (by (repeat' (first | exact trivial | exact Nat.le_of_ble_eq_true rfl | refine AllLt.of ?_ | constructor))) fun ⟨_,ro1,last1,_,_⟩ ⟨hcl,hr1⟩=>?_
      dsimp only at hcl hr1 ⊢
      (repeat (first | refine cj_seq ?_ | refine cjr TT rfl ?_ | refine oj_then ?_))
      refine cj_if rfl (fun h=>?_) (fun h=>?_)
      rotate_left
      · have hlt:¬ x.lv<ro1.length:=of_decide_eq_false h
        have hsome:closeTo x.lv ro last=some (ro1,last1):=by
          rw [<-hcl]
          cases ro1 with
          | nil=>rfl
          | cons t ro2 =>
            simp only [List.length_cons] at hlt
            rw [closeTo,if_neg (by omega)]
        (repeat (first | refine cj_exit ?_ | refine nj_then_exit ?_ | refine nj_block_out ?_))
        refine nj_again ⟨k,ro1,last1,oo,oc⟩ ⟨hsome,hr1⟩ Nat.zero_lt_one rfl (by (repeat first | exact trivial | refine ⟨rfl,?_⟩)) (by (repeat first | exact trivial | refine ⟨rfl,?_⟩)) rfl (by (repeat' (first | exact trivial | exact Nat.le_of_ble_eq_true rfl | constructor))) (by (repeat' (first | exact trivial | exact Nat.le_of_ble_eq_true rfl | refine AllLt.of ?_ | constructor)))
      have hlt:x.lv<ro1.length:=of_decide_eq_true h
      cases ro1 with
      | nil=>simp only [List.length_nil] at hlt;omega
      | cons t ro2 =>
      simp only [List.length_cons] at hlt hr1
      rw [closeTo,if_pos (by omega)] at hcl
      have hlen:(t::ro2).length=ro2.length+1:=rfl
      have htop:(t::ro2).reverse[ro2.length]?=some t:=by rw [List.reverse_cons,List.getElem?_append_right (by simp)];simp
      (repeat (first | refine cj_seq ?_ | refine cjr TT rfl ?_ | refine cj_skip ?_ | refine cj_block ?_ | refine nj_then ?_ | (refine oj_minus rfl rfl rfl rfl rfl rfl (by omega) ?_;refine oj_run TT rfl ?_)))
      refine oj_arrAt 0 (E:=⟨oo,(t::ro2).length,oc,130,11,recXs (t::ro2).reverse⟩) rfl (Nat.succ_pos _) fun g1 hg1=>?_
      have hg1:oo=some ⟨g1,0,none⟩:=hg1
      subst hg1
      refine oj_indexAddr TT rfl rfl rfl rfl rfl rfl rfl rfl rfl ⟨by rw [hlen];omega,by omega⟩ (oj_run TT rfl ?_)
      refine oj_ldAs 0 (off:=ro2.length*11) TT (recCells t) rfl rfl rfl rfl rfl ?_ rfl rfl rfl rfl rfl ?_ (recCells_lt _ _) (oj_run TT rfl ?_)
      · show some (SV.a (AT.v (.pointer (some (Addr.add ⟨g1,0,none⟩ ((((t::ro2).length:Int) - 1).toNat*11))))))=_
        rw [add0,show (((t::ro2).length:Int) - 1).toNat=ro2.length by rw [hlen];omega]
      · intro j c hj
        exact recXs_get htop hj
      (repeat (first | refine cj_seq ?_ | refine cjr TT rfl ?_ | refine oj_then ?_))
      refine cj_if rfl (fun h=>?_) (fun h=>?_)
      · rw [if_pos (of_decide_eq_true h)] at hcl
        rw [<-hcl] at hne
        (repeat (first | refine cj_seq ?_ | refine cjr TT rfl ?_ | refine oj_then ?_ | refine cj_ret ?_ | refine nj_then_ret ?_ | refine nj_block_ret ?_))
        refine nj_mret0 TT rfl fun β w' _ _=>?_
        rw [<-hne]
        rfl
      rw [if_neg (of_decide_eq_false h)] at hcl
      (repeat (first | refine cj_seq ?_ | refine cjr TT rfl ?_ | refine oj_then ?_ | refine cj_skip ?_ | refine nj_then ?_ | (refine oj_minus rfl rfl rfl rfl rfl rfl (by omega) ?_;refine oj_run TT rfl ?_)))
      refine oj_slice_to TT ro2.length rfl rfl rfl rfl rfl rfl rfl rfl rfl (by rw [hlen];omega) (by omega) (by rw [hlen];omega) (oj_run TT rfl ?_)
      have hcut:[(⟨some ⟨g1,0,none⟩,(t::ro2).length,oc,130,11,recXs (t::ro2).reverse⟩:AE)].set 0 (AE.cut ⟨some ⟨g1,0,none⟩,(t::ro2).length,oc,130,11,recXs (t::ro2).reverse⟩ ro2.length)=neA (some ⟨g1,0,none⟩) oc ro2:=by
        show [_]=[_]
        unfold AE.cut
        congr 2
        rw [List.reverse_cons,recXs_append,List.take_append_of_le_length (by rw [recXs_len,List.length_reverse];exact Nat.le_refl _),List.take_of_length_le (by rw [recXs_len,List.length_reverse];exact Nat.le_refl _)]
      refine oj_cutArr 0 ro2.length rfl rfl (Nat.le_succ _) hcut ?_
      (repeat (first | refine oj_nil ?_ | refine nj_block ?_))
      refine nj_again ⟨k,ro2,t.en,some ⟨g1,0,none⟩,oc⟩ ⟨hcl,by dsimp only;omega⟩ (Nat.lt_succ_self _) rfl (by (repeat first | exact trivial | refine ⟨rfl,?_⟩)) (by (repeat first | exact trivial | refine ⟨rfl,?_⟩)) rfl (by (repeat' (first | exact trivial | exact Nat.le_of_ble_eq_true rfl | constructor))) (by (repeat' (first | exact trivial | exact Nat.le_of_ble_eq_true rfl | refine AllLt.of ?_ | constructor)))
    dsimp only at hcl hr1 ⊢
    rw [hcl] at hne
    dsimp only at hne
    (repeat (first | refine cj_seq ?_ | refine cjr TT rfl ?_ | refine oj_then ?_))
    refine cj_if rfl (fun h=>?_) (fun h=>?_)
    · rw [if_pos (of_decide_eq_true h),Bool.false_and] at hne
      (repeat (first | refine cj_seq ?_ | refine cjr TT rfl ?_ | refine oj_then ?_ | refine cj_ret ?_ | refine nj_then_ret ?_ | refine nj_block_ret ?_))
      refine nj_mret0 TT rfl fun β w' _ _=>?_
      rw [<-hne]
      rfl
    rw [if_neg (of_decide_eq_false h)] at hne
    (repeat (first | refine cj_seq ?_ | refine cjr TT rfl ?_ | refine oj_then ?_ | refine cj_skip ?_ | refine nj_then ?_))
    refine oj_append_lit TT 0 rfl rfl rfl rfl rfl rfl rfl rfl rfl rfl rfl rfl rfl rfl rfl rfl rfl rfl (by (repeat' (first | exact trivial | refine AllLt.of ?_ | constructor))) rfl (by omega) (by show (ro1.length+1)*112<=_;omega) fun ao' cap' hcap'=>oj_run TT rfl ?_
    (repeat (first | refine cjr TT rfl ?_ | refine oj_nil ?_ | refine nj_then ?_ | refine nj_block ?_ | (refine oj_add rfl rfl rfl rfl rfl rfl (by omega) ?_;refine oj_run TT rfl ?_)))
    refine nj_again ⟨k+1,x::ro1,x.st,ao',cap'⟩ ⟨hkl,hne,hcap',by dsimp only [List.length_cons];omega⟩ (by dsimp only;omega) rfl (by (repeat first | exact trivial | refine ⟨rfl,?_⟩)) (by (repeat first | exact trivial | refine ⟨rfl,?_⟩)) ?_ (by (repeat' (first | exact trivial | exact Nat.le_of_ble_eq_true rfl | constructor))) (by (repeat' (first | exact trivial | exact Nat.le_of_ble_eq_true rfl | refine AllLt.of ?_ | constructor)))
    unfold neA
    dsimp only
    rw [List.reverse_cons,recXs_append]
    rfl
  dsimp only at hne hc hrl ⊢
  refine cj_seal 0 rfl rfl fun σ1 hle1 hS=>?_
  have HS:SlAt σ1 oo ro.length oc 11 (recRows ro.reverse):=hS.sl (rows:=recRows ro.reverse) rfl (fun r hr=>⟨(recRows_all _ r hr).1,(recRows_all _ r hr).2.1⟩) (by rw [recRows_len,List.length_reverse]) rfl hc
  (repeat (first | refine cj_seq ?_ | refine cjr TT rfl ?_))
  refine oj_callS rfl rfl rfl rfl rfl Tryz.call209 (by (repeat' (first | exact trivial | constructor))) (backward_c σ1 oo ro.length oc) fun v σ2 hle2 ⟨g,hv,hg⟩=>⟨.a (.fn (.func 233) [.val (.pointer (some ⟨g,0,none⟩))]),(fun x hx=>by simp at hx;subst hx;trivial),hv.symm,oj_run TT rfl ?_⟩
  refine oj_nil (nj_then (cj_block ?_))
  refine cj_own 0 1 1 rfl (by (repeat' (first | exact trivial | refine AllLt.of ?_ | constructor))) rfl (by decide) fun gr=>?_
  refine cj_own 1 1 1 rfl (by (repeat' (first | exact trivial | refine AllLt.of ?_ | constructor))) rfl (by decide) fun gl=>?_
  refine cj_sub (env':=[(0,.a (.v (.slice ao L.length cap))),(2,.a (.v (.pointer (some ⟨gr,0,none⟩)))),(4,.a (.v (.pointer (some ⟨gl,0,none⟩)))),(69,.a (.fn (.func 233) [.val (.pointer (some ⟨g,0,none⟩))]))]) (hp':=[]) (subE_of (by (repeat first | exact trivial | refine ⟨rfl,?_⟩))) (subH_of trivial) ?_
  have hlr:ro.length=ro.reverse.length:=(List.length_reverse).symm
  let Inv:Nat->AE->AE->Prop:=fun m G1 G2=>G1=boxE gr 4 (.bool false)/\∃ la:Int,G2=boxE gl 3 (.int .i64 la)/\closeAll (ro.reverse.take m).reverse la=closeAll ro last
  let Stop:Nat->Snap->AE->AE->Prop:=fun l s G1 _=>G1=boxE gr 4 (.bool false)/\closeAll ro last=false/\∃ r',s l=some (.loop r')/\r'.state=.done/\r'.pending=some .ret
  refine cj_rangeFunc [0,1] (A0:=[boxE gr 4 (.bool false),boxE gl 3 (.int .i64 last)]) (Ar:=[]) rfl rfl rfl ⟨trivial,trivial⟩ ⟨trivial,trivial,trivial,(fun x hx=>by simp at hx;subst hx;trivial),trivial⟩ Tryz.call233
    (fun D l r v s A=>(r.state=.ready/\r.pending=none)/\∃ G1 G2,A=[G1,G2]/\((s l=some (.loop r)/\Inv 0 G1 G2)\/Stop l s G1 G2)) (fun fid D l tmps hts hte hDl hD hl hl0=>?_) (fun D l r v s A ⟨⟨hst,hpe⟩,G1,G2,hA,hh⟩ hD0 hl0 hsD hcle hle=>?_)
  · have hcell:=fun r=>cell_DL (r:=r) hDl hD hl
    refine IterC.mono (Φ:=fun _ s A=>∃ G1 G2,A=[G1,G2]/\((s l=some (.loop _)/\Inv 0 G1 G2)\/Stop l s G1 G2)) ?_ fun v s A h=>⟨⟨rfl,rfl⟩,h⟩
    refine backwardIt_c _ l _ g oo oc ro.reverse (by omega) _ _ Inv (Stop l) (Snap.set_self ..) rfl (by rw [hcell,<-hlr];exact hg) ((by rw [<-hlr];exact HS:SlAt σ1 oo ro.reverse.length oc 11 (recRows ro.reverse)).monoC fun a v hv=>by rw [hcell];exact hle2.cell hv) ⟨rfl,last,rfl,by rw [List.take_length,List.reverse_reverse]⟩
      fun k hk s F1 F2 hsl hsb ⟨h1,la,h2,hcl⟩=>?_
    subst h1;subst h2
    rw [List.take_succ_eq_append_getElem hk,List.reverse_append,List.reverse_singleton,List.singleton_append,closeAll] at hcl
    generalize ro.reverse[k]=y at *
    refine roundC_of (N:=Tryz.f151.ntmps) (env:=[(0,.a (.v (.slice ao L.length cap))),(2,.a (.v (.pointer (some ⟨gr,0,none⟩)))),(4,.a (.v (.pointer (some ⟨gl,0,none⟩)))),(69,.a (.fn (.func 233) [.val (.pointer (some ⟨g,0,none⟩))]))]) hts hte [70,71] rfl rfl rfl ⟨trivial,recCells_lt _ _,trivial⟩
      ⟨trivial,trivial,trivial,(fun x hx=>by simp at hx;subst hx;trivial),trivial⟩ fun w'=>?_
    dsimp only
    (repeat (first | (refine cj_region ?_ (okRd_of rfl);refine oj_run TT rfl ?_) | refine oj_nil ?_))
    refine nj_begin hsl rfl (Snap.set_self ..) ?_
    (repeat (first | refine cj_seq ?_ | (refine cj_region ?_ (okRd_of rfl);refine oj_run TT rfl ?_) | refine cj_block ?_))
    refine oj_ldA 1 (c:=.v (.int .i64 la)) TT rfl rfl rfl rfl rfl rfl rfl rfl rfl rfl rfl trivial (oj_run TT rfl ?_)
    (repeat refine oj_then ?_)
    refine cj_if rfl (fun h=>?_) (fun h=>?_)
    · rw [if_pos (of_decide_eq_true h)] at hcl
      (repeat (first | refine cj_seq ?_ | (refine cj_region ?_ (okRd_of rfl);refine oj_run TT rfl ?_)))
      refine oj_stA 0 (A':=[boxE gr 4 (.bool false),boxE gl 3 (.int .i64 la)]) (c:=.ff) TT rfl rfl rfl rfl rfl rfl rfl rfl rfl rfl Nat.zero_lt_one trivial rfl rfl (oj_run TT rfl ?_)
      (repeat (first | refine oj_then ?_ | refine cj_ret ?_ | refine nj_then_ret ?_ | refine nj_block_ret ?_))
      refine nj_rndR (Snap.set_self ..) ?_
      exact ⟨_,_,rfl,.inr ⟨rfl,rfl,hcl.symm,_,Snap.set_self ..,rfl,rfl⟩⟩
    · rw [if_neg (of_decide_eq_false h)] at hcl
      (repeat (first | (refine cj_region ?_ (okRd_of rfl);refine oj_run TT rfl ?_) | refine cj_skip ?_ | refine nj_then ?_))
      refine oj_stA 1 (A':=[boxE gr 4 (.bool false),boxE gl 3 (.int .i64 y.en)]) (c:=.v (.int .i64 y.en)) TT rfl rfl rfl rfl rfl rfl rfl rfl rfl rfl Nat.zero_lt_one trivial rfl rfl (oj_run TT rfl ?_)
      (repeat (first | refine oj_nil ?_ | refine nj_block ?_))
      refine nj_rndN (Snap.set_self ..) ?_
      exact ⟨_,_,rfl,.inl ⟨rfl,Snap.set_self ..,rfl,_,rfl,hcl⟩⟩
  · subst hA
    rcases hh with ⟨hsl,h1,la,h2,hcl⟩ | ⟨h1,hcl,r',hsl,hst',hpe'⟩
    · have hDl:D≠l:=fun e=>by subst e;rw [hsD] at hsl;cases hsl
      subst h1;subst h2
      refine ⟨r,hsl,by rw [hst];exact fun h=>(by cases h),?_⟩
      rw [hpe]
      dsimp only
      have hcl:closeAll ro last=true:=hcl.symm
      rw [hcl,Bool.true_and] at hne
      (repeat (first | refine cj_seq ?_ | refine cjr TT rfl ?_ | refine nj_then ?_ | refine nj_block ?_))
      refine oj_stA 0 (A':=[boxE gr 4 (.bool (decide (0<(L.length:Int)))),boxE gl 3 (.int .i64 la)]) (c:=.b (decide (0<(L.length:Int)))) TT rfl rfl rfl rfl rfl rfl rfl rfl rfl rfl Nat.zero_lt_one trivial rfl rfl (oj_run TT rfl ?_)
      (repeat (first | refine oj_then ?_ | refine cj_ret ?_))
      refine nj_mretA (by rw [Snap.set_ne hDl];exact hsD) hD0 TT 0 (.bool (decide (0<(L.length:Int)))) rfl rfl rfl rfl rfl rfl rfl fun w=>?_
      rw [hne]
    · have hDl:D≠l:=fun e=>by subst e;rw [hsD] at hsl;cases hsl
      subst h1
      refine ⟨r',hsl,by rw [hst'];exact fun h=>(by cases h),?_⟩
      rw [hpe']
      dsimp only
      rw [hcl,Bool.false_and] at hne
      (repeat (first | refine cj_ret ?_ | refine nj_then_ret ?_ | refine nj_block_ret ?_))
      refine nj_mretA (by rw [Snap.set_ne hDl];exact hsD) hD0 TT 0 (.bool false) rfl rfl rfl rfl rfl rfl rfl fun w=>?_
      rw [<-hne]
end Go.Sy
namespace Go.Sy
open Go.Proofs
def buildR (L:List GRec):GVal×Int :=
  if 4096<L.length\/nestedG L=false\/namedG L=false\/1099511627776<(L.head?.map GRec.en).getD 0 then (gval0,2)
  else if sane (buildG L).1≠0 then (gval0,2)
  else ((buildG L).1,0)
def soundG (L:List GRec):Bool:=decide ((buildR L).2=0)
theorem rep0 (σ:Snap):RepV σ gval0 (vCells gval0 none 0 none 0):=by
  simp only [RepV,gval0]
  exact ⟨none,0,[],none,0,[],rfl,SlAt.nil _ _ _ _,rfl,rfl,SlAt.nil _ _ _ _,rfl,by decide,by decide,by decide,by decide,fun k h=>(by cases h)⟩
set_option maxRecDepth 100000 in
set_option maxHeartbeats 2000000 in
theorem Build_c (σ:Snap) (L:List GRec) (hL:L.length<=mostLen) (hF:RecsFit L) (hbw:nestedG L=true->(buildG L).1.weight<=1000000) (ao:Option Addr) (cap:Nat) (H:SlAt σ ao L.length cap 11 (recRows L)) :
    PureS Tryz.prog 79 [.a (.v (.slice ao L.length cap))] σ (fun v σ'=>∃ r,v=(SV.tup [.agg r,.a (.v (.int .i64 (buildR L).2))]).den β0/\RepV σ' (buildR L).1 r):=by
  simp only [mostLen] at hL
  have bad:(4096<L.length\/nestedG L=false\/namedG L=false\/1099511627776<(L.head?.map GRec.en).getD 0)->buildR L=(gval0,2):=fun h=>by unfold buildR;rw [if_pos h]
  refine enter_s Tryz.func79 rfl rfl (by (repeat' (first | exact trivial | constructor))) fun w=>?_
  (repeat (first | refine cj_seq ?_ | refine cjr TT rfl ?_ | refine oj_then ?_))
  refine oj_split 9 rfl (fun h=>?_) (fun h=>?_)
  · rw [bad (.inl (by have:=of_decide_eq_true h;omega))]
    refine oj_run TT rfl ?_
    (repeat (first | refine cj_seq ?_ | refine cjr TT rfl ?_ | refine oj_then ?_ | refine cj_if_t rfl ?_ | refine cj_ret ?_ | refine nj_then_ret ?_))
    refine nj_ret TT rfl fun β w' _ _=>?_
    exact ⟨vCells gval0 none 0 none 0,rfl,rep0 σ⟩
  have h1:¬ 4096<L.length:=by have:=of_decide_eq_false h;omega
  refine oj_run TT rfl ?_
  refine oj_callP rfl rfl rfl rfl rfl Tryz.call151 (by (repeat' (first | exact trivial | constructor))) (nested_c σ L (by omega) ao cap H) fun v hv=>⟨.a (.b (nestedG L)),trivial,hv.symm,?_⟩
  refine oj_run TT rfl ?_
  refine oj_split 14 rfl (fun h=>?_) (fun h=>?_)
  · rw [bad (.inr (.inl (by simpa using h)))]
    refine oj_run TT rfl ?_
    (repeat (first | refine cj_seq ?_ | refine cjr TT rfl ?_ | refine oj_then ?_ | refine cj_if_t rfl ?_ | refine cj_ret ?_ | refine nj_then_ret ?_))
    refine nj_ret TT rfl fun β w' _ _=>?_
    exact ⟨vCells gval0 none 0 none 0,rfl,rep0 σ⟩
  have h2:nestedG L=true:=by simpa using h
  have hpos:0<L.length:=by
    unfold nestedG at h2
    simp only [Bool.and_eq_true,decide_eq_true_eq] at h2
    omega
  have hlev:levelsOk 0 L:=by
    unfold nestedG at h2
    simp only [Bool.and_eq_true] at h2
    exact nest_levels L 0 [] (-1) h2.1
  refine oj_run TT rfl ?_
  refine oj_callP rfl rfl rfl rfl rfl Tryz.call152 (by (repeat' (first | exact trivial | constructor))) (named_c σ L (by omega) ao cap H hlev) fun v hv=>⟨.a (.b (namedG L)),trivial,hv.symm,?_⟩
  refine oj_run TT rfl ?_
  refine oj_split 19 rfl (fun h=>?_) (fun h=>?_)
  · rw [bad (.inr (.inr (.inl (by simpa using h))))]
    refine oj_run TT rfl ?_
    (repeat (first | refine cj_seq ?_ | refine cjr TT rfl ?_ | refine oj_then ?_ | refine cj_if_t rfl ?_ | refine cj_ret ?_ | refine nj_then_ret ?_))
    refine nj_ret TT rfl fun β w' _ _=>?_
    exact ⟨vCells gval0 none 0 none 0,rfl,rep0 σ⟩
  have h3:namedG L=true:=by simpa using h
  have hrow:(recRows L)[0]?=some (recCells L[0]):=recRows_get (List.getElem?_eq_getElem hpos)
  have hhead:(L.head?.map GRec.en).getD 0=L[0].en:=by rw [List.head?_eq_getElem?,List.getElem?_eq_getElem hpos];rfl
  refine oj_run TT rfl ?_
  refine oj_idx TT rfl rfl rfl rfl rfl rfl rfl rfl rfl H (by omega) hrow (oj_run TT rfl ?_)
  (repeat refine oj_then ?_)
  refine cj_if rfl (fun h=>?_) (fun h=>?_)
  · rw [bad (.inr (.inr (.inr (by rw [hhead];exact of_decide_eq_true h))))]
    (repeat (first | refine cj_seq ?_ | refine cjr TT rfl ?_ | refine oj_then ?_ | refine cj_ret ?_ | refine nj_then_ret ?_))
    refine nj_ret TT rfl fun β w' _ _=>?_
    exact ⟨vCells gval0 none 0 none 0,rfl,rep0 σ⟩
  have h4:¬ 1099511627776<L[0].en:=of_decide_eq_false h
  have hB:buildR L=if sane (buildG L).1≠0 then (gval0,2) else ((buildG L).1,0):=by
    unfold buildR
    rw [if_neg]
    rintro (hh | hh | hh | hh)
    · exact h1 hh
    · rw [h2] at hh;cases hh
    · rw [h3] at hh;cases hh
    · rw [hhead] at hh;exact h4 hh
  rw [hB]
  (repeat (first | refine cj_seq ?_ | refine cjr TT rfl ?_ | refine oj_then ?_ | refine cj_skip ?_ | refine nj_then ?_))
  refine oj_own 2 1 2 rfl (by (repeat' (first | exact trivial | refine AllLt.of ?_ | constructor))) rfl (by decide) fun gb=>?_
  refine oj_callF [0] (A0:=[bE gb ao L.length cap (0:Nat)]) (Ar:=[]) rfl rfl rfl rfl rfl rfl rfl Tryz.call153 (by (repeat' (first | exact trivial | constructor))) (builder_c L hF (by omega) ao cap (enough L) σ 0 gb H hpos (by unfold enough;rw [List.drop_zero];omega)) fun v σ1 A1 hle1 ⟨r,k',hv,hrep,_,_,_,hA⟩=>⟨.agg r,hrep.clo,hv.symm,?_⟩
  subst hA
  rw [List.drop_zero] at hrep
  have hrep:RepV σ1 (buildG L).1 r:=hrep
  have hbw:=hbw h2
  generalize (buildG L).1=gx at *
  obtain ⟨xla,xlc,xlrows,xma,xmc,xvrows,rfl,XV⟩:=hrep.open
  refine oj_run TT rfl ?_
  (repeat (first | refine cj_seq ?_ | refine cjr TT rfl ?_ | refine oj_then ?_))
  refine oj_callP rfl rfl rfl rfl rfl Tryz.call60 (by (repeat' (first | exact trivial | exact vCells_lt _ _ _ _ _ _ | constructor))) (Sane_c σ1 gx _ XV.rep hbw) fun v hv=>⟨.a (.v (.int .i64 (sane gx))),trivial,hv.symm,?_⟩
  refine oj_run TT rfl ?_
  (repeat refine oj_then ?_)
  refine cj_if rfl (fun h=>?_) (fun h=>?_)
  · have h5:sane gx≠0:=by simpa using h
    rw [if_pos h5]
    (repeat (first | refine cj_seq ?_ | refine cjr TT rfl ?_ | refine oj_then ?_ | refine cj_ret ?_ | refine nj_then_ret ?_))
    refine nj_ret TT rfl fun β w' _ _=>?_
    exact ⟨vCells gval0 none 0 none 0,rfl,rep0 σ1⟩
  · have h5:sane gx=0:=by simpa using h
    rw [if_neg (by simp [h5])]
    (repeat (first | refine cj_seq ?_ | refine cjr TT rfl ?_ | refine oj_then ?_ | refine cj_skip ?_ | refine cj_ret ?_ | refine nj_then ?_))
    refine nj_ret TT rfl fun β w' _ _=>?_
    exact ⟨vCells gx xla xlc xma xmc,rfl,hrep⟩
set_option maxRecDepth 100000 in
set_option maxHeartbeats 1000000 in
theorem Sound_c (σ:Snap) (L:List GRec) (hL:L.length<=mostLen) (hF:RecsFit L) (hbw:nestedG L=true->(buildG L).1.weight<=1000000) (ao:Option Addr) (cap:Nat) (H:SlAt σ ao L.length cap 11 (recRows L)) :
    PlainS Tryz.prog 105 [.a (.v (.slice ao L.length cap))] σ (fun v=>v=.bool (soundG L)):=by
  refine enter_p Tryz.func105 rfl rfl (by (repeat' (first | exact trivial | constructor))) fun w=>?_
  (repeat (first | refine cj_seq ?_ | refine cjr TT rfl ?_ | refine oj_then ?_))
  refine oj_callS rfl rfl rfl rfl rfl Tryz.call79 ⟨trivial,trivial⟩ (Build_c σ L hL hF hbw ao cap H) fun v σ1 hle ⟨r,hv,hrep⟩=>⟨.tup [.agg r,.a (.v (.int .i64 (buildR L).2))],SV.lt_tup ⟨hrep.clo,trivial,trivial⟩,hv.symm,?_⟩
  obtain ⟨xla,xlc,xlrows,xma,xmc,xvrows,rfl,XV⟩:=hrep.open
  refine oj_run TT rfl ?_
  (repeat (first | refine cj_seq ?_ | refine cjr TT rfl ?_ | refine oj_then ?_ | refine cj_ret ?_))
  refine nj_ret TT rfl fun β w' _ _=>?_
  rfl
end Go.Sy
namespace Go.Sy
open Go.Proofs
mutual
def exactG:GVal->GVal->Bool
  | .mk k b n s l ks vs,g=>decide (k=g.kind)&&(b == g.b)&&decide (n=g.n)&&decide (s=g.s)&&decide (l.length=g.l.length)&&decide (ks.length=g.ks.length)&&(exactL l g.l&&exactM vs ks g.vs g.ks)
def exactL:List GVal->List GVal->Bool
  | [],_=>true
  | _::_,[]=>false
  | x::l,y::m=>exactG x y&&exactL l m
def exactM:List GVal->List ByteArray->List GVal->List ByteArray->Bool
  | [],_,_,_=>true
  | x::l,k::ks,y::m,h::hs=>decide (k=h)&&exactG x y&&exactM l ks m hs
  | _::_,_,_,_=>false
end
mutual
theorem exactG_self:∀ (g:GVal),g.wf->exactG g g=true
  | .mk k b n s l ks vs,h=>by
    simp only [GVal.wf] at h
    simp only [exactG,GVal.kind,GVal.b,GVal.n,GVal.s,GVal.l,GVal.ks,GVal.vs,decide_true,beq_self_eq_true,Bool.and_self,exactL_self l h.2.1,exactM_self vs ks h.1.symm h.2.2]
theorem exactL_self:∀ (l:List GVal),GVal.wfs l->exactL l l=true
  | [],_=>rfl
  | x::l,h=>by simp only [GVal.wfs] at h;simp only [exactL,exactG_self x h.1,exactL_self l h.2,Bool.and_self]
theorem exactM_self:∀ (l:List GVal) (ks:List ByteArray),l.length=ks.length->GVal.wfs l->exactM l ks l ks=true
  | [],_,_,_=>rfl
  | x::l,[],h,_=>by simp at h
  | x::l,k::ks,h,hw=>by simp only [GVal.wfs] at hw;simp only [exactM,exactG_self x hw.1,exactM_self l ks (by simpa using h) hw.2,decide_true,Bool.and_self]
end
end Go.Sy
namespace Go.Sy
open Go.Proofs
structure RecsOk (L:List GRec):Prop where
  len:L.length<=mostLen
  fit:RecsFit L
  bw:nestedG L=true->(buildG L).1.weight<=1000000
def atG (L:List GRec) (i:Int):Bool:=decide (0<=i)&&decide (i<(L.length:Int))&&soundG L
set_option maxRecDepth 100000 in
set_option maxHeartbeats 1000000 in
theorem at_c (σ:Snap) (L:List GRec) (R:RecsOk L) (ao:Option Addr) (cap:Nat) (H:SlAt σ ao L.length cap 11 (recRows L)) (i:Int) :
    PlainS Tryz.prog 149 [.a (.v (.slice ao L.length cap)),.a (.v (.int .i64 i))] σ (fun v=>v=.bool (atG L i)):=by
  refine enter_p Tryz.func149 rfl rfl (by (repeat' (first | exact trivial | constructor))) fun w=>?_
  (repeat (first | refine cj_seq ?_ | refine cjr TT rfl ?_ | refine oj_then ?_))
  refine oj_split 7 rfl (fun h=>?_) (fun h=>?_)
  rotate_left
  · refine oj_run TT rfl ?_
    (repeat (first | refine oj_then ?_ | refine cj_ret ?_))
    refine nj_ret TT rfl fun β w' _ _=>?_
    unfold atG
    rw [show decide (0<=i)=false from h,Bool.false_and,Bool.false_and]
    rfl
  have h1:decide (0<=i)=true:=h
  refine oj_run TT rfl ?_
  refine oj_split 13 rfl (fun h=>?_) (fun h=>?_)
  rotate_left
  · refine oj_run TT rfl ?_
    (repeat (first | refine oj_then ?_ | refine cj_ret ?_))
    refine nj_ret TT rfl fun β w' _ _=>?_
    unfold atG
    rw [show decide (i<(L.length:Int))=false from h,Bool.and_false,Bool.false_and]
    rfl
  have h2:decide (i<(L.length:Int))=true:=h
  refine oj_run TT rfl ?_
  refine oj_callP rfl rfl rfl rfl rfl Tryz.call105 (by (repeat' (first | exact trivial | constructor))) (Sound_c σ L R.len R.fit R.bw ao cap H) fun v hv=>⟨.a (.b (soundG L)),trivial,hv.symm,?_⟩
  refine oj_run TT rfl ?_
  (repeat (first | refine oj_then ?_ | refine cj_ret ?_))
  refine nj_ret TT rfl fun β w' _ _=>?_
  unfold atG
  rw [h1,h2]
  rfl
def parentK (L:List GRec) (st:Int):Nat->Int
  | 0 => -1
  | k+1=>if (L[k]?.map GRec.en).getD 0<st then parentK L st k else k
def parentG (L:List GRec) (i:Nat):Int:=parentK L ((L[i]?.map GRec.st).getD 0) i
end Go.Sy
/- Plain laws on a value's records: they are nested, named, and the value is built of them again. No program in sight. -/
namespace Go.Sy
def stE (φ:Int->Int) (r:GRec):GRec:=⟨φ r.st,φ r.en,r.lv,r.kd,r.nm,r.name,r.b,r.n,r.s⟩
def Incr (φ:Int->Int):Prop:=∀ a b,0<=a->a<b->φ a<φ b
mutual
def kindOk:GVal->Prop
  | .mk k _ _ _ l _ vs=>(l≠[]->k≠5)/\(vs≠[]->k=5)/\kindOks l/\kindOks vs
def kindOks:List GVal->Prop
  | []=>True
  | g::gs=>kindOk g/\kindOks gs
end
theorem fields_kind {g:GVal} (h:fieldsG g=true):(g.l≠[]->g.kind=4)/\(g.ks≠[]->g.kind=5):=by
  have key:∀ (P:Prop) (hl:g.l=[]\/P) (_:g.l≠[]),P:=fun P hl h=>hl.resolve_left h
  by_cases h0:g.kind=0
  · rw [fieldsG_0 h0] at h
    simp only [Bool.and_eq_true,decide_eq_true_eq,List.length_eq_zero_iff] at h
    exact ⟨fun hh=>absurd h.1.2 hh,fun hh=>absurd h.2 hh⟩
  by_cases h1:g.kind=1
  · rw [fieldsG_1 h1] at h
    simp only [Bool.and_eq_true,decide_eq_true_eq,List.length_eq_zero_iff] at h
    exact ⟨fun hh=>absurd h.1.2 hh,fun hh=>absurd h.2 hh⟩
  by_cases h2:g.kind=2
  · rw [fieldsG_2 h2] at h
    simp only [Bool.and_eq_true,decide_eq_true_eq,List.length_eq_zero_iff] at h
    exact ⟨fun hh=>absurd h.1.2 hh,fun hh=>absurd h.2 hh⟩
  by_cases h3:g.kind=3
  · rw [fieldsG_3 h3] at h
    simp only [Bool.and_eq_true,decide_eq_true_eq,List.length_eq_zero_iff] at h
    exact ⟨fun hh=>absurd h.1.2 hh,fun hh=>absurd h.2 hh⟩
  by_cases h4:g.kind=4
  · rw [fieldsG_4 h4] at h
    simp only [Bool.and_eq_true,decide_eq_true_eq,List.length_eq_zero_iff] at h
    exact ⟨fun _=>h4,fun hh=>absurd h.2 hh⟩
  by_cases h5:g.kind=5
  · rw [fieldsG_5 h5] at h
    simp only [Bool.and_eq_true,decide_eq_true_eq,List.length_eq_zero_iff] at h
    exact ⟨fun hh=>absurd h.2 hh,fun _=>h5⟩
  · rw [fieldsG_x h0 h1 h2 h3 h4 h5] at h;cases h
mutual
theorem sane_kind:∀ (g:GVal) (deep c:Int),g.wf->(saneG g deep c).1=0->kindOk g
  | .mk k b n s l ks vs,deep,c,hw,h=>by
    simp only [GVal.wf] at hw
    simp only [saneG] at h
    split at h
    · simp at h
    rename_i hf
    have hf:fieldsG (.mk k b n s l ks vs)=true:=by simpa using hf
    obtain ⟨h1,h2⟩:=fields_kind hf
    simp only [GVal.l,GVal.ks,GVal.kind] at h1 h2
    split at h
    · simp at h
    split at h
    · simp at h
    split at h
    · simp at h
    simp only [kindOk]
    have hl:(saneL l deep (c+1)).1=0:=by
      by_cases h0:(saneL l deep (c+1)).1=0
      · exact h0
      · rw [if_pos h0] at h;exact h
    rw [if_neg (by simp [hl])] at h
    refine ⟨fun hh e=>?_,fun hh=>h2 fun e=>hh ?_,sane_kinds l _ _ hw.2.1 hl,sane_kinds vs _ _ hw.2.2 h⟩
    · have:=h1 hh;omega
    · have:=hw.1
      rw [e] at this
      exact List.eq_nil_of_length_eq_zero this.symm
theorem sane_kinds:∀ (gs:List GVal) (deep c:Int),GVal.wfs gs->(saneL gs deep c).1=0->kindOks gs
  | [],_,_,_,_=>trivial
  | g::gs,deep,c,hw,h=>by
    simp only [GVal.wfs] at hw
    simp only [saneL] at h
    have hg:(saneG g (deep+1) c).1=0:=by
      by_cases h0:(saneG g (deep+1) c).1=0
      · exact h0
      · rw [if_pos h0] at h;exact h
    rw [if_neg (by simp [hg])] at h
    exact ⟨sane_kind g _ _ hw.1 hg,sane_kinds gs _ _ hw.2 h⟩
end
theorem closeTo_same {lv:Int} {ro:List GRec} (e:Int) (h:(ro.length:Int)=lv):closeTo lv ro e=some (ro,e):=by
  cases ro with
  | nil=>rfl
  | cons t ro =>
    simp only [List.length_cons] at h
    rw [closeTo,if_neg (by omega)]
theorem closeTo_suffix:∀ (lv:Int) (ro:List GRec) (last:Int) (p:List GRec×Int),closeTo lv ro last=some p->∃ x,ro=x++p.1
  | lv,[],last,p,h=>by simp only [closeTo,Option.some.injEq] at h;subst h;exact ⟨[],rfl⟩
  | lv,t::ro,last,p,h=>by
    simp only [closeTo] at h
    split at h
    · split at h
      · cases h
      · obtain ⟨x,hx⟩:=closeTo_suffix lv ro t.en p h
        exact ⟨t::x,by rw [hx];rfl⟩
    · simp only [Option.some.injEq] at h;subst h;exact ⟨[],rfl⟩
theorem closeTo_trans:∀ (ro1 ro:List GRec) (last1 last:Int),closeTo ro.length (ro1++ro) last1=some (ro,last)->∀ lv:Int,lv<=ro.length->closeTo lv (ro1++ro) last1=closeTo lv ro last
  | [],ro,last1,last,h,lv,hl=>by
    rw [List.nil_append,closeTo_same last1 rfl] at h
    simp only [Option.some.injEq,Prod.mk.injEq,true_and] at h
    rw [h,List.nil_append]
  | t::ro1,ro,last1,last,h,lv,hl=>by
    simp only [List.cons_append,closeTo,List.length_append] at h ⊢
    rw [if_pos (by omega)] at h ⊢
    split at h
    · cases h
    · rename_i he
      rw [if_neg he]
      exact closeTo_trans ro1 ro t.en last h lv hl
theorem closeAll_of:∀ (ro:List GRec) (last e:Int),closeTo 0 ro last=some ([],e)->closeAll ro last=true
  | [],_,_,_=>rfl
  | t::ro,last,e,h=>by
    simp only [closeTo] at h
    rw [if_pos (by omega)] at h
    split at h
    · cases h
    · rename_i he
      simp only [closeAll,if_neg he]
      exact closeAll_of ro t.en e h
structure AtN (lv:Int) (ro0:List GRec) (last0:Int) (ro:List GRec) (last:Int):Prop where
  cl:closeTo lv ro0 last0=some (ro,last)
  len:(ro.length:Int)=lv
  le:lv<=ro0.length
section
variable {φ:Int->Int} (hφ:Incr φ) {gap:Int} (hg:1<=gap)
include hφ hg
mutual
theorem nestV:∀ (g:GVal) (lv:Int) (nm:Bool) (name:ByteArray) (now:Int) (k:Nat) (ro0 ro:List GRec) (last0 last:Int) (rest:List GRec),AtN lv ro0 last0 ro last->0<=lv->decide (lv=0)=decide ((k:Int)=0)->0<=now->last<φ (now+gap) ->
    ∃ ro1 last1,AtN lv ro1 last1 ro (φ (shredV gap g lv nm name now).2)/\nestFrom k ro0 last0 ((shredV gap g lv nm name now).1.map (stE φ)++rest)=nestFrom (k+(shredV gap g lv nm name now).1.length) ro1 last1 rest
  | .mk kd b n s l ks vs,lv,nm,name,now,k,ro0,ro,last0,last,rest,hA,h0,hk,hn,hl=>by
    simp only [shredV,List.map_cons,List.map_append,List.cons_append,List.append_assoc,nestFrom,stE,List.length_cons,List.length_append]
    have h1:=(shredL_len gap l (lv+1) (now+gap)).2
    have h2:=(shredM_len gap vs ks (lv+1) (shredL gap l (lv+1) (now+gap)).2).2
    have e1:0<=2*gap*((shredL gap l (lv+1) (now+gap)).1.length:Int):=Int.mul_nonneg (by omega) (by omega)
    have e2:0<=2*gap*((shredM gap vs ks (lv+1) (shredL gap l (lv+1) (now+gap)).2).1.length:Int):=Int.mul_nonneg (by omega) (by omega)
    have hlen:=hA.len
    have hle:=hA.le
    rw [if_neg (by rw [hk];simp;omega),hA.cl]
    simp only []
    rw [if_neg (by omega)]
    generalize hr0:(⟨φ (now+gap),φ ((shredM gap vs ks (lv+1) (shredL gap l (lv+1) (now+gap)).2).2+gap),lv,kd,nm,name,b,n,s⟩:GRec)=r0
    have hst:r0.st=φ (now+gap):=by rw [<-hr0]
    have hen:r0.en=φ ((shredM gap vs ks (lv+1) (shredL gap l (lv+1) (now+gap)).2).2+gap):=by rw [<-hr0]
    obtain ⟨ro1,last1,last2,hA1,hl2,he1⟩:=nestL l (lv+1) (now+gap) (k+1) (r0::ro) (r0::ro) (φ (now+gap)) (φ (now+gap)) ((shredM gap vs ks (lv+1) (shredL gap l (lv+1) (now+gap)).2).1.map (stE φ)++rest)
      ⟨closeTo_same _ (by simp only [List.length_cons];omega),by simp only [List.length_cons];omega,by simp only [List.length_cons];omega⟩ (by omega) (Nat.succ_pos k) (by omega) (Int.le_refl _)
    obtain ⟨ro2,last3,last4,hA2,hl4,he2⟩:=nestM vs ks (lv+1) (shredL gap l (lv+1) (now+gap)).2 (k+1+(shredL gap l (lv+1) (now+gap)).1.length) ro1 (r0::ro) last1 last2 rest hA1 (by omega) (by omega) (by omega) hl2
    refine ⟨ro2,last3,⟨?_,hlen,by have:=hA2.le;omega⟩,?_⟩
    · obtain ⟨x,hx⟩:=closeTo_suffix _ _ _ _ hA2.cl
      have hx:ro2=x++(r0::ro):=hx
      have hlr:(((r0::ro).length:Nat):Int)=lv+1:=hA2.len
      have hcl:=hA2.cl
      rw [<-hlr,hx] at hcl
      rw [hx,closeTo_trans x (r0::ro) last3 last4 hcl lv (by omega),closeTo,if_pos (by omega),if_neg,hen]
      · exact closeTo_same _ hlen
      · rw [hen]
        have:=hφ (shredM gap vs ks (lv+1) (shredL gap l (lv+1) (now+gap)).2).2 ((shredM gap vs ks (lv+1) (shredL gap l (lv+1) (now+gap)).2).2+gap) (by omega) (by omega)
        omega
    · rw [he1,he2]
      congr 1
      omega
theorem nestL:∀ (gs:List GVal) (lv:Int) (now:Int) (k:Nat) (ro0 ro:List GRec) (last0 last:Int) (rest:List GRec),AtN lv ro0 last0 ro last->1<=lv->0<k->0<=now->last<=φ now ->
    ∃ ro1 last1 last2,AtN lv ro1 last1 ro last2/\last2<=φ (shredL gap gs lv now).2/\nestFrom k ro0 last0 ((shredL gap gs lv now).1.map (stE φ)++rest)=nestFrom (k+(shredL gap gs lv now).1.length) ro1 last1 rest
  | [],lv,now,k,ro0,ro,last0,last,rest,hA,h0,hk,hn,hl=>⟨ro0,last0,last,hA,hl,rfl⟩
  | g::gs,lv,now,k,ro0,ro,last0,last,rest,hA,h0,hk,hn,hl=>by
    simp only [shredL,List.map_append,List.append_assoc,List.length_append]
    have hinc:=hφ now (now+gap) hn (by omega)
    obtain ⟨h1,h1'⟩:=shredV_len gap g lv false ⟨#[]⟩ now
    have e1:0<=2*gap*((shredV gap g lv false ⟨#[]⟩ now).1.length:Int):=Int.mul_nonneg (by omega) (by omega)
    obtain ⟨ro1,last1,hA1,he1⟩:=nestV g lv false ⟨#[]⟩ now k ro0 ro last0 last ((shredL gap gs lv (shredV gap g lv false ⟨#[]⟩ now).2).1.map (stE φ)++rest) hA (by omega) (by rw [decide_eq_false (by omega),decide_eq_false (by omega)]) hn (by omega)
    obtain ⟨ro2,last3,last4,hA2,hl4,he2⟩:=nestL gs lv (shredV gap g lv false ⟨#[]⟩ now).2 (k+(shredV gap g lv false ⟨#[]⟩ now).1.length) ro1 ro last1 _ rest hA1 h0 (by omega) (by omega) (Int.le_refl _)
    exact ⟨ro2,last3,last4,hA2,hl4,by rw [he1,he2,Nat.add_assoc]⟩
theorem nestM:∀ (gs:List GVal) (ks:List ByteArray) (lv:Int) (now:Int) (k:Nat) (ro0 ro:List GRec) (last0 last:Int) (rest:List GRec),AtN lv ro0 last0 ro last->1<=lv->0<k->0<=now->last<=φ now ->
    ∃ ro1 last1 last2,AtN lv ro1 last1 ro last2/\last2<=φ (shredM gap gs ks lv now).2/\nestFrom k ro0 last0 ((shredM gap gs ks lv now).1.map (stE φ)++rest)=nestFrom (k+(shredM gap gs ks lv now).1.length) ro1 last1 rest
  | [],ks,lv,now,k,ro0,ro,last0,last,rest,hA,h0,hk,hn,hl=>by simp only [shredM];exact ⟨ro0,last0,last,hA,hl,rfl⟩
  | g::gs,[],lv,now,k,ro0,ro,last0,last,rest,hA,h0,hk,hn,hl=>by simp only [shredM];exact ⟨ro0,last0,last,hA,hl,rfl⟩
  | g::gs,nk::ks,lv,now,k,ro0,ro,last0,last,rest,hA,h0,hk,hn,hl=>by
    simp only [shredM,List.map_append,List.append_assoc,List.length_append]
    have hinc:=hφ now (now+gap) hn (by omega)
    obtain ⟨h1,h1'⟩:=shredV_len gap g lv true nk now
    have e1:0<=2*gap*((shredV gap g lv true nk now).1.length:Int):=Int.mul_nonneg (by omega) (by omega)
    obtain ⟨ro1,last1,hA1,he1⟩:=nestV g lv true nk now k ro0 ro last0 last ((shredM gap gs ks lv (shredV gap g lv true nk now).2).1.map (stE φ)++rest) hA (by omega) (by rw [decide_eq_false (by omega),decide_eq_false (by omega)]) hn (by omega)
    obtain ⟨ro2,last3,last4,hA2,hl4,he2⟩:=nestM gs ks lv (shredV gap g lv true nk now).2 (k+(shredV gap g lv true nk now).1.length) ro1 ro last1 _ rest hA1 h0 (by omega) (by omega) (Int.le_refl _)
    exact ⟨ro2,last3,last4,hA2,hl4,by rw [he1,he2,Nat.add_assoc]⟩
end
end
mutual
theorem namedV (φ:Int->Int) (gap:Int):∀ (g:GVal) (lv:Nat) (nm:Bool) (name:ByteArray) (now:Int) (op o:List Int) (rest:List GRec),kindOk g->op.take lv=o->lv<=op.length->nm=(o.getLast? == some 5)->(nm=false->name=⟨#[]⟩) ->
    ∃ op1,op1.take lv=o/\lv<=op1.length/\namedFrom op ((shredV gap g lv nm name now).1.map (stE φ)++rest)=namedFrom op1 rest
  | .mk kd b n s l ks vs,lv,nm,name,now,op,o,rest,hk,ho,hl,hnm,hna=>by
    simp only [kindOk] at hk
    simp only [shredV,List.map_cons,List.map_append,List.cons_append,List.append_assoc,namedFrom,stE,Int.toNat_natCast,ho]
    have hc:((nm != (o.getLast? == some 5))||(!nm&&!decide (name=⟨#[]⟩)))=false:=by
      rw [<-hnm]
      cases nm with
      | true=>simp
      | false=>simp [hna rfl]
    rw [hc]
    simp only [Bool.false_eq_true,if_false]
    have hol:o.length=lv:=by rw [<-ho,List.length_take];omega
    have hlast:(o++[kd]).getLast?=some kd:=by simp
    have htk:(o++[kd]).take (lv+1)=o++[kd]:=List.take_of_length_le (by simp;omega)
    obtain ⟨op1,h1,h2,h3⟩:=namedL φ gap l (lv+1) (now+gap) (o++[kd]) (o++[kd]) ((shredM gap vs ks ((lv:Int)+1) (shredL gap l ((lv:Int)+1) (now+gap)).2).1.map (stE φ)++rest) hk.2.2.1 htk (by simp;omega) (fun hne=>by rw [hlast];have:=hk.1 hne;simp;exact this)
    obtain ⟨op2,h4,h5,h6⟩:=namedM φ gap vs ks (lv+1) (shredL gap l ((lv:Int)+1) (now+gap)).2 op1 (o++[kd]) rest hk.2.2.2 h1 h2 (fun hne=>by rw [hlast];have:=hk.2.1 hne;simp;exact this)
    refine ⟨op2,?_,by omega,?_⟩
    · have:op2.take lv=(op2.take (lv+1)).take lv:=by rw [List.take_take];congr 1;omega
      rw [this,h4,List.take_append_of_le_length (by omega),List.take_of_length_le (by omega)]
    · exact h3.trans h6
theorem namedL (φ:Int->Int) (gap:Int):∀ (gs:List GVal) (lv:Nat) (now:Int) (op o:List Int) (rest:List GRec),kindOks gs->op.take lv=o->lv<=op.length->(gs≠[]->(o.getLast? == some 5)=false) ->
    ∃ op1,op1.take lv=o/\lv<=op1.length/\namedFrom op ((shredL gap gs lv now).1.map (stE φ)++rest)=namedFrom op1 rest
  | [],lv,now,op,o,rest,hk,ho,hl,hnm=>⟨op,ho,hl,rfl⟩
  | g::gs,lv,now,op,o,rest,hk,ho,hl,hnm=>by
    simp only [kindOks] at hk
    simp only [shredL,List.map_append,List.append_assoc]
    obtain ⟨op1,h1,h2,h3⟩:=namedV φ gap g lv false ⟨#[]⟩ now op o ((shredL gap gs lv (shredV gap g lv false ⟨#[]⟩ now).2).1.map (stE φ)++rest) hk.1 ho hl (hnm (by simp)).symm (fun _=>rfl)
    obtain ⟨op2,h4,h5,h6⟩:=namedL φ gap gs lv (shredV gap g lv false ⟨#[]⟩ now).2 op1 o rest hk.2 h1 h2 (fun _=>hnm (by simp))
    exact ⟨op2,h4,h5,h3.trans h6⟩
theorem namedM (φ:Int->Int) (gap:Int):∀ (gs:List GVal) (ks:List ByteArray) (lv:Nat) (now:Int) (op o:List Int) (rest:List GRec),kindOks gs->op.take lv=o->lv<=op.length->(gs≠[]->(o.getLast? == some 5)=true) ->
    ∃ op1,op1.take lv=o/\lv<=op1.length/\namedFrom op ((shredM gap gs ks lv now).1.map (stE φ)++rest)=namedFrom op1 rest
  | [],ks,lv,now,op,o,rest,hk,ho,hl,hnm=>by simp only [shredM];exact ⟨op,ho,hl,rfl⟩
  | g::gs,[],lv,now,op,o,rest,hk,ho,hl,hnm=>by simp only [shredM];exact ⟨op,ho,hl,rfl⟩
  | g::gs,nk::ks,lv,now,op,o,rest,hk,ho,hl,hnm=>by
    simp only [kindOks] at hk
    simp only [shredM,List.map_append,List.append_assoc]
    obtain ⟨op1,h1,h2,h3⟩:=namedV φ gap g lv true nk now op o ((shredM gap gs ks lv (shredV gap g lv true nk now).2).1.map (stE φ)++rest) hk.1 ho hl (hnm (by simp)).symm (fun h=>by cases h)
    obtain ⟨op2,h4,h5,h6⟩:=namedM φ gap gs ks lv (shredV gap g lv true nk now).2 op1 o rest hk.2 h1 h2 (fun _=>hnm (by simp))
    exact ⟨op2,h4,h5,h3.trans h6⟩
end
theorem named_shred (φ:Int->Int) (gap:Int) (g:GVal) (hk:kindOk g):namedG ((shredV gap g 0 false emptyS 0).1.map (stE φ))=true:=by
  unfold namedG
  obtain ⟨op1,_,_,h⟩:=namedV φ gap g 0 false ⟨#[]⟩ 0 [] [] [] hk rfl (Nat.le_refl _) rfl (fun _=>rfl)
  rw [List.append_nil] at h
  exact h.trans rfl
def behind (lv:Int):List GRec->Prop
  | []=>True
  | r::_=>r.lv<=lv
theorem behind.mono {lv lv':Int} (h:lv<=lv'):∀ {l:List GRec},behind lv l->behind lv' l
  | [],_=>trivial
  | r::_,hb=>by simp only [behind] at hb ⊢;omega
theorem behindV (φ:Int->Int) (gap:Int) (g:GVal) (lv:Int) (nm:Bool) (name:ByteArray) (now:Int) (Y:List GRec):behind lv ((shredV gap g lv nm name now).1.map (stE φ)++Y):=by
  rw [shredV_eq]
  exact Int.le_refl _
theorem behindL (φ:Int->Int) (gap:Int) (gs:List GVal) (lv:Int) (now:Int) (Y:List GRec) (h:behind lv Y):behind lv ((shredL gap gs lv now).1.map (stE φ)++Y):=by
  cases gs with
  | nil=>exact h
  | cons g gs =>
    simp only [shredL,List.map_append,List.append_assoc]
    exact behindV φ gap g lv _ _ now _
theorem behindM (φ:Int->Int) (gap:Int) (gs:List GVal) (ks:List ByteArray) (lv:Int) (now:Int) (Y:List GRec) (h:behind lv Y):behind lv ((shredM gap gs ks lv now).1.map (stE φ)++Y):=by
  cases gs with
  | nil=>simp only [shredM];exact h
  | cons g gs =>
    cases ks with
    | nil=>simp only [shredM];exact h
    | cons k ks =>
      simp only [shredM,List.map_append,List.append_assoc]
      exact behindV φ gap g lv _ _ now _
theorem kids_step (φ:Int->Int) (gap:Int) (g:GVal) (lv:Int) (nm:Bool) (name:ByteArray) (now:Int) (n:Nat) (X:List GRec) (h:buildN n ((shredV gap g (lv+1) nm name now).1.map (stE φ)++X)=(g,X)) :
    kidsN (n+1) lv ((shredV gap g (lv+1) nm name now).1.map (stE φ)++X)=if nm then ⟨(kidsN n lv X).ls,name::(kidsN n lv X).ks,g::(kidsN n lv X).vs,(kidsN n lv X).rest⟩ else ⟨g::(kidsN n lv X).ls,(kidsN n lv X).ks,(kidsN n lv X).vs,(kidsN n lv X).rest⟩:=by
  rw [shredV_eq] at h ⊢
  simp only [List.map_cons,List.cons_append] at h ⊢
  rw [kidsN,h,if_pos (by simp only [stE];omega)]
  rfl
mutual
theorem buildV (φ:Int->Int) (gap:Int):∀ (g:GVal) (lv:Int) (nm:Bool) (name:ByteArray) (now:Int) (n:Nat) (rest:List GRec),g.wf->behind lv rest->2*(shredV gap g lv nm name now).1.length<=n ->
    buildN n ((shredV gap g lv nm name now).1.map (stE φ)++rest)=(g,rest)
  | .mk kd b n s l ks vs,lv,nm,name,now,m,rest,hw,hb,hm=>by
    simp only [GVal.wf] at hw
    simp only [shredV,List.length_cons,List.length_append] at hm
    obtain ⟨m,rfl⟩:∃ m',m=m'+1:=⟨m - 1,by omega⟩
    simp only [shredV,List.map_cons,List.map_append,List.cons_append,List.append_assoc,buildN,stE]
    rw [kidsL φ gap l lv (now+gap) m _ ⟨[],ks,vs,rest⟩ (2*(shredM gap vs ks (lv+1) (shredL gap l (lv+1) (now+gap)).2).1.length+1) (by omega) hw.2.1 (fun m' hm'=>kidsM φ gap vs ks lv (shredL gap l (lv+1) (now+gap)).2 m' rest hw.2.2 hw.1 hb hm') (behindM φ gap vs ks (lv+1) _ _ (hb.mono (by omega))) (by omega)]
    simp
theorem kidsL (φ:Int->Int) (gap:Int):∀ (gs:List GVal) (lv:Int) (now:Int) (n:Nat) (T:List GRec) (K:Kids) (c:Nat),1<=c->GVal.wfs gs->(∀ m,c<=m->kidsN m lv T=K)->behind (lv+1) T ->
    2*(shredL gap gs (lv+1) now).1.length+c<=n->kidsN n lv ((shredL gap gs (lv+1) now).1.map (stE φ)++T)=⟨gs++K.ls,K.ks,K.vs,K.rest⟩
  | [],lv,now,n,T,K,c,hc,hw,hT,hb,hn2=>by
    simp only [shredL,List.map_nil,List.nil_append,List.length_nil] at hn2 ⊢
    exact hT n (by omega)
  | g::gs,lv,now,n,T,K,c,hc,hw,hT,hb,hn2=>by
    simp only [GVal.wfs] at hw
    simp only [shredL,List.map_append,List.append_assoc,List.length_append] at hn2 ⊢
    have hpos:0<(shredV gap g (lv+1) false ⟨#[]⟩ now).1.length:=by rw [shredV_eq];simp
    obtain ⟨n,rfl⟩:∃ m',n=m'+1:=⟨n - 1,by omega⟩
    have hB:=buildV φ gap g (lv+1) false ⟨#[]⟩ now n ((shredL gap gs (lv+1) (shredV gap g (lv+1) false ⟨#[]⟩ now).2).1.map (stE φ)++T) hw.1 (behindL φ gap gs (lv+1) _ _ hb) (by omega)
    rw [kids_step φ gap g lv false ⟨#[]⟩ now n _ hB,kidsL φ gap gs lv (shredV gap g (lv+1) false ⟨#[]⟩ now).2 n T K c hc hw.2 hT hb (by omega)]
    rfl
theorem kidsM (φ:Int->Int) (gap:Int):∀ (vs:List GVal) (ks:List ByteArray) (lv:Int) (now:Int) (n:Nat) (rest:List GRec),GVal.wfs vs->ks.length=vs.length->behind lv rest->2*(shredM gap vs ks (lv+1) now).1.length+1<=n ->
    kidsN n lv ((shredM gap vs ks (lv+1) now).1.map (stE φ)++rest)=⟨[],ks,vs,rest⟩
  | [],ks,lv,now,n,rest,hw,hk,hb,hn=>by
    have hk0:ks=[]:=List.eq_nil_of_length_eq_zero hk
    subst hk0
    simp only [shredM,List.map_nil,List.nil_append,List.length_nil] at hn ⊢
    obtain ⟨n,rfl⟩:∃ m',n=m'+1:=⟨n - 1,by omega⟩
    cases rest with
    | nil=>rfl
    | cons r rest =>
      simp only [behind] at hb
      rw [kidsN,if_neg (by omega)]
  | g::gs,[],lv,now,n,rest,hw,hk,hb,hn=>by simp at hk
  | g::gs,nk::ks,lv,now,n,rest,hw,hk,hb,hn=>by
    simp only [GVal.wfs] at hw
    simp only [shredM,List.map_append,List.append_assoc,List.length_append] at hn ⊢
    have hpos:0<(shredV gap g (lv+1) true nk now).1.length:=by rw [shredV_eq];simp
    obtain ⟨n,rfl⟩:∃ m',n=m'+1:=⟨n - 1,by omega⟩
    have hB:=buildV φ gap g (lv+1) true nk now n ((shredM gap gs ks (lv+1) (shredV gap g (lv+1) true nk now).2).1.map (stE φ)++rest) hw.1 (behindM φ gap gs ks (lv+1) _ _ (hb.mono (by omega))) (by omega)
    rw [kids_step φ gap g lv true nk now n _ hB,kidsM φ gap gs ks lv (shredV gap g (lv+1) true nk now).2 n rest hw.2 (by simpa using hk) hb (by omega)]
    rfl
end
theorem build_shred (φ:Int->Int) (gap:Int) (g:GVal) (nm:Bool) (name:ByteArray) (now:Int) (hw:g.wf):buildG ((shredV gap g 0 nm name now).1.map (stE φ))=(g,[]):=by
  unfold buildG
  have:=buildV φ gap g 0 nm name now (enough ((shredV gap g 0 nm name now).1.map (stE φ))) [] hw trivial (by unfold enough;rw [List.length_map];omega)
  rw [List.append_nil] at this
  exact this
end Go.Sy
/- Bounds on a value's records. No program in sight. -/
namespace Go.Sy
mutual
theorem shredV_bd {gap:Int} (hg:0<=gap):∀ (g:GVal) (lv:Int) (nm:Bool) (name:ByteArray) (now:Int),now<=(shredV gap g lv nm name now).2/\∀ r∈(shredV gap g lv nm name now).1,now<=r.st/\r.st<=(shredV gap g lv nm name now).2/\now<=r.en/\r.en<=(shredV gap g lv nm name now).2
  | .mk kd b n s l ks vs,lv,nm,name,now=>by
    simp only [shredV]
    obtain ⟨h1,h2⟩:=shredL_bd hg l (lv+1) (now+gap)
    obtain ⟨h3,h4⟩:=shredM_bd hg vs ks (lv+1) (shredL gap l (lv+1) (now+gap)).2
    refine ⟨by omega,fun r hr=>?_⟩
    rcases List.mem_cons.1 hr with rfl | hr
    · simp only [];omega
    · rcases List.mem_append.1 hr with hr | hr
      · have:=h2 r hr;omega
      · have:=h4 r hr;omega
theorem shredL_bd {gap:Int} (hg:0<=gap):∀ (gs:List GVal) (lv:Int) (now:Int),now<=(shredL gap gs lv now).2/\∀ r∈(shredL gap gs lv now).1,now<=r.st/\r.st<=(shredL gap gs lv now).2/\now<=r.en/\r.en<=(shredL gap gs lv now).2
  | [],lv,now=>⟨Int.le_refl _,fun r hr=>by cases hr⟩
  | g::gs,lv,now=>by
    simp only [shredL]
    obtain ⟨h1,h2⟩:=shredV_bd hg g lv false ⟨#[]⟩ now
    obtain ⟨h3,h4⟩:=shredL_bd hg gs lv (shredV gap g lv false ⟨#[]⟩ now).2
    refine ⟨by omega,fun r hr=>?_⟩
    rcases List.mem_append.1 hr with hr | hr
    · have:=h2 r hr;omega
    · have:=h4 r hr;omega
theorem shredM_bd {gap:Int} (hg:0<=gap):∀ (gs:List GVal) (ks:List ByteArray) (lv:Int) (now:Int),now<=(shredM gap gs ks lv now).2/\∀ r∈(shredM gap gs ks lv now).1,now<=r.st/\r.st<=(shredM gap gs ks lv now).2/\now<=r.en/\r.en<=(shredM gap gs ks lv now).2
  | [],ks,lv,now=>by simp only [shredM];exact ⟨Int.le_refl _,fun r hr=>by cases hr⟩
  | g::gs,[],lv,now=>by simp only [shredM];exact ⟨Int.le_refl _,fun r hr=>by cases hr⟩
  | g::gs,nk::ks,lv,now=>by
    simp only [shredM]
    obtain ⟨h1,h2⟩:=shredV_bd hg g lv true nk now
    obtain ⟨h3,h4⟩:=shredM_bd hg gs ks lv (shredV gap g lv true nk now).2
    refine ⟨by omega,fun r hr=>?_⟩
    rcases List.mem_append.1 hr with hr | hr
    · have:=h2 r hr;omega
    · have:=h4 r hr;omega
end
mutual
theorem shredV_fit {σ:Snap} (gap:Int):∀ (g:GVal) (r:List AT) (lv:Int) (nm:Bool) (name:ByteArray) (now:Int),RepV σ g r->name.size<=mostLen->RecsFit (shredV gap g lv nm name now).1
  | .mk kd b n s l ks vs,r,lv,nm,name,now,h,hn=>by
    simp only [RepV] at h
    obtain ⟨_,_,_,_,_,_,_,_,h3,h4,_,h6,h7,h8,_,_,h9⟩:=h
    simp only [shredV]
    intro x hx
    rcases List.mem_cons.1 hx with rfl | hx
    · exact ⟨h7,h8,hn⟩
    · rcases List.mem_append.1 hx with hx | hx
      · exact shredL_fit gap l _ _ _ h3 x hx
      · exact shredM_fit gap vs _ ks _ _ h6 h9 x hx
theorem shredL_fit {σ:Snap} (gap:Int):∀ (gs:List GVal) (rs:List (List AT)) (lv:Int) (now:Int),RepL σ gs rs->RecsFit (shredL gap gs lv now).1
  | [],_,_,_,_=>fun x hx=>by cases hx
  | g::gs,rs,lv,now,h=>by
    simp only [RepL] at h
    obtain ⟨r,rs',_,h2,h3⟩:=h
    simp only [shredL]
    intro x hx
    rcases List.mem_append.1 hx with hx | hx
    · exact shredV_fit gap g r _ _ _ _ h2 (by simp [mostLen,ByteArray.size]) x hx
    · exact shredL_fit gap gs rs' _ _ h3 x hx
theorem shredM_fit {σ:Snap} (gap:Int):∀ (gs:List GVal) (rs:List (List AT)) (ks:List ByteArray) (lv:Int) (now:Int),RepL σ gs rs->(∀ k∈ks,k.size<=mostLen)->RecsFit (shredM gap gs ks lv now).1
  | [],_,ks,_,_,_,_=>by simp only [shredM];exact fun x hx=>by cases hx
  | g::gs,_,[],_,_,_,_=>by simp only [shredM];exact fun x hx=>by cases hx
  | g::gs,rs,nk::ks,lv,now,h,hk=>by
    simp only [RepL] at h
    obtain ⟨r,rs',_,h2,h3⟩:=h
    simp only [shredM]
    intro x hx
    rcases List.mem_append.1 hx with hx | hx
    · exact shredV_fit gap g r _ _ _ _ h2 (hk nk (List.mem_cons_self ..)) x hx
    · exact shredM_fit gap gs rs' ks _ _ h3 (fun k hk'=>hk k (List.mem_cons_of_mem _ hk')) x hx
end
end Go.Sy
namespace Go.Sy
open Go.Proofs
theorem shredG_ok {g:GVal} {gap:Int} (h1:1<=gap) (h2:gap<=1000) (hs:sane g=0):shredG g gap=((shredV gap g 0 false emptyS 0).1,0):=by
  unfold shredG
  rw [if_neg (by omega),if_neg (by simp [hs])]
def mkK (f:GRec->GRec) (L:List GRec) (k:Nat):List GRec:=(L.take k).map f++L.drop k
theorem mkK_get (f:GRec->GRec) (L:List GRec) (k:Nat) (h:k<L.length):(mkK f L k)[k]?=some L[k]:=by
  unfold mkK
  rw [List.getElem?_append_right (by simp;omega)]
  simp
  rw [Nat.min_eq_left (by omega)]
  simp [h]
theorem mkK_succ (f:GRec->GRec) (L:List GRec) (k:Nat) (h:k<L.length):(mkK f L k).set k (f L[k])=mkK f L (k+1):=by
  unfold mkK
  have hl:((L.take k).map f).length=k:=by simp;omega
  rw [List.set_append_right _ _ (by omega),hl,Nat.sub_self,List.take_succ_eq_append_getElem h,List.drop_eq_getElem_cons h,List.set_cons_zero,List.map_append]
  simp
theorem mkK_len (f:GRec->GRec) (L:List GRec) (k:Nat) (h:k<=L.length):(mkK f L k).length=L.length:=by
  unfold mkK
  simp
  omega
end Go.Sy
namespace Go.Sy
open Go.Proofs
mutual
def cntV:GVal->Nat
  | .mk _ _ _ _ l _ vs=>1+(cntL l+cntL vs)
def cntL:List GVal->Nat
  | []=>0
  | g::gs=>cntV g+cntL gs
end
theorem cntV_eq (g:GVal):cntV g=1+(cntL g.l+cntL g.vs):=by cases g;rw [cntV];rfl
theorem cntL_append:∀ a b:List GVal,cntL (a++b)=cntL a+cntL b
  | [],b=>by simp [cntL]
  | g::a,b=>by simp only [List.cons_append,cntL,cntL_append a b];omega
theorem cntL_take {gs:List GVal} {k:Nat} {g:GVal} (h:gs[k]?=some g):cntL (gs.take (k+1))=cntL (gs.take k)+cntV g:=by
  rw [List.take_add_one,h,cntL_append]
  simp [cntL]
mutual
theorem cntV_le:∀ g:GVal,cntV g<=g.weight
  | .mk k b n s l ks vs=>by
    simp only [cntV,GVal.weight]
    have:=cntL_le l
    have:=cntL_le vs
    omega
theorem cntL_le:∀ gs:List GVal,cntL gs<=GVal.weights gs
  | []=>by simp [cntL]
  | g::gs=>by
    simp only [cntL,GVal.weights]
    have:=cntV_le g
    have:=cntL_le gs
    omega
end
theorem cntL_take_le (gs:List GVal) (k:Nat):cntL (gs.take k)<=cntL gs:=by
  have:=cntL_append (gs.take k) (gs.drop k)
  rw [List.take_append_drop] at this
  omega
mutual
theorem shredV_cnt (gap:Int):∀ (g:GVal) (lv:Int) (nm:Bool) (name:ByteArray) (now:Int),g.wf->(shredV gap g lv nm name now).1.length=cntV g
  | .mk k b n s l ks vs,lv,nm,name,now,h=>by
    simp only [GVal.wf] at h
    simp only [shredV,List.length_cons,List.length_append,cntV,shredL_cnt gap l _ _ h.2.1,shredM_cnt gap vs ks _ _ h.1 h.2.2]
    omega
theorem shredL_cnt (gap:Int):∀ (gs:List GVal) (lv now:Int),GVal.wfs gs->(shredL gap gs lv now).1.length=cntL gs
  | [],lv,now,_=>by simp [shredL,cntL]
  | g::gs,lv,now,h=>by
    simp only [GVal.wfs] at h
    simp only [shredL,List.length_append,cntL,shredV_cnt gap g _ _ _ _ h.1,shredL_cnt gap gs _ _ h.2]
theorem shredM_cnt (gap:Int):∀ (gs:List GVal) (ks:List ByteArray) (lv now:Int),ks.length=gs.length->GVal.wfs gs->(shredM gap gs ks lv now).1.length=cntL gs
  | [],ks,lv,now,_,_=>by simp [shredM,cntL]
  | g::gs,[],lv,now,h,_=>by simp at h
  | g::gs,k::ks,lv,now,h,h'=>by
    simp only [GVal.wfs] at h'
    simp only [shredM,List.length_append,cntL,shredV_cnt gap g _ _ _ _ h'.1,shredM_cnt gap gs ks _ _ (by simpa using h) h'.2]
end
end Go.Sy
namespace Go.Sy
open Go.Proofs
def runL (en:Int):List GRec->Nat
  | []=>0
  | r::l=>if r.st<en then runL en l+1 else 0
def runK (L:List GRec) (en:Int) (k:Nat):Nat:=k+runL en (L.drop k)
theorem runL_le (en:Int):∀ l:List GRec,runL en l<=l.length
  | []=>Nat.le_refl _
  | r::l=>by
    have:=runL_le en l
    simp only [runL,List.length_cons]
    split<;>omega
theorem runK_le (L:List GRec) (en:Int) {k:Nat} (h:k<=L.length):runK L en k<=L.length:=by
  unfold runK
  have:=runL_le en (L.drop k)
  rw [List.length_drop] at this
  omega
theorem runK_ge (L:List GRec) (en:Int) (k:Nat):k<=runK L en k:=Nat.le_add_right _ _
theorem runK_end (L:List GRec) (en:Int):runK L en L.length=L.length:=by unfold runK;rw [List.drop_length];rfl
theorem runK_step (L:List GRec) (en:Int) {k:Nat} (h:k<L.length):runK L en k=if L[k].st<en then runK L en (k+1) else k:=by
  unfold runK
  rw [List.drop_eq_getElem_cons h,runL]
  split<;>omega
def kidsF (L:List GRec) (en:Int):Nat->Nat->List Nat
  | 0,_=>[]
  | n+1,k=>if h:k<L.length then (if L[k].st<en then k::kidsF L en n (runK L L[k].en (k+1)) else []) else []
def kidsG (L:List GRec) (i:Nat):List Nat:=kidsF L ((L[i]?.map GRec.en).getD 0) L.length (i+1)
set_option maxRecDepth 100000 in
set_option maxHeartbeats 1000000 in
theorem last_c (σ:Snap) (L:List GRec) (hL:L.length<=mostLen) (ao:Option Addr) (cap:Nat) (H:SlAt σ ao L.length cap 11 (recRows L)) (i:Nat) (hi:i<L.length) :
    PlainS Tryz.prog 150 [.a (.v (.slice ao L.length cap)),.a (.v (.int .i64 i))] σ (fun v=>v=.int .i64 ((runK L L[i].en (i+1):Nat) - 1)):=by
  simp only [mostLen] at hL
  have hrow:=recRows_get (List.getElem?_eq_getElem hi)
  generalize L[i]=x at *
  refine enter_p Tryz.func150 rfl rfl (by (repeat' (first | exact trivial | constructor))) fun w=>?_
  (repeat (first | refine cj_seq ?_ | refine cjr TT rfl ?_ | refine oj_then ?_ | refine cj_block ?_ | (refine oj_add rfl rfl rfl rfl rfl rfl (by omega) ?_;refine oj_run TT rfl ?_)))
  refine cj_loop (fun _=>σ) (fun (k:Nat)=>[(0,.a (.v (.slice ao L.length cap))),(1,.a (.v (.int .i64 i))),(5,.a (.v (.int .i64 (k:Int))))]) (fun _=>[]) (fun _=>[]) 0
    (fun k=>k<=L.length/\runK L x.en k=runK L x.en (i+1)) (fun k=>L.length - k) (i+1) ⟨hi,rfl⟩ rfl (by (repeat first | exact trivial | refine ⟨rfl,?_⟩)) (by (repeat first | exact trivial | refine ⟨rfl,?_⟩)) rfl (by (repeat' (first | exact trivial | constructor))) (by (repeat' exact trivial)) fun k ⟨hk,hp⟩=>?_
  (repeat refine cj_seq ?_)
  refine cj_draw [(0,.pure),(1,.pure),(2,.pure),(3,.pure),(4,.pure),(5,.pure),(6,.pure),(7,.pure),(8,.pure),(9,.quiet),(10,.pure),(11,.pure),(12,.pure),(13,.pure),(14,.quiet),(15,.pure),(16,.pure)] mixed (by kernel_rfl) (oj_run TT rfl ?_)
  refine oj_split 12 rfl (fun h=>?_) (fun h=>?_)
  rotate_left
  · have hk0:k=L.length:=by have:=of_decide_eq_false h;omega
    subst hk0
    rw [runK_end] at hp
    refine oj_run TT rfl ?_
    (repeat (first | refine cj_seq ?_ | refine cjr TT rfl ?_ | refine oj_then ?_ | refine cj_if_f rfl ?_ | refine cj_exit ?_ | refine cj_ret ?_ | refine nj_then ?_ | refine nj_then_exit ?_ | refine nj_block_out ?_ | (refine oj_minus rfl rfl rfl rfl rfl rfl (by omega) ?_;refine oj_run TT rfl ?_)))
    refine nj_ret TT rfl fun β w' _ _=>?_
    rw [<-hp]
    rfl
  have hkl:k<L.length:=by have:=of_decide_eq_true h;omega
  have hrow1:=recRows_get (List.getElem?_eq_getElem hkl)
  rw [runK_step L x.en hkl] at hp
  generalize L[k]=y at *
  refine oj_run TT rfl ?_
  refine oj_idx TT rfl rfl rfl rfl rfl rfl rfl rfl rfl H (by omega) hrow1 (oj_run TT rfl ?_)
  refine oj_idx TT rfl rfl rfl rfl rfl rfl rfl rfl rfl H (by omega) hrow (oj_run TT rfl ?_)
  (repeat refine oj_then ?_)
  refine cj_if rfl (fun h=>?_) (fun h=>?_)
  · rw [if_pos (of_decide_eq_true h)] at hp
    (repeat (first | refine cjr TT rfl ?_ | refine oj_nil ?_ | refine cj_skip ?_ | refine cj_block ?_ | refine nj_then ?_ | refine nj_block ?_ | (refine oj_add rfl rfl rfl rfl rfl rfl (by omega) ?_;refine oj_run TT rfl ?_)))
    refine nj_again (k+1) ⟨hkl,hp⟩ (by omega) rfl (by (repeat first | exact trivial | refine ⟨rfl,?_⟩)) (by (repeat first | exact trivial | refine ⟨rfl,?_⟩)) rfl (by (repeat' (first | exact trivial | constructor))) (by (repeat' exact trivial))
  · rw [if_neg (of_decide_eq_false h)] at hp
    (repeat (first | refine cj_seq ?_ | refine cjr TT rfl ?_ | refine oj_then ?_ | refine cj_exit ?_ | refine cj_ret ?_ | refine nj_then ?_ | refine nj_then_exit ?_ | refine nj_block_out ?_ | (refine oj_minus rfl rfl rfl rfl rfl rfl (by omega) ?_;refine oj_run TT rfl ?_)))
    refine nj_ret TT rfl fun β w' _ _=>?_
    rw [<-hp]
    rfl
def intVs' (o:List Nat):List Value:=o.map fun (k:Nat)=>Value.int .i64 k
def kidRows (o:List Nat):List (List AT):=o.map fun (k:Nat)=>[.v (.int .i64 k)]
def kdE (oo:Option Addr) (oc:Nat) (o:List Nat):AE:=⟨oo,o.length,oc,3,1,intVs' o⟩
theorem kidRows_flat:∀ o:List Nat,intVs' o=(kidRows o).flatten.map AT.val
  | []=>rfl
  | k::o=>by
    show Value.int .i64 k::intVs' o=_
    rw [kidRows_flat o]
    rfl
structure KdS where
  k:Nat
  n:Nat
  o:List Nat
  oo:Option Addr
  oc:Nat
theorem kd_sealed {σ:Snap} {oo:Option Addr} {oc:Nat} {o:List Nat} (h:ArrSealed σ (kdE oo oc o)) (hc:o.length<=oc):SlAt σ oo o.length oc 1 (kidRows o) :=
  h.sl (E:=kdE oo oc o) (kidRows_flat o) (fun r hr=>by
    obtain ⟨k,_,rfl⟩:=List.mem_map.1 hr
    exact ⟨rfl,fun c hc=>by cases hc with | head=>trivial | tail _ h=>cases h⟩) (by simp [kidRows]) rfl hc
set_option maxRecDepth 100000 in
set_option maxHeartbeats 1000000 in
theorem kids_c (σ:Snap) (L:List GRec) (hL:L.length<=100000) (ao:Option Addr) (cap:Nat) (H:SlAt σ ao L.length cap 11 (recRows L)) (i:Nat) (hi:i<L.length) :
    PureS Tryz.prog 196 [.a (.v (.slice ao L.length cap)),.a (.v (.int .i64 i))] σ (fun v σ'=>∃ oo oc,v=.slice oo (kidsG L i).length oc/\SlAt σ' oo (kidsG L i).length oc 1 (kidRows (kidsG L i))):=by
  have hrow:=recRows_get (List.getElem?_eq_getElem hi)
  have hG:kidsG L i=kidsF L L[i].en L.length (i+1):=by unfold kidsG;rw [List.getElem?_eq_getElem hi];rfl
  rw [hG]
  generalize L[i]=x at *
  refine enter_s Tryz.func196 rfl rfl (by (repeat' (first | exact trivial | constructor))) fun w=>?_
  (repeat (first | refine cj_seq ?_ | refine cjr TT rfl ?_ | refine oj_then ?_ | refine cj_block ?_ | (refine oj_add rfl rfl rfl rfl rfl rfl (by omega) ?_;refine oj_run TT rfl ?_)))
  refine cj_nilarr 3 1 ?_
  skip
  refine cj_loop (fun _=>σ) (fun (s:KdS)=>[(0,.a (.v (.slice ao L.length cap))),(1,.a (.v (.int .i64 i))),(5,.a (.v (.slice s.oo s.o.length s.oc))),(6,.a (.v (.int .i64 (s.k:Int))))]) (fun _=>[]) (fun s=>[kdE s.oo s.oc s.o]) 0
    (fun s=>s.k<=L.length/\L.length<s.k+s.n/\s.o++kidsF L x.en s.n s.k=kidsF L x.en L.length (i+1)/\s.o.length<=s.oc/\s.o.length<=s.k) (fun s=>L.length - s.k) ⟨i+1,L.length,[],none,0⟩ ⟨hi,by dsimp only;omega,rfl,Nat.le_refl _,Nat.zero_le _⟩ rfl (by (repeat first | exact trivial | refine ⟨rfl,?_⟩)) (by (repeat first | exact trivial | refine ⟨rfl,?_⟩)) rfl (by (repeat' (first | exact trivial | constructor))) (by (repeat' exact trivial)) fun ⟨k,n,o,oo,oc⟩ ⟨hk,hkn,hp,hoc,hok⟩=>?_
  dsimp only at hk hkn hp hoc hok ⊢
  obtain ⟨n,rfl⟩:∃ m,n=m+1:=⟨n - 1,by omega⟩
  (repeat refine cj_seq ?_)
  refine cj_draw [(0,.pure),(1,.pure),(2,.pure),(3,.pure),(4,.pure),(5,.pure),(6,.pure),(7,.pure),(8,.pure),(9,.quiet),(10,.pure),(11,.pure),(12,.pure),(13,.pure),(14,.quiet),(15,.pure),(16,.pure)] mixed (by kernel_rfl) (oj_run TT rfl ?_)
  have stop:∀ e:kidsF L x.en (n+1) k=[],o=kidsF L x.en L.length (i+1):=fun e=>by rw [e,List.append_nil] at hp;exact hp
  refine oj_split 13 rfl (fun h=>?_) (fun h=>?_)
  rotate_left
  · have hk0:¬ k<L.length:=by have:=of_decide_eq_false h;omega
    have e:=stop (by rw [kidsF,dif_neg hk0])
    refine oj_run TT rfl ?_
    (repeat (first | refine cj_seq ?_ | refine cjr TT rfl ?_ | refine oj_then ?_ | refine cj_if_f rfl ?_ | refine cj_exit ?_ | refine cj_ret ?_ | refine nj_then ?_ | refine nj_then_exit ?_ | refine nj_block_out ?_))
    refine nj_seal 0 rfl rfl fun σ' hle' hS=>?_
    refine nj_ret TT rfl fun β w' _ _=>?_
    rw [<-e]
    exact ⟨oo,oc,rfl,kd_sealed hS hoc⟩
  have hkl:k<L.length:=by have:=of_decide_eq_true h;omega
  have hrow1:=recRows_get (List.getElem?_eq_getElem hkl)
  have hlast:=last_c σ L (by simp only [mostLen];omega) ao cap H k hkl
  rw [kidsF,dif_pos hkl] at hp stop
  generalize L[k]=y at *
  refine oj_run TT rfl ?_
  refine oj_idx TT rfl rfl rfl rfl rfl rfl rfl rfl rfl H (by omega) hrow1 (oj_run TT rfl ?_)
  refine oj_idx TT rfl rfl rfl rfl rfl rfl rfl rfl rfl H (by omega) hrow (oj_run TT rfl ?_)
  (repeat refine oj_then ?_)
  refine cj_if rfl (fun h=>?_) (fun h=>?_)
  rotate_left
  · have e:=stop (if_neg (of_decide_eq_false h))
    (repeat (first | refine cj_seq ?_ | refine cjr TT rfl ?_ | refine oj_then ?_ | refine cj_exit ?_ | refine cj_ret ?_ | refine nj_then ?_ | refine nj_then_exit ?_ | refine nj_block_out ?_))
    refine nj_seal 0 rfl rfl fun σ' hle' hS=>?_
    refine nj_ret TT rfl fun β w' _ _=>?_
    rw [<-e]
    exact ⟨oo,oc,rfl,kd_sealed hS hoc⟩
  rw [if_pos (of_decide_eq_true h)] at hp
  have hr1:=runK_ge L y.en (k+1)
  have hr2:=runK_le L y.en (k:=k+1) hkl
  (repeat (first | refine cj_seq ?_ | refine cjr TT rfl ?_ | refine cj_skip ?_ | refine cj_block ?_ | refine nj_then ?_))
  refine oj_append_lit TT 0 rfl rfl rfl rfl rfl rfl rfl rfl rfl rfl rfl rfl rfl rfl rfl rfl rfl rfl (by (repeat' (first | exact trivial | refine AllLt.of ?_ | constructor))) rfl (by omega) (by show (o.length+1)*8<=_;omega) fun ao' cap' hcap'=>oj_run TT rfl ?_
  obtain ⟨q,hq⟩:∃ q,runK L y.en (k+1)=q+1:=⟨runK L y.en (k+1) - 1,by omega⟩
  rw [hq] at hlast hp hr1 hr2
  have hq':((q+1:Nat):Int) - 1=q:=by omega
  rw [hq'] at hlast
  (repeat (first | refine cjr TT rfl ?_ | refine oj_nil ?_ | refine nj_then ?_ | refine nj_block ?_))
  refine oj_callP rfl rfl rfl rfl rfl Tryz.call150 (by (repeat' (first | exact trivial | constructor))) hlast fun v hv=>⟨.a (.v (.int .i64 q)),trivial,hv.symm,?_⟩
  refine oj_run TT rfl ?_
  (repeat (first | refine oj_nil ?_ | (refine oj_add rfl rfl rfl rfl rfl rfl (by omega) ?_;refine oj_run TT rfl ?_)))
  refine nj_again ⟨q+1,n,o++[k],ao',cap'⟩ ⟨hr2,by dsimp only;omega,by dsimp only;rw [List.append_assoc];exact hp,by dsimp only;rw [List.length_append];exact hcap',by dsimp only;rw [List.length_append,List.length_singleton];omega⟩ (by dsimp only;omega) rfl ?_ (by (repeat first | exact trivial | refine ⟨rfl,?_⟩)) ?_ (by (repeat' (first | exact trivial | constructor))) (by (repeat' exact trivial))
  · refine ⟨rfl,rfl,?_,rfl,trivial⟩
    dsimp only
    rw [List.length_append]
    rfl
  · unfold kdE
    dsimp only
    rw [List.length_append]
    simp only [intVs',List.map_append]
    rfl
set_option maxRecDepth 100000 in
set_option maxHeartbeats 1000000 in
theorem Kids_c (σ:Snap) (L:List GRec) (R:RecsOk L) (ao:Option Addr) (cap:Nat) (H:SlAt σ ao L.length cap 11 (recRows L)) (i:Nat) (hi:i<L.length) (hs:soundG L=true) (hL:L.length<=100000) :
    PureS Tryz.prog 137 [.a (.v (.slice ao L.length cap)),.a (.v (.int .i64 i))] σ (fun v σ'=>∃ oo oc,v=.slice oo (kidsG L i).length oc/\SlAt σ' oo (kidsG L i).length oc 1 (kidRows (kidsG L i))):=by
  have hat:atG L i=true:=by
    unfold atG
    rw [hs]
    simp
    omega
  refine enter_s Tryz.func137 rfl rfl (by (repeat' (first | exact trivial | constructor))) fun w=>?_
  (repeat (first | refine cj_seq ?_ | refine cjr TT rfl ?_ | refine oj_then ?_))
  refine oj_callP rfl rfl rfl rfl rfl Tryz.call149 (by (repeat' (first | exact trivial | constructor))) (at_c σ L R ao cap H i) fun v hv=>⟨.a .tt,trivial,by rw [hv,hat];rfl,?_⟩
  refine oj_run TT rfl ?_
  (repeat (first | refine cj_seq ?_ | refine cjr TT rfl ?_ | refine oj_then ?_ | refine cj_if_f rfl ?_ | refine cj_skip ?_ | refine nj_then ?_))
  refine oj_callS rfl rfl rfl rfl rfl Tryz.call196 ⟨trivial,trivial,trivial⟩ (kids_c σ L hL ao cap H i hi) fun v σ1 hle ⟨oo,oc,hv,hS⟩=>⟨.a (.v (.slice oo (kidsG L i).length oc)),trivial,hv.symm,?_⟩
  refine oj_run TT rfl ?_
  (repeat (first | refine oj_then ?_ | refine cj_ret ?_))
  refine nj_ret TT rfl fun β w' _ _=>?_
  exact ⟨oo,oc,rfl,hS⟩
end Go.Sy
