/- Parts of the proof of CEditsAre: F77, F78, F79, F80, G1, G2. No conditions. -/
import Derived.Test.YtadnijcgohflhaaGreatDoorM11
namespace Go.Sy
open Go.Proofs
structure RbS where
  σ:Snap
  m:Nat
  k:Nat
  ls:List GVal
  lr:List (List AT)
  la:Option Addr
  lc:Nat
  ks:List ByteArray
  vs:List GVal
  vr:List (List AT)
  ma:Option Addr
  mc:Nat
def rbCells (r:GRec) (s:RbS):List AT:=[.v (.int .i64 r.kd),.b r.b,.b r.n.neg,.v (.string r.n.dg),.v (.int .i64 r.n.ex),.v (.string r.s),.v (.slice s.la s.ls.length s.lc),.v (.slice s.ma s.ks.length s.mc)]
def rbA (s:RbS):List AE:=[⟨s.la,s.ls.length,s.lc,28,8,s.lr.flatten.map AT.val⟩,⟨s.ma,s.ks.length,s.mc,184,9,(keyRows s.ks s.vr).flatten.map AT.val⟩]
set_option maxRecDepth 100000 in
set_option maxHeartbeats 4000000 in
theorem rbuild_c (L:List GRec) (hF:RecsFit L) (hL:L.length<=100000) (ao:Option Addr) (cap:Nat):∀ (n:Nat) (σ:Snap) (k:Nat),SlAt σ ao L.length cap 11 (recRows L)->k<L.length->2*(L.drop k).length<=n ->
    PureS Tryz.prog 154 [.a (.v (.slice ao L.length cap)),.a (.v (.int .i64 k))] σ (fun v σ'=>∃ r k',v=(SV.tup [.agg r,.a (.v (.int .i64 (k':Nat)))]).den β0/\RepV σ' (buildN n (L.drop k)).1 r/\L.drop k'=(buildN n (L.drop k)).2/\k<k'/\k'<=L.length):=by
  intro n
  induction n using Nat.strongRecOn with | _ n ih=>?_
  intro σ k H hk hn
  have hdl:(L.drop k).length=L.length - k:=List.length_drop
  obtain ⟨n,rfl⟩:∃ m,n=m+1:=⟨n - 1,by omega⟩
  have hdc:L.drop k=L[k]::L.drop (k+1):=List.drop_eq_getElem_cons hk
  have hrow:(recRows L)[k]?=some (recCells L[k]):=recRows_get (List.getElem?_eq_getElem hk)
  have hfit:=hF _ (List.getElem_mem hk)
  have hcap:=H.ncap
  rw [hdc,buildN]
  generalize hx:L[k]=x at *
  dsimp only
  refine enter_s Tryz.func154 rfl rfl (by (repeat' (first | exact trivial | constructor))) fun w=>?_
  (repeat (first | refine cj_seq ?_ | refine cjr TT rfl ?_ | refine oj_then ?_))
  refine oj_idx TT rfl rfl rfl rfl rfl rfl rfl rfl rfl H (by omega) hrow (oj_run TT rfl ?_)
  (repeat (first | refine cj_seq ?_ | refine cjr TT rfl ?_ | refine oj_then ?_ | refine cj_block ?_ | (refine oj_add rfl rfl rfl rfl rfl rfl (by omega) ?_;refine oj_run TT rfl ?_)))
  refine cj_nilarr 28 8 (cj_nilarr 184 9 ?_)
  refine cj_cutB (fun (s:RbS)=>s.σ) (fun s=>[(7,.a (.p 3 0)),(8,.a (.v (.int .i64 s.k))),(4,.a (.p 0 0))])
    (fun s=>[(0,.loc 28,zeroV),(3,.loc 28,rbCells x s)]) rbA 4
    (fun s=>σ.le s.σ/\s.ls=(kidsN n x.lv (L.drop (k+1))).ls/\s.ks=(kidsN n x.lv (L.drop (k+1))).ks/\s.vs=(kidsN n x.lv (L.drop (k+1))).vs/\L.drop s.k=(kidsN n x.lv (L.drop (k+1))).rest /\
      RepL s.σ s.ls s.lr/\RepL s.σ s.vs s.vr/\s.ks.length=s.vs.length/\k<s.k/\s.k<=L.length/\s.ls.length+s.ks.length<=L.length/\(∀ y∈s.ks,y.size<=mostLen)/\s.ls.length<=s.lc/\s.ks.length<=s.mc) ?_
    (fun s ⟨hs,e1,e2,e3,e4,hR1,hR2,hkv,hk1,hk2,hlen,hky,hc1,hc2⟩=>?_)
  · refine cj_loop (fun (s:RbS)=>s.σ) (fun s=>[(0,.a (.v (.slice ao L.length cap))),(6,.a (.p 2 0)),(7,.a (.p 3 0)),(8,.a (.v (.int .i64 s.k))),(4,.a (.p 0 0))])
      (fun s=>[(0,.loc 28,zeroV),(2,.loc 131,recCells x),(3,.loc 28,rbCells x s)]) rbA 4
      (fun s=>σ.le s.σ/\s.ls++(kidsN s.m x.lv (L.drop s.k)).ls=(kidsN n x.lv (L.drop (k+1))).ls/\s.ks++(kidsN s.m x.lv (L.drop s.k)).ks=(kidsN n x.lv (L.drop (k+1))).ks/\s.vs++(kidsN s.m x.lv (L.drop s.k)).vs=(kidsN n x.lv (L.drop (k+1))).vs /\
        (kidsN s.m x.lv (L.drop s.k)).rest=(kidsN n x.lv (L.drop (k+1))).rest/\s.m<=n/\2*(L.drop s.k).length+1<=s.m /\
        RepL s.σ s.ls s.lr/\RepL s.σ s.vs s.vr/\s.ks.length=s.vs.length/\k<s.k/\s.k<=L.length/\s.ls.length+s.ks.length+(L.length - s.k)<=L.length/\(∀ y∈s.ks,y.size<=mostLen)/\s.ls.length<=s.lc/\s.ks.length<=s.mc)
      (fun s=>L.length - s.k) ⟨σ,n,k+1,[],[],none,0,[],[],[],none,0⟩ ⟨Snap.le_refl _,rfl,rfl,rfl,rfl,Nat.le_refl _,by dsimp only;rw [List.length_drop];omega,rfl,rfl,rfl,by dsimp only;omega,by dsimp only;omega,by dsimp only [List.length_nil];omega,fun y h=>(by cases h),Nat.le_refl _,Nat.le_refl _⟩
      rfl (by (repeat first | exact trivial | refine ⟨rfl,?_⟩)) (by (repeat first | exact trivial | refine ⟨rfl,?_⟩)) rfl (by (repeat' (first | exact trivial | exact Nat.le_of_ble_eq_true rfl | constructor))) (by (repeat' (first | exact trivial | exact Nat.le_of_ble_eq_true rfl | refine AllLt.of ?_ | constructor))) fun ⟨s,m,k1,ls,lr,la,lc,ks,vs,vr,ma,mc⟩ ⟨hs,e1,e2,e3,e4,hm,hm2,hR1,hR2,hkv,hk1,hk2,hlen,hky,hc1,hc2⟩=>?_
    dsimp only at hs e1 e2 e3 e4 hm hm2 hR1 hR2 hkv hk1 hk2 hlen hky hc1 hc2 ⊢
    obtain ⟨m,rfl⟩:∃ m',m=m'+1:=⟨m - 1,by omega⟩
    (repeat refine cj_seq ?_)
    refine cj_draw [(0,.pure),(1,.pure),(2,.pure),(3,.pure),(4,.pure),(5,.pure),(6,.pure),(7,.pure),(8,.pure),(9,.quiet),(10,.pure),(11,.quiet),(12,.pure),(13,.pure)] mixed (by kernel_rfl) (oj_run TT rfl ?_)
    refine oj_split 30 rfl (fun h=>?_) (fun h=>?_)
    rotate_left
    · have hk0:k1=L.length:=by have:=of_decide_eq_false h;omega
      subst hk0
      rw [List.drop_length,kidsN] at e1 e2 e3 e4
      simp only [List.append_nil] at e1 e2 e3
      refine oj_run TT rfl ?_
      (repeat (first | refine oj_then ?_ | refine cj_if_f rfl ?_ | refine cj_exit ?_ | refine nj_then_exit ?_ | refine nj_block_out ?_))
      refine nj_again ⟨s,m,L.length,ls,lr,la,lc,ks,vs,vr,ma,mc⟩ ⟨hs,e1,e2,e3,by dsimp only;rw [List.drop_length];exact e4,hR1,hR2,hkv,hk1,hk2,by dsimp only;omega,hky,hc1,hc2⟩ Nat.zero_lt_one rfl (by (repeat first | exact trivial | refine ⟨rfl,?_⟩)) (by (repeat first | exact trivial | refine ⟨rfl,?_⟩)) rfl (by (repeat' (first | exact trivial | exact Nat.le_of_ble_eq_true rfl | constructor))) (by (repeat' (first | exact trivial | exact Nat.le_of_ble_eq_true rfl | refine AllLt.of ?_ | constructor)))
    have hkl:k1<L.length:=by have:=of_decide_eq_true h;omega
    have hd1:L.drop k1=L[k1]::L.drop (k1+1):=List.drop_eq_getElem_cons hkl
    have hrow1:(recRows L)[k1]?=some (recCells L[k1]):=recRows_get (List.getElem?_eq_getElem hkl)
    have hfit1:=hF _ (List.getElem_mem hkl)
    generalize hy:L[k1]=y at *
    rw [hd1,kidsN] at e1 e2 e3 e4
    refine oj_run TT rfl ?_
    refine oj_idx TT rfl rfl rfl rfl rfl rfl rfl rfl rfl (H.mono hs) (by omega) hrow1 (oj_run TT rfl ?_)
    (repeat refine oj_then ?_)
    refine cj_if rfl (fun h=>?_) (fun h=>?_)
    rotate_left
    · have hlv:¬ x.lv<y.lv:=of_decide_eq_false h
      simp only [if_neg hlv,List.append_nil] at e1 e2 e3 e4
      (repeat (first | refine cj_exit ?_ | refine nj_then_exit ?_ | refine nj_block_out ?_))
      refine nj_again ⟨s,m,k1,ls,lr,la,lc,ks,vs,vr,ma,mc⟩ ⟨hs,e1,e2,e3,by dsimp only;rw [hd1];exact e4,hR1,hR2,hkv,hk1,hk2,by dsimp only;omega,hky,hc1,hc2⟩ Nat.zero_lt_one rfl (by (repeat first | exact trivial | refine ⟨rfl,?_⟩)) (by (repeat first | exact trivial | refine ⟨rfl,?_⟩)) rfl (by (repeat' (first | exact trivial | exact Nat.le_of_ble_eq_true rfl | constructor))) (by (repeat' (first | exact trivial | exact Nat.le_of_ble_eq_true rfl | refine AllLt.of ?_ | constructor)))
    have hlv:x.lv<y.lv:=of_decide_eq_true h
    rw [if_pos hlv] at e1 e2 e3 e4
    (repeat (first | refine cj_seq ?_ | refine cjr TT rfl ?_ | refine cj_skip ?_ | refine cj_block ?_ | refine nj_then ?_))
    have hdl1:(L.drop k1).length=L.length - k1:=List.length_drop
    refine oj_callS rfl rfl rfl rfl rfl Tryz.call154 ⟨trivial,trivial,trivial⟩ (ih m (by omega) s k1 (H.mono hs) hkl (by omega)) fun v σ2 hle2 ⟨rr,k2,hv,hrep,hrest,hk12,hk2L⟩=>⟨.tup [.agg rr,.a (.v (.int .i64 k2))],SV.lt_tup ⟨hrep.clo,trivial,trivial⟩,hv.symm,?_⟩
    rw [hd1] at hrep hrest
    rw [<-hrest] at e1 e2 e3 e4
    generalize (buildN m (y::L.drop (k1+1))).1=gx at *
    obtain ⟨xla,xlc,xlrows,xma,xmc,xvrows,rfl,XV⟩:=hrep.open
    have hdl2:(L.drop k2).length=L.length - k2:=List.length_drop
    have hs2:=Snap.le_trans hs hle2
    have hR1':=hR1.mono hle2
    have hR2':=hR2.mono hle2
    have hlr:=hR1.len
    have hvr:=hR2.len
    refine oj_run TT rfl ?_
    (repeat (first | refine cj_seq ?_ | refine cjr TT rfl ?_ | refine oj_then ?_))
    refine oj_idx TT rfl rfl rfl rfl rfl rfl rfl rfl rfl (H.mono hs2) (by omega) hrow1 (oj_run TT rfl ?_)
    (repeat refine oj_then ?_)
    refine cj_if rfl (fun h=>?_) (fun h=>?_)
    · simp only [if_pos (show y.nm=true from h)] at e1 e2 e3 e4
      skip
      refine cj_draw [(0,.pure),(1,.quiet),(2,.pure),(3,.pure),(4,.pure),(5,.pure),(6,.quiet),(7,.quiet),(8,.pure),(9,.keep),(10,.sink),(11,.pure),(12,.sink)] mixed (by kernel_rfl) (oj_run TT rfl ?_)
      refine oj_idx TT rfl rfl rfl rfl rfl rfl rfl rfl rfl (H.mono hs2) (by omega) hrow1 (oj_run TT rfl ?_)
      refine oj_append_lit TT 1 rfl rfl rfl rfl rfl rfl rfl rfl rfl rfl rfl rfl rfl rfl rfl rfl rfl rfl (by (repeat' (first | exact trivial | refine AllLt.of ?_ | constructor))) rfl (by omega) (by show (ks.length+1)*128<=_;omega) fun ao' cap' hcap'=>oj_run TT rfl ?_
      (repeat (first | refine cjr TT rfl ?_ | refine oj_then ?_ | refine oj_nil ?_ | refine nj_block ?_))
      refine nj_again ⟨σ2,m,k2,ls,lr,la,lc,ks++[y.name],vs++[gx],vr++[vCells gx xla xlc xma xmc],ao',cap'⟩
        ⟨hs2,e1,by rw [List.append_assoc];exact e2,by rw [List.append_assoc];exact e3,e4,by dsimp only;omega,by dsimp only;omega,hR1',RepL.append hR2' ⟨_,_,rfl,hrep,rfl⟩,by simp [hkv],by dsimp only;omega,hk2L,by dsimp only;rw [List.length_append,List.length_singleton];omega,
          fun z hz=>by
            rcases List.mem_append.1 hz with hz | hz
            · exact hky z hz
            · rw [List.mem_singleton.1 hz];exact hfit1.2.2,hc1,by dsimp only;rw [List.length_append];exact hcap'⟩ (by dsimp only;omega) rfl (by (repeat first | exact trivial | refine ⟨rfl,?_⟩)) ?_ ?_ (by (repeat' (first | exact trivial | exact Nat.le_of_ble_eq_true rfl | constructor))) (by (repeat' (first | exact trivial | exact Nat.le_of_ble_eq_true rfl | refine AllLt.of ?_ | constructor)))
      · refine ⟨rfl,rfl,?_,trivial⟩
        show some _=some _
        unfold rbCells
        rw [List.length_append]
        rfl
      · unfold rbA
        dsimp only
        rw [keyRows_snoc _ _ _ _ (by omega),List.length_append]
        simp only [List.flatten_append,List.map_append,List.flatten_cons,List.flatten_nil,List.append_nil]
        rfl
    · simp only [if_neg (show ¬ y.nm=true by simp [show y.nm=false from h])] at e1 e2 e3 e4
      (repeat refine cjr TT rfl ?_)
      refine oj_append_lit TT 0 rfl rfl rfl rfl rfl rfl rfl rfl rfl rfl rfl rfl rfl rfl rfl rfl rfl rfl (by (repeat' exact vCells_lt _ _ _ _ _ _)) rfl (by omega) (by show (ls.length+1)*112<=_;omega) fun ao' cap' hcap'=>oj_run TT rfl ?_
      (repeat (first | refine cjr TT rfl ?_ | refine oj_then ?_ | refine oj_nil ?_ | refine nj_block ?_))
      refine nj_again ⟨σ2,m,k2,ls++[gx],lr++[vCells gx xla xlc xma xmc],ao',cap',ks,vs,vr,ma,mc⟩
        ⟨hs2,by rw [List.append_assoc];exact e1,e2,e3,e4,by dsimp only;omega,by dsimp only;omega,RepL.append hR1' ⟨_,_,rfl,hrep,rfl⟩,hR2',hkv,by dsimp only;omega,hk2L,by dsimp only;rw [List.length_append,List.length_singleton];omega,
          hky,by dsimp only;rw [List.length_append];exact hcap',hc2⟩ (by dsimp only;omega) rfl (by (repeat first | exact trivial | refine ⟨rfl,?_⟩)) ?_ ?_ (by (repeat' (first | exact trivial | exact Nat.le_of_ble_eq_true rfl | constructor))) (by (repeat' (first | exact trivial | exact Nat.le_of_ble_eq_true rfl | refine AllLt.of ?_ | constructor)))
      · refine ⟨rfl,rfl,?_,trivial⟩
        show some _=some _
        unfold rbCells
        rw [List.length_append]
        rfl
      · unfold rbA
        dsimp only
        rw [List.length_append]
        simp only [List.flatten_append,List.map_append,List.flatten_cons,List.flatten_nil,List.append_nil]
        rfl
  obtain ⟨s,m,k1,ls,lr,la,lc,ks,vs,vr,ma,mc⟩:=s
  dsimp only at hs e1 e2 e3 e4 hR1 hR2 hkv hk1 hk2 hlen hky hc1 hc2 ⊢
  rw [<-e1,<-e2,<-e3,<-e4]
  clear e1 e2 e3 e4
  have hlr:=hR1.len
  have hvr:=hR2.len
  (repeat (first | refine cj_seq ?_ | refine cjr TT rfl ?_ | refine oj_then ?_ | refine cj_ret ?_))
  refine nj_seal 0 rfl rfl fun σ1 hle1 hS1=>?_
  refine nj_seal 0 rfl rfl fun σ2 hle2 hS2=>?_
  refine nj_ret TT rfl fun β w' _ _=>?_
  have S1:=(hS1.sl (rows:=lr) (sz:=8) rfl (fun r hr=>⟨(hR1.rows r hr).1,(hR1.rows r hr).2.1⟩) hlr rfl hc1).mono hle2
  have S2:=hS2.sl (rows:=keyRows ks vr) (sz:=9) (n:=ks.length) rfl (fun r hr=>?_) (keyRows_len (by omega)) rfl hc2
  · refine ⟨rbCells x ⟨s,m,k1,ls,lr,la,lc,ks,vs,vr,ma,mc⟩,k1,rfl,?_,rfl,hk1,hk2⟩
    simp only [RepV]
    exact ⟨la,lc,lr,ma,mc,vr,rfl,S1,(hR1.mono hle1).mono hle2,hkv,S2,(hR2.mono hle1).mono hle2,hfit.1,hfit.2.1,by simp only [mostLen];omega,by simp only [mostLen];omega,hky⟩
  · obtain ⟨j,hj⟩:=List.getElem?_of_mem hr
    have hjl:=(List.getElem?_eq_some_iff.1 hj).1
    rw [keyRows_len (by omega)] at hjl
    have hg:=keyRows_get (List.getElem?_eq_getElem hjl) (List.getElem?_eq_getElem (l:=vr) (i:=j) (by omega))
    rw [hg] at hj
    injection hj with hj
    subst hj
    have:=hR2.rows _ (List.getElem_mem (l:=vr) (n:=j) (by omega))
    exact ⟨by simp [keyRow,this.1],keyRow_lt this.2.1⟩
end Go.Sy
namespace Go.Sy
open Go.Proofs
mutual
theorem ordN_rest:∀ (n:Nat) (l:List GRec),2*l.length<=n->0<l.length->(ordN n l).2.length<l.length/\(ordN n l).1.length+2*(ordN n l).2.length=2*l.length
  | 0,l,h,h0=>by omega
  | n+1,[],h,h0=>by simp at h0
  | n+1,r::l,h,h0=>by
    rw [List.length_cons] at h
    have:=ordK_rest n r.lv l (by omega)
    simp only [ordN,List.length_cons,List.length_append,List.length_nil]
    omega
theorem ordK_rest:∀ (n:Nat) (lv:Int) (l:List GRec),2*l.length+1<=n->(ordK n lv l).2.length<=l.length/\(ordK n lv l).1.length+2*(ordK n lv l).2.length=2*l.length
  | 0,_,l,h=>by omega
  | n+1,_,[],h=>by simp [ordK]
  | n+1,lv,k::l,h=>by
    rw [List.length_cons] at h
    rw [ordK]
    split
    · have h1:=ordN_rest n (k::l) (by rw [List.length_cons];omega) (by simp)
      rw [List.length_cons] at h1
      have h2:=ordK_rest n lv (ordN n (k::l)).2 (by omega)
      simp only [List.length_cons,List.length_append]
      omega
    · simp
end
structure RnmS where
  σ:Snap
  m:Nat
  k:Nat
  o:List Int
  oo:Option Addr
  oc:Nat
theorem idRows_all (l:List Int):∀ r∈idRows l,r.all AT.one=true:=by
  intro r hr
  obtain ⟨x,_,rfl⟩:=List.mem_map.1 hr
  rfl
set_option maxRecDepth 100000 in
set_option maxHeartbeats 4000000 in
theorem numbers_c (L:List GRec) (hL:L.length<=100000) (ao:Option Addr) (cap:Nat):∀ (n:Nat) (σ:Snap) (k:Nat),SlAt σ ao L.length cap 11 (recRows L)->k<L.length->2*(L.drop k).length<=n ->
    PureS Tryz.prog 203 [.a (.v (.slice ao L.length cap)),.a (.v (.int .i64 k))] σ (fun v σ'=>∃ oo oc k',v=(SV.tup [.a (.v (.slice oo (ordN n (L.drop k)).1.length oc)),.a (.v (.int .i64 (k':Nat)))]).den β0/\SlAt σ' oo (ordN n (L.drop k)).1.length oc 1 (idRows (ordN n (L.drop k)).1)/\L.drop k'=(ordN n (L.drop k)).2/\k<k'/\k'<=L.length):=by
  intro n
  induction n using Nat.strongRecOn with | _ n ih=>?_
  intro σ k H hk hn
  have hdl:(L.drop k).length=L.length - k:=List.length_drop
  have hbd:=(ordN_rest n (L.drop k) hn (by omega)).2
  obtain ⟨n,rfl⟩:∃ m,n=m+1:=⟨n - 1,by omega⟩
  have hdc:L.drop k=L[k]::L.drop (k+1):=List.drop_eq_getElem_cons hk
  have hrow:(recRows L)[k]?=some (recCells L[k]):=recRows_get (List.getElem?_eq_getElem hk)
  rw [hdc,ordN] at hbd ⊢
  generalize hx:L[k]=x at *
  dsimp only at hbd ⊢
  refine enter_s Tryz.func203 rfl rfl (by (repeat' (first | exact trivial | constructor))) fun w=>?_
  (repeat (first | refine cj_seq ?_ | refine cjr TT rfl ?_ | refine oj_then ?_))
  refine oj_idx TT rfl rfl rfl rfl rfl rfl rfl rfl rfl H (by omega) hrow (oj_run TT rfl ?_)
  (repeat (first | refine cj_seq ?_ | refine cjr TT rfl ?_ | refine oj_then ?_ | refine cj_block ?_ | (refine oj_add rfl rfl rfl rfl rfl rfl (by omega) ?_;refine oj_run TT rfl ?_)))
  refine cj_own 1 1 1 rfl (by (repeat' (first | exact trivial | refine AllLt.of ?_ | constructor))) rfl (by decide) fun g0=>?_
  skip
  refine cj_cutB (fun (s:RnmS)=>s.σ) (fun s=>[(0,.a (.v (.slice ao L.length cap))),(1,.a (.v (.int .i64 k))),(6,.a (.v (.slice s.oo s.o.length s.oc))),(7,.a (.v (.int .i64 s.k)))])
    (fun _=>[]) (fun s=>[idE s.oo s.oc s.o]) 0
    (fun s=>σ.le s.σ/\s.o=x.st::(ordK n x.lv (L.drop (k+1))).1/\L.drop s.k=(ordK n x.lv (L.drop (k+1))).2/\k<s.k/\s.k<=L.length/\s.o.length<=s.oc) ?_
    (fun s ⟨hs,e1,e2,hk1,hk2,hoc⟩=>?_)
  · refine cj_loop (fun (s:RnmS)=>s.σ) (fun s=>[(0,.a (.v (.slice ao L.length cap))),(1,.a (.v (.int .i64 k))),(6,.a (.v (.slice s.oo s.o.length s.oc))),(7,.a (.v (.int .i64 s.k)))])
      (fun _=>[]) (fun s=>[idE s.oo s.oc s.o]) 0
      (fun s=>σ.le s.σ/\s.o++(ordK s.m x.lv (L.drop s.k)).1=x.st::(ordK n x.lv (L.drop (k+1))).1/\(ordK s.m x.lv (L.drop s.k)).2=(ordK n x.lv (L.drop (k+1))).2/\s.m<=n/\2*(L.drop s.k).length+1<=s.m/\k<s.k/\s.k<=L.length/\s.o.length<=s.oc/\s.o.length<=2*L.length)
      (fun s=>L.length - s.k) ⟨σ,n,k+1,[x.st],some ⟨g0,0,none⟩,1⟩ ⟨Snap.le_refl _,rfl,rfl,Nat.le_refl _,by dsimp only;rw [List.length_drop];omega,by dsimp only;omega,by dsimp only;omega,Nat.le_refl _,by show (1:Nat)<=2*L.length;omega⟩
      rfl (by (repeat first | exact trivial | refine ⟨rfl,?_⟩)) (by (repeat first | exact trivial | refine ⟨rfl,?_⟩)) rfl (by (repeat' (first | exact trivial | constructor))) (by (repeat' exact trivial)) fun ⟨s,m,k1,o,oo,oc⟩ ⟨hs,e1,e2,hm,hm2,hk1,hk2,hoc,hol⟩=>?_
    dsimp only at hs e1 e2 hm hm2 hk1 hk2 hoc hol ⊢
    obtain ⟨m,rfl⟩:∃ m',m=m'+1:=⟨m - 1,by omega⟩
    (repeat refine cj_seq ?_)
    refine cj_draw [(0,.pure),(1,.pure),(2,.pure),(3,.pure),(4,.pure),(5,.pure),(6,.pure),(7,.pure),(8,.pure),(9,.quiet),(10,.pure),(11,.pure),(12,.pure),(13,.pure),(14,.quiet),(15,.pure),(16,.pure)] mixed (by kernel_rfl) (oj_run TT rfl ?_)
    refine oj_split 22 rfl (fun h=>?_) (fun h=>?_)
    rotate_left
    · have hk0:k1=L.length:=by have:=of_decide_eq_false h;omega
      subst hk0
      rw [List.drop_length,ordK] at e1 e2
      simp only [List.append_nil] at e1
      refine oj_run TT rfl ?_
      (repeat (first | refine oj_then ?_ | refine cj_if_f rfl ?_ | refine cj_exit ?_ | refine nj_then_exit ?_ | refine nj_block_out ?_))
      refine nj_again ⟨s,m,L.length,o,oo,oc⟩ ⟨hs,e1,by dsimp only;rw [List.drop_length];exact e2,hk1,hk2,hoc⟩ Nat.zero_lt_one rfl (by (repeat first | exact trivial | refine ⟨rfl,?_⟩)) (by (repeat first | exact trivial | refine ⟨rfl,?_⟩)) rfl (by (repeat' (first | exact trivial | constructor))) (by (repeat' exact trivial))
    have hkl:k1<L.length:=by have:=of_decide_eq_true h;omega
    have hd1:L.drop k1=L[k1]::L.drop (k1+1):=List.drop_eq_getElem_cons hkl
    have hrow1:(recRows L)[k1]?=some (recCells L[k1]):=recRows_get (List.getElem?_eq_getElem hkl)
    generalize hy:L[k1]=y at *
    rw [hd1,ordK] at e1 e2
    refine oj_run TT rfl ?_
    refine oj_idx TT rfl rfl rfl rfl rfl rfl rfl rfl rfl (H.mono hs) (by omega) hrow1 (oj_run TT rfl ?_)
    refine oj_idx TT rfl rfl rfl rfl rfl rfl rfl rfl rfl (H.mono hs) (by omega) hrow (oj_run TT rfl ?_)
    (repeat refine oj_then ?_)
    refine cj_if rfl (fun h=>?_) (fun h=>?_)
    rotate_left
    · have hlv:¬ x.lv<y.lv:=of_decide_eq_false h
      simp only [if_neg hlv,List.append_nil] at e1 e2
      (repeat (first | refine cj_exit ?_ | refine nj_then_exit ?_ | refine nj_block_out ?_))
      refine nj_again ⟨s,m,k1,o,oo,oc⟩ ⟨hs,e1,by dsimp only;rw [hd1];exact e2,hk1,hk2,hoc⟩ Nat.zero_lt_one rfl (by (repeat first | exact trivial | refine ⟨rfl,?_⟩)) (by (repeat first | exact trivial | refine ⟨rfl,?_⟩)) rfl (by (repeat' (first | exact trivial | constructor))) (by (repeat' exact trivial))
    have hlv:x.lv<y.lv:=of_decide_eq_true h
    rw [if_pos hlv] at e1 e2
    (repeat (first | refine cj_seq ?_ | refine cjr TT rfl ?_ | refine cj_skip ?_ | refine cj_block ?_ | refine nj_then ?_))
    have hdl1:(L.drop k1).length=L.length - k1:=List.length_drop
    have hnb:=ordN_rest m (L.drop k1) (by omega) (by omega)
    have hkb:=ordK_rest m x.lv (ordN m (L.drop k1)).2 (by omega)
    have hlo:=congrArg List.length e1
    rw [<-hd1] at e1 e2 hlo
    simp only [List.length_append,List.length_cons,List.length_nil,List.length_drop] at hlo hbd hnb
    refine oj_callS rfl rfl rfl rfl rfl Tryz.call203 ⟨trivial,trivial,trivial⟩ (ih m (by omega) s k1 (H.mono hs) hkl (by omega)) fun v σ2 hle2 ⟨qo,qc,k2,hv,HQ,hrest,hk12,hk2L⟩=>⟨.tup [.a (.v (.slice qo (ordN m (L.drop k1)).1.length qc)),.a (.v (.int .i64 k2))],(by (repeat' (first | exact trivial | refine SV.lt_tup ?_ | constructor))),hv.symm,?_⟩
    rw [<-hrest] at e1 e2 hnb
    generalize (ordN m (L.drop k1)).1=q at *
    have hdl2:(L.drop k2).length=L.length - k2:=List.length_drop
    have hs2:=Snap.le_trans hs hle2
    refine oj_run TT rfl ?_
    (repeat (first | refine cj_seq ?_ | refine cjr TT rfl ?_ | refine oj_then ?_))
    refine oj_append_sl TT 0 rfl rfl rfl rfl rfl rfl rfl HQ rfl rfl rfl rfl rfl rfl rfl rfl rfl (idRows_all q) (by omega) (by show (o.length+q.length)*8<=_;omega) fun ao' cap' hcap'=>oj_run TT rfl ?_
    (repeat (first | refine cjr TT rfl ?_ | refine oj_then ?_ | refine oj_nil ?_ | refine nj_block ?_))
    refine nj_again ⟨σ2,m,k2,o++q,ao',cap'⟩
      ⟨hs2,by rw [List.append_assoc];exact e1,e2,by dsimp only;omega,by dsimp only;omega,by dsimp only;omega,hk2L,by dsimp only;rw [List.length_append];exact hcap',by dsimp only;rw [List.length_append];omega⟩ (by dsimp only;omega) rfl ?_ (by (repeat first | exact trivial | refine ⟨rfl,?_⟩)) ?_ (by (repeat' (first | exact trivial | constructor))) (by (repeat' exact trivial))
    · dsimp only
      rw [List.length_append]
      (repeat first | exact trivial | refine ⟨rfl,?_⟩)
    · unfold idE
      dsimp only
      rw [List.length_append,<-idRows_flat]
      unfold idXs
      rw [List.map_append]
      rfl
  obtain ⟨s,m,k1,o,oo,oc⟩:=s
  dsimp only at hs e1 e2 hk1 hk2 hoc ⊢
  have hol:=congrArg List.length e1
  simp only [List.length_append,List.length_cons,List.length_nil,List.length_drop] at hol hbd
  have e3:x.st::((ordK n x.lv (L.drop (k+1))).1++[x.en])=o++[x.en]:=by rw [e1];rfl
  rw [e3,<-e2]
  (repeat (first | refine cj_seq ?_ | refine cjr TT rfl ?_))
  refine oj_idx TT rfl rfl rfl rfl rfl rfl rfl rfl rfl (H.mono hs) (by omega) hrow (oj_run TT rfl ?_)
  refine oj_append_lit TT 0 rfl rfl rfl rfl rfl rfl rfl rfl rfl rfl rfl rfl rfl rfl rfl rfl rfl rfl (by (repeat' (first | exact trivial | refine AllLt.of ?_ | constructor))) rfl (by omega) (by show (o.length+1)*8<=_;omega) fun ao' cap' hcap'=>oj_run TT rfl ?_
  (repeat (first | refine oj_then ?_ | refine cj_ret ?_))
  refine nj_seal 0 rfl rfl fun σ1 hle1 hS=>?_
  refine nj_ret TT rfl fun β w' _ _=>?_
  have hl:(o++[x.en]).length=o.length+1:=by rw [List.length_append];rfl
  have hS:ArrSealed σ1 (idE ao' cap' (o++[x.en])):=by
    unfold idE
    rw [hl]
    have:idXs (o++[x.en])=idXs o++[.int .i64 x.en]:=by unfold idXs;rw [List.map_append];rfl
    rw [this]
    exact hS
  rw [hl]
  refine ⟨ao',cap',k1,rfl,?_,rfl,hk1,hk2⟩
  rw [<-hl]
  exact id_sealed hS (by rw [hl];exact hcap')
end Go.Sy
namespace Go.Sy
open Go.Proofs
mutual
theorem buildN_w:∀ (n:Nat) (l:List GRec),2*l.length<=n->0<l.length->(buildN n l).1.weight+recsW (buildN n l).2<=recsW l
  | 0,l,h,h0=>by omega
  | n+1,[],h,h0=>by simp at h0
  | n+1,r::l,h,h0=>by
    rw [List.length_cons] at h
    have:=kidsN_w n r.lv l (by omega)
    rw [buildN]
    dsimp only
    rw [GVal.weight,recsW,recW]
    omega
theorem kidsN_w:∀ (n:Nat) (lv:Int) (l:List GRec),2*l.length+1<=n->GVal.weights (kidsN n lv l).ls+sizes (kidsN n lv l).ks+GVal.weights (kidsN n lv l).vs+recsW (kidsN n lv l).rest+(kidsN n lv l).ks.length<=recsW l+(kidsN n lv l).ks.length
  | 0,_,l,h=>by omega
  | n+1,_,[],h=>by simp [kidsN,GVal.weights,sizes]
  | n+1,lv,k::l,h=>by
    rw [List.length_cons] at h
    have h1:=buildN_w n (k::l) (by rw [List.length_cons];omega) (by simp)
    have h3:=buildN_rest n (k::l) (by rw [List.length_cons];omega) (by simp)
    rw [List.length_cons] at h3
    have h2:=kidsN_w n lv (buildN n (k::l)).2 (by omega)
    rw [kidsN]
    by_cases hl:lv<k.lv
    · rw [if_pos hl]
      by_cases hn:k.nm=true
      · rw [if_pos hn]
        dsimp only
        simp only [sizes,GVal.weights]
        have h4:(buildN n (k::l)).1.weight+k.name.size+recsW (buildN n (k::l)).2<=recsW (k::l):=by
          obtain ⟨n,rfl⟩:∃ m,n=m+1:=⟨n - 1,by omega⟩
          have:=kidsN_w n k.lv l (by omega)
          rw [buildN]
          dsimp only
          rw [GVal.weight,recsW,recW]
          omega
        omega
      · rw [if_neg hn]
        dsimp only
        simp only [GVal.weights]
        omega
    · rw [if_neg hl]
      simp [GVal.weights,sizes]
end
theorem buildG_w {L:List GRec} (h:0<L.length):(buildG L).1.weight<=recsW L:=by
  have:=buildN_w (enough L) L (by unfold enough;omega) h
  unfold buildG
  omega
theorem recsW_mem {L:List GRec} {r:GRec} (h:r∈L):recW r<=recsW L:=by
  induction L with
  | nil=>cases h
  | cons x l ih =>
    rw [recsW]
    rcases List.mem_cons.1 h with rfl | h
    · omega
    · have:=ih h;omega
theorem recs_ok {L:List GRec} (h:recsW L<=100000):RecsOk L:=by
  have hl:=recsW_len L
  refine ⟨by simp only [mostLen];omega,fun r hr=>?_,fun hn=>?_⟩
  · have:=recsW_mem hr
    rw [recW] at this
    simp only [mostLen]
    omega
  · have hpos:0<L.length:=by
      unfold nestedG at hn
      simp only [Bool.and_eq_true,decide_eq_true_eq] at hn
      omega
    have:=buildG_w hpos
    omega
def levAt (L:List GRec) (k:Nat):Bool:=if k=0 then levG L else levR (lvAt L (k - 1)) (L.drop k)
theorem levAt_end {L:List GRec}:levAt L L.length=true:=by
  unfold levAt
  split
  · rename_i h
    rw [List.eq_nil_of_length_eq_zero h]
    rfl
  · rw [List.drop_length]
    rfl
theorem levAt_step {L:List GRec} {k:Nat} (h:k<L.length):levAt L k=(decide (0<=L[k].lv)&&decide (L[k].lv<=64)&&(decide (k=0)||decide (L[k].lv<=lvAt L (k - 1)+1)&&decide (L[k].lv≠0))&&levAt L (k+1)):=by
  have h1:levAt L (k+1)=levR L[k].lv (L.drop (k+1)):=by
    unfold levAt
    rw [if_neg (by omega),Nat.add_sub_cancel,lvAt_get (List.getElem?_eq_getElem h)]
  rw [h1]
  unfold levAt
  by_cases hk:k=0
  · subst hk
    rw [if_pos rfl]
    have hL:L=L[0]::L.drop 1:=by
      have:=List.drop_eq_getElem_cons h
      rw [List.drop_zero] at this
      exact this
    generalize hx:L[0]=x at *
    conv=>lhs;rw [hL]
    unfold levG
    simp
  · rw [if_neg hk,List.drop_eq_getElem_cons h,levR,decide_eq_false hk,Bool.false_or]
    simp only [Bool.and_assoc]
def ascAt (l:List Int) (k:Nat):Bool:=ascF (if k=0 then -1 else l.getD (k - 1) 0) (l.drop k)
theorem ascAt_step {l:List Int} {k:Nat} (h:k<l.length):ascAt l k=(decide ((if k=0 then -1 else l.getD (k - 1) 0)<l[k])&&ascAt l (k+1)):=by
  unfold ascAt
  rw [List.drop_eq_getElem_cons h,ascF,if_neg (show ¬ k+1=0 by omega),Nat.add_sub_cancel,List.getD_eq_getElem?_getD,List.getD_eq_getElem?_getD,List.getElem?_eq_getElem h]
  rfl
theorem erEq_iff (a b:GRec):(⟨b.st,b.en,a.lv,a.kd,a.nm,a.name,a.b,a.n,a.s⟩:GRec)=b↔er a=er b:=by
  obtain ⟨_,_,_,_,_,_,_,_,_⟩:=a
  obtain ⟨_,_,_,_,_,_,_,_,_⟩:=b
  simp [er,stE]
set_option maxRecDepth 100000 in
set_option maxHeartbeats 4000000 in
theorem RSound_c (σ:Snap) (L:List GRec) (hW:recsW L<=100000) (ao:Option Addr) (cap:Nat) (H:SlAt σ ao L.length cap 11 (recRows L)) :
    PlainS Tryz.prog 143 [.a (.v (.slice ao L.length cap))] σ (fun v=>v=.bool (rSoundG L)):=by
  have hLW:=recsW_len L
  have R:=recs_ok hW
  refine enter_p Tryz.func143 rfl rfl (by (repeat' (first | exact trivial | constructor))) fun w=>?_
  (repeat (first | refine cj_seq ?_ | refine cjr TT rfl ?_ | refine oj_then ?_))
  refine oj_split 16 rfl (fun h=>?_) (fun h=>?_)
  · have h1:L.length=0:=by have:=of_decide_eq_true h;omega
    refine oj_run TT rfl ?_
    (repeat (first | refine cj_seq ?_ | refine cjr TT rfl ?_ | refine oj_then ?_ | refine cj_if_t rfl ?_ | refine cj_ret ?_ | refine nj_then_ret ?_))
    refine nj_ret TT rfl fun β w' _ _=>?_
    unfold rSoundG
    rw [if_pos (.inl h1)]
    rfl
  have h1:L.length≠0:=by have:=of_decide_eq_false h;omega
  refine oj_run TT rfl ?_
  (repeat refine oj_then ?_)
  refine cj_if rfl (fun h=>?_) (fun h=>?_)
  · have h2:5000<L.length:=by have:=of_decide_eq_true h;omega
    (repeat (first | refine cj_seq ?_ | refine cjr TT rfl ?_ | refine oj_then ?_ | refine cj_ret ?_ | refine nj_then_ret ?_))
    refine nj_ret TT rfl fun β w' _ _=>?_
    unfold rSoundG
    rw [if_pos (.inr h2)]
    rfl
  have h2:¬ 5000<L.length:=by have:=of_decide_eq_false h;omega
  have g1:¬ (L.length=0\/5000<L.length):=by omega
  (repeat (first | refine cj_seq ?_ | refine cjr TT rfl ?_ | refine oj_then ?_ | refine cj_skip ?_ | refine cj_block ?_ | refine nj_then ?_))
  refine cj_cutB (fun (_:Unit)=>σ) (fun _=>[(0,.a (.v (.slice ao L.length cap)))]) (fun _=>[]) (fun _=>[]) 0 (fun _=>levG L=true) ?_ (fun _ hlev=>?_)
  · refine cj_loop (fun (_:Nat)=>σ) (fun k=>[(0,.a (.v (.slice ao L.length cap))),(3,.a (.v (.int .i64 k)))]) (fun _=>[]) (fun _=>[]) 0
      (fun k=>k<=L.length/\levAt L k=levG L/\(0<k->0<=lvAt L (k - 1)/\lvAt L (k - 1)<=64)) (fun k=>L.length - k) 0 ⟨Nat.zero_le _,rfl,fun h=>by omega⟩ rfl (by (repeat first | exact trivial | refine ⟨rfl,?_⟩)) (by (repeat first | exact trivial | refine ⟨rfl,?_⟩)) rfl (by (repeat' (first | exact trivial | constructor))) (by (repeat' exact trivial)) fun k ⟨hk,hp,hprev⟩=>?_
    have bad:levG L=false->Value.bool false=.bool (rSoundG L):=fun h=>by
      unfold rSoundG
      rw [if_neg g1,if_pos h]
    (repeat (first | refine cj_seq ?_ | refine cjr TT rfl ?_ | refine oj_then ?_))
    refine cj_if rfl (fun h=>?_) (fun h=>?_)
    rotate_left
    · have hk0:k=L.length:=by have:=of_decide_eq_false h;omega
      subst hk0
      rw [levAt_end] at hp
      (repeat (first | refine cj_exit ?_ | refine nj_then_exit ?_ | refine nj_block_out ?_))
      refine nj_again () hp.symm Nat.zero_lt_one rfl (by (repeat first | exact trivial | refine ⟨rfl,?_⟩)) (by (repeat first | exact trivial | refine ⟨rfl,?_⟩)) rfl (by (repeat' (first | exact trivial | constructor))) (by (repeat' exact trivial))
    have hkl:k<L.length:=by have:=of_decide_eq_true h;omega
    have hrow:=recRows_get (List.getElem?_eq_getElem hkl)
    have hlv:=lvAt_get (List.getElem?_eq_getElem hkl)
    rw [levAt_step hkl] at hp
    generalize L[k]=x at *
    (repeat (first | refine cj_seq ?_ | refine cj_skip ?_ | refine cj_block ?_ | refine nj_then ?_))
    refine cj_draw [(0,.pure),(1,.pure),(2,.pure),(3,.pure),(4,.quiet),(5,.pure),(6,.pure),(7,.pure),(8,.pure),(9,.pure),(10,.pure),(11,.quiet),(12,.pure),(13,.pure),(14,.pure),(15,.pure),(16,.pure),(17,.pure),(18,.pure),(19,.pure),(20,.pure),(21,.pure),(22,.quiet),(23,.pure),(24,.pure),(25,.pure),(26,.pure),(27,.pure),(28,.quiet),(29,.pure),(30,.pure),(31,.pure),(32,.pure),(33,.pure),(34,.pure),(35,.pure),(36,.quiet),(37,.pure),(38,.pure),(39,.pure),(40,.pure)] mixed (by kernel_rfl) (oj_run TT rfl ?_)
    refine oj_idx TT rfl rfl rfl rfl rfl rfl rfl rfl rfl H (by omega) hrow (oj_run TT rfl ?_)
    refine oj_split 33 rfl (fun h=>?_) (fun h=>?_)
    · have h3:¬ 0<=x.lv:=by have:=of_decide_eq_true h;omega
      refine oj_run TT rfl ?_
      (repeat (first | refine cj_seq ?_ | refine cjr TT rfl ?_ | refine oj_then ?_ | refine cj_if_t rfl ?_ | refine cj_ret ?_ | refine nj_then_ret ?_ | refine nj_block_ret ?_))
      refine nj_ret TT rfl fun β w' _ _=>?_
      exact bad (by rw [<-hp,decide_eq_false h3];rfl)
    have h3:0<=x.lv:=by have:=of_decide_eq_false h;omega
    refine oj_run TT rfl ?_
    refine oj_idx TT rfl rfl rfl rfl rfl rfl rfl rfl rfl H (by omega) hrow (oj_run TT rfl ?_)
    refine oj_split 41 rfl (fun h=>?_) (fun h=>?_)
    · have h4:¬ x.lv<=64:=by have:=of_decide_eq_true h;omega
      refine oj_run TT rfl ?_
      (repeat (first | refine cj_seq ?_ | refine cjr TT rfl ?_ | refine oj_then ?_ | refine cj_if_t rfl ?_ | refine cj_ret ?_ | refine nj_then_ret ?_ | refine nj_block_ret ?_))
      refine nj_ret TT rfl fun β w' _ _=>?_
      exact bad (by rw [<-hp,decide_eq_false h4,Bool.and_false];rfl)
    have h4:x.lv<=64:=by have:=of_decide_eq_false h;omega
    rw [decide_eq_true h3,decide_eq_true h4,Bool.true_and,Bool.true_and] at hp
    refine oj_run TT rfl ?_
    refine oj_split 44 rfl (fun h=>?_) (fun h=>?_)
    rotate_left
    · have hk0:k=0:=by have:=of_decide_eq_false h;omega
      subst hk0
      rw [decide_eq_true rfl,Bool.true_or,Bool.true_and] at hp
      refine oj_run TT rfl ?_
      (repeat (first | refine cjr TT rfl ?_ | refine oj_then ?_ | refine oj_nil ?_ | refine cj_if_f rfl ?_ | refine cj_skip ?_ | refine nj_then ?_ | refine nj_block ?_ | (refine oj_add rfl rfl rfl rfl rfl rfl (by omega) ?_;refine oj_run TT rfl ?_)))
      refine nj_again 1 ⟨hkl,hp,fun _=>by rw [Nat.sub_self,hlv];omega⟩ (by omega) rfl (by (repeat first | exact trivial | refine ⟨rfl,?_⟩)) (by (repeat first | exact trivial | refine ⟨rfl,?_⟩)) rfl (by (repeat' (first | exact trivial | constructor))) (by (repeat' exact trivial))
    have hk0:0<k:=by have:=of_decide_eq_true h;omega
    have hprev:=hprev hk0
    have hkm:k - 1<L.length:=by omega
    have hrowp:=recRows_get (List.getElem?_eq_getElem hkm)
    rw [lvAt_get (List.getElem?_eq_getElem hkm)] at hprev hp
    generalize L[k - 1]=y at *
    rw [decide_eq_false (show ¬ k=0 by omega),Bool.false_or] at hp
    refine oj_run TT rfl ?_
    refine oj_idx TT rfl rfl rfl rfl rfl rfl rfl rfl rfl H (by omega) hrow (oj_run TT rfl ?_)
    have hkm1:(k:Int) - 1=((k - 1:Nat):Int):=by omega
    refine oj_minus rfl rfl rfl rfl rfl rfl (by omega) (oj_run TT rfl ?_)
    rw [hkm1]
    refine oj_idx TT rfl rfl rfl rfl rfl rfl rfl rfl rfl H (by omega) hrowp (oj_run TT rfl ?_)
    refine oj_add rfl rfl rfl rfl rfl rfl (by omega) (oj_run TT rfl ?_)
    refine oj_split 58 rfl (fun h=>?_) (fun h=>?_)
    · have h5:¬ x.lv<=y.lv+1:=by have:=of_decide_eq_true h;omega
      refine oj_run TT rfl ?_
      (repeat (first | refine cj_seq ?_ | refine cjr TT rfl ?_ | refine oj_then ?_ | refine cj_if_t rfl ?_ | refine cj_ret ?_ | refine nj_then_ret ?_ | refine nj_block_ret ?_))
      refine nj_ret TT rfl fun β w' _ _=>?_
      exact bad (by rw [<-hp,decide_eq_false h5];rfl)
    have h5:x.lv<=y.lv+1:=by have:=of_decide_eq_false h;omega
    refine oj_run TT rfl ?_
    refine oj_idx TT rfl rfl rfl rfl rfl rfl rfl rfl rfl H (by omega) hrow (oj_run TT rfl ?_)
    (repeat refine oj_then ?_)
    refine cj_if rfl (fun h=>?_) (fun h=>?_)
    · have h6:x.lv=0:=of_decide_eq_true h
      (repeat (first | refine cj_seq ?_ | refine cjr TT rfl ?_ | refine oj_then ?_ | refine cj_ret ?_ | refine nj_then_ret ?_ | refine nj_block_ret ?_))
      refine nj_ret TT rfl fun β w' _ _=>?_
      exact bad (by rw [<-hp,decide_eq_false (show ¬ x.lv≠0 by omega),Bool.and_false];rfl)
    have h6:x.lv≠0:=of_decide_eq_false h
    rw [decide_eq_true h5,decide_eq_true h6,Bool.true_and,Bool.true_and] at hp
    (repeat (first | refine cjr TT rfl ?_ | refine oj_nil ?_ | refine cj_skip ?_ | refine nj_then ?_ | refine nj_block ?_ | (refine oj_add rfl rfl rfl rfl rfl rfl (by omega) ?_;refine oj_run TT rfl ?_)))
    refine nj_again (k+1) ⟨hkl,hp,fun _=>by rw [Nat.add_sub_cancel,hlv];omega⟩ (by omega) rfl (by (repeat first | exact trivial | refine ⟨rfl,?_⟩)) (by (repeat first | exact trivial | refine ⟨rfl,?_⟩)) rfl (by (repeat' (first | exact trivial | constructor))) (by (repeat' exact trivial))
  have g2:¬ levG L=false:=by rw [hlev];decide
  have hpos:0<L.length:=by omega
  have hrow:=recRows_get (List.getElem?_eq_getElem hpos)
  have hhd:L.head?=some L[0]:=by rw [List.head?_eq_getElem?,List.getElem?_eq_getElem hpos]
  have hh1:(L.head?.map GRec.lv).getD 0=L[0].lv:=by rw [hhd];rfl
  have hh2:(L.head?.map GRec.nm).getD false=L[0].nm:=by rw [hhd];rfl
  have hh3:(L.head?.map GRec.en).getD 0=L[0].en:=by rw [hhd];rfl
  have bad:((L.head?.map GRec.lv).getD 0≠0\/(L.head?.map GRec.nm).getD false=true\/1099511627776<(L.head?.map GRec.en).getD 0)->Value.bool false=.bool (rSoundG L):=fun h=>by
    unfold rSoundG
    rw [if_neg g1,if_neg g2,if_pos h]
  rw [hh1,hh2,hh3] at bad
  generalize hx0:L[0]=x0 at *
  (repeat (first | refine cj_seq ?_ | refine cjr TT rfl ?_))
  refine oj_idx TT rfl rfl rfl rfl rfl rfl rfl rfl rfl H (by omega) hrow (oj_run TT rfl ?_)
  refine oj_split 73 rfl (fun h=>?_) (fun h=>?_)
  · have h3:x0.lv≠0:=by simpa using h
    refine oj_run TT rfl ?_
    (repeat (first | refine cj_seq ?_ | refine cjr TT rfl ?_ | refine oj_then ?_ | refine cj_if_t rfl ?_ | refine cj_ret ?_ | refine nj_then_ret ?_))
    refine nj_ret TT rfl fun β w' _ _=>?_
    exact bad (.inl h3)
  have h3:x0.lv=0:=by simpa using h
  refine oj_run TT rfl ?_
  refine oj_idx TT rfl rfl rfl rfl rfl rfl rfl rfl rfl H (by omega) hrow (oj_run TT rfl ?_)
  refine oj_split 79 rfl (fun h=>?_) (fun h=>?_)
  · have h4:x0.nm=true:=h
    refine oj_run TT rfl ?_
    (repeat (first | refine cj_seq ?_ | refine cjr TT rfl ?_ | refine oj_then ?_ | refine cj_if_t rfl ?_ | refine cj_ret ?_ | refine nj_then_ret ?_))
    refine nj_ret TT rfl fun β w' _ _=>?_
    exact bad (.inr (.inl h4))
  have h4:x0.nm=false:=h
  refine oj_run TT rfl ?_
  refine oj_idx TT rfl rfl rfl rfl rfl rfl rfl rfl rfl H (by omega) hrow (oj_run TT rfl ?_)
  (repeat refine oj_then ?_)
  refine cj_if rfl (fun h=>?_) (fun h=>?_)
  · have h5:1099511627776<x0.en:=of_decide_eq_true h
    (repeat (first | refine cj_seq ?_ | refine cjr TT rfl ?_ | refine oj_then ?_ | refine cj_ret ?_ | refine nj_then_ret ?_))
    refine nj_ret TT rfl fun β w' _ _=>?_
    exact bad (.inr (.inr h5))
  have h5:¬ 1099511627776<x0.en:=of_decide_eq_false h
  have g3:¬ ((L.head?.map GRec.lv).getD 0≠0\/(L.head?.map GRec.nm).getD false=true\/1099511627776<(L.head?.map GRec.en).getD 0):=by
    rw [hh1,hh2,hh3]
    rintro (h | h | h)
    · exact h h3
    · rw [h4] at h;cases h
    · exact h5 h
  clear bad
  have hbw:=buildG_w hpos
  have hbuild:=rbuild_c L R.fit (by omega) ao cap (enough L) σ 0 H hpos (by unfold enough;rw [List.drop_zero];omega)
  have hnum:=fun (σ':Snap) (hle:σ.le σ')=>numbers_c L (by omega) ao cap (enough L) σ' 0 (H.mono hle) hpos (by unfold enough;rw [List.drop_zero];omega)
  rw [List.drop_zero] at hbuild hnum
  have hordb:=(ordN_rest (enough L) L (by unfold enough;omega) hpos).2
  have e1:buildN (enough L) L=buildG L:=rfl
  have e2:(ordN (enough L) L).1=ordG L:=rfl
  rw [e1] at hbuild
  rw [e2] at hnum hordb
  have hbwf:(buildG L).1.wf:=buildN_wf _ _
  have bad:((buildG L).2≠[]\/sane (buildG L).1≠0)->Value.bool false=.bool (rSoundG L):=fun h=>by
    unfold rSoundG
    rw [if_neg g1,if_neg g2,if_neg g3,if_pos h]
  have bad2:¬ ((buildG L).2≠[]\/sane (buildG L).1≠0)->L.map er≠(shredV 1 (buildG L).1 0 false emptyS 0).1.map er->Value.bool false=.bool (rSoundG L):=fun h h'=>by
    unfold rSoundG
    rw [if_neg g1,if_neg g2,if_neg g3,if_neg h,if_pos h']
  have good:¬ ((buildG L).2≠[]\/sane (buildG L).1≠0)->¬ L.map er≠(shredV 1 (buildG L).1 0 false emptyS 0).1.map er->rSoundG L=ascF (-1) (ordG L):=fun h h'=>by
    unfold rSoundG
    rw [if_neg g1,if_neg g2,if_neg g3,if_neg h,if_neg h']
  generalize (buildG L).1=gx at *
  generalize (buildG L).2=rst at *
  (repeat (first | refine cj_seq ?_ | refine cjr TT rfl ?_ | refine cj_skip ?_ | refine nj_then ?_))
  refine oj_callS rfl rfl rfl rfl rfl Tryz.call154 ⟨trivial,trivial,trivial⟩ hbuild fun v σ1 hle1 ⟨rr,k',hv,hrep,hrest,hk1,hk2⟩=>⟨.tup [.agg rr,.a (.v (.int .i64 k'))],SV.lt_tup ⟨hrep.clo,trivial,trivial⟩,hv.symm,?_⟩
  obtain ⟨xla,xlc,xlrows,xma,xmc,xvrows,rfl,XV⟩:=hrep.open
  have hkr:k'=L.length↔rst=[]:=by
    constructor
    · intro h
      rw [<-hrest,h,List.drop_length]
    · intro h
      rw [h] at hrest
      have:=congrArg List.length hrest
      rw [List.length_drop,List.length_nil] at this
      omega
  refine oj_run TT rfl ?_
  (repeat (first | refine cj_seq ?_ | refine cjr TT rfl ?_ | refine oj_then ?_))
  refine oj_split 95 rfl (fun h=>?_) (fun h=>?_)
  · have h6:¬ k'=L.length:=by
      have:¬ (k':Int)=L.length:=by simpa using h
      omega
    refine oj_run TT rfl ?_
    (repeat (first | refine cj_seq ?_ | refine cjr TT rfl ?_ | refine oj_then ?_ | refine cj_if_t rfl ?_ | refine cj_ret ?_ | refine nj_then_ret ?_))
    refine nj_ret TT rfl fun β w' _ _=>?_
    exact bad (.inl fun h=>h6 (hkr.2 h))
  have h6:k'=L.length:=by
    have:(k':Int)=L.length:=by simpa using h
    omega
  refine oj_run TT rfl ?_
  refine oj_callP rfl rfl rfl rfl rfl Tryz.call66 (by (repeat' (first | exact trivial | exact vCells_lt _ _ _ _ _ _ | constructor))) (RSane_c σ1 gx _ XV.rep (by omega)) fun v hv=>⟨.a (.v (.int .i64 (sane gx))),trivial,hv.symm,?_⟩
  refine oj_run TT rfl ?_
  (repeat refine oj_then ?_)
  refine cj_if rfl (fun h=>?_) (fun h=>?_)
  · have h7:sane gx≠0:=by simpa using h
    (repeat (first | refine cj_seq ?_ | refine cjr TT rfl ?_ | refine oj_then ?_ | refine cj_ret ?_ | refine nj_then_ret ?_))
    refine nj_ret TT rfl fun β w' _ _=>?_
    exact bad (.inr h7)
  have h7:sane gx=0:=by simpa using h
  have g4:¬ (rst≠[]\/sane gx≠0):=by
    rintro (h | h)
    · exact h (hkr.1 h6)
    · exact h h7
  have bad:=bad2 g4
  have good:=good g4
  clear bad2
  have hsl:=shredV_len 1 gx 0 false emptyS 0
  have hfit:=(shred_lay (gap:=1) (by omega) hbwf 0 false emptyS 0).fit hbwf (by simp only [mostLen];omega)
  (repeat (first | refine cj_seq ?_ | refine cjr TT rfl ?_ | refine oj_then ?_ | refine cj_skip ?_ | refine nj_then ?_))
  refine oj_own 4 1 3 rfl (by (repeat' (first | exact trivial | refine AllLt.of ?_ | constructor))) rfl (by decide) fun gs=>?_
  refine oj_nilarr 131 11 ?_
  refine oj_callF [0,1] (A0:=sh2A gs none 0 0 1 []) (Ar:=[]) rfl rfl rfl rfl rfl rfl rfl Tryz.call155 (by (repeat' (first | exact trivial | exact vCells_lt _ _ _ _ _ _ | constructor))) (FnS.b rfl (value2_c gx σ1 _ false emptyS 0 gs none 0 0 1 [] XV.rep (by omega) (by omega) (by omega) (by omega) (by simp;omega) (Int.le_refl _) (by omega) (Nat.le_refl _))) fun v σ2 A2 hle2 ⟨hv,so,sc,hsc,hA⟩=>⟨.tup [],(by (repeat' (first | exact trivial | refine SV.lt_tup ?_))),hv.symm,?_⟩
  subst hA
  rw [List.nil_append] at hsc ⊢
  generalize hS:(shredV 1 gx 0 false emptyS 0).1=S at *
  generalize (shredV 1 gx 0 false emptyS 0).2=nw at *
  refine oj_run TT rfl ?_
  (repeat (first | refine cj_seq ?_ | refine cjr TT rfl ?_ | refine oj_then ?_))
  refine oj_ldA 0 (c:=.v (.slice so S.length sc)) TT rfl rfl rfl rfl rfl rfl rfl rfl rfl rfl rfl trivial (oj_run TT rfl ?_)
  (repeat refine oj_then ?_)
  refine cj_if rfl (fun h=>?_) (fun h=>?_)
  · have h8:¬ S.length=L.length:=by
      have:¬ (S.length:Int)=L.length:=by simpa using h
      omega
    (repeat (first | refine cj_seq ?_ | refine cjr TT rfl ?_ | refine oj_then ?_ | refine cj_ret ?_ | refine nj_then_ret ?_))
    refine nj_ret TT rfl fun β w' _ _=>?_
    exact bad fun h=>h8 (er_len h).symm
  have h8:S.length=L.length:=by
    have:(S.length:Int)=L.length:=by simpa using h
    omega
  (repeat (first | refine cj_seq ?_ | refine cjr TT rfl ?_ | refine oj_then ?_ | refine cj_skip ?_ | refine cj_block ?_ | refine nj_then ?_))
  refine cj_seal 1 rfl rfl fun σ3 hle3 hS3=>?_
  have HS:SlAt σ3 so S.length sc 11 (recRows S):=r2E_sealed hS3 hsc
  have H3:=H.mono (Snap.le_trans hle1 (Snap.le_trans hle2 hle3))
  refine cj_cutB (fun (_:Unit)=>σ3) (fun _=>[(0,.a (.v (.slice ao L.length cap)))]) (fun _=>[]) (fun _=>[s2E gs so S.length sc nw 1]) 0 (fun _=>L.map er=S.map er) ?_ (fun _ her=>?_)
  · refine cj_loop (fun (_:Nat)=>σ3) (fun k=>[(0,.a (.v (.slice ao L.length cap))),(6,.a (.v (.pointer (some ⟨gs,0,none⟩)))),(7,.a (.v (.int .i64 k)))]) (fun _=>[]) (fun _=>[s2E gs so S.length sc nw 1]) 0
      (fun k=>k<=L.length/\(L.take k).map er=(S.take k).map er) (fun k=>L.length - k) 0 ⟨Nat.zero_le _,rfl⟩ rfl (by (repeat first | exact trivial | refine ⟨rfl,?_⟩)) (by (repeat first | exact trivial | refine ⟨rfl,?_⟩)) rfl (by (repeat' (first | exact trivial | constructor))) (by (repeat' exact trivial)) fun k ⟨hk,hp⟩=>?_
    (repeat (first | refine cj_seq ?_ | refine cjr TT rfl ?_ | refine oj_then ?_))
    refine cj_if rfl (fun h=>?_) (fun h=>?_)
    rotate_left
    · have hk0:k=L.length:=by have:=of_decide_eq_false h;omega
      subst hk0
      rw [List.take_length,<-h8,List.take_length] at hp
      (repeat (first | refine cj_exit ?_ | refine nj_then_exit ?_ | refine nj_block_out ?_))
      refine nj_again () hp Nat.zero_lt_one rfl (by (repeat first | exact trivial | refine ⟨rfl,?_⟩)) (by (repeat first | exact trivial | refine ⟨rfl,?_⟩)) ?_ (by (repeat' (first | exact trivial | constructor))) (by (repeat' exact trivial))
      rfl
    have hkl:k<L.length:=by have:=of_decide_eq_true h;omega
    have hks:k<S.length:=by omega
    have hra:=recRows_get (List.getElem?_eq_getElem hkl)
    have hrb:=recRows_get (List.getElem?_eq_getElem hks)
    have ht1:L.take (k+1)=L.take k++[L[k]]:=List.take_succ_eq_append_getElem hkl
    have ht2:S.take (k+1)=S.take k++[S[k]]:=List.take_succ_eq_append_getElem hks
    have hbad:er L[k]≠er S[k]->L.map er≠S.map er:=fun h h'=>by
      have:=congrArg (fun l=>l[k]?) h'
      simp only [List.getElem?_map,List.getElem?_eq_getElem hkl,List.getElem?_eq_getElem hks,Option.map_some,Option.some.injEq] at this
      exact h this
    generalize L[k]=x at *
    generalize S[k]=y at *
    have hxy:=erEq_iff x y
    (repeat (first | refine cj_seq ?_ | refine cjr TT rfl ?_ | refine cj_skip ?_ | refine cj_block ?_ | refine nj_then ?_))
    refine oj_idx TT rfl rfl rfl rfl rfl rfl rfl rfl rfl H3 (by omega) hra (oj_run TT rfl ?_)
    (repeat (first | refine cj_seq ?_ | refine cjr TT rfl ?_ | refine oj_then ?_))
    refine oj_ldA 0 (c:=.v (.slice so S.length sc)) TT rfl rfl rfl rfl rfl rfl rfl rfl rfl rfl rfl trivial (oj_run TT rfl ?_)
    refine oj_idx TT rfl rfl rfl rfl rfl rfl rfl rfl rfl HS (by omega) hrb (oj_run TT rfl ?_)
    (repeat (first | refine cj_seq ?_ | refine cjr TT rfl ?_ | refine oj_then ?_))
    refine oj_neRec2 ⟨y.st,y.en,x.lv,x.kd,x.nm,x.name,x.b,x.n,x.s⟩ y rfl rfl rfl rfl rfl rfl rfl (oj_run TT rfl ?_)
    (repeat refine oj_then ?_)
    refine cj_if rfl (fun h=>?_) (fun h=>?_)
    · have h9:¬ (⟨y.st,y.en,x.lv,x.kd,x.nm,x.name,x.b,x.n,x.s⟩:GRec)=y:=by simpa using h
      (repeat (first | refine cj_seq ?_ | refine cjr TT rfl ?_ | refine oj_then ?_ | refine cj_ret ?_ | refine nj_then_ret ?_ | refine nj_block_ret ?_))
      refine nj_ret TT rfl fun β w' _ _=>?_
      exact bad (hbad fun h=>h9 (hxy.2 h))
    · have h9:(⟨y.st,y.en,x.lv,x.kd,x.nm,x.name,x.b,x.n,x.s⟩:GRec)=y:=by simpa using h
      (repeat (first | refine cjr TT rfl ?_ | refine oj_nil ?_ | refine cj_skip ?_ | refine nj_then ?_ | refine nj_block ?_ | (refine oj_add rfl rfl rfl rfl rfl rfl (by omega) ?_;refine oj_run TT rfl ?_)))
      refine nj_again (k+1) ⟨hkl,by rw [ht1,ht2,List.map_append,List.map_append,hp,List.map_singleton,List.map_singleton,hxy.1 h9]⟩ (by omega) rfl (by (repeat first | exact trivial | refine ⟨rfl,?_⟩)) (by (repeat first | exact trivial | refine ⟨rfl,?_⟩)) rfl (by (repeat' (first | exact trivial | constructor))) (by (repeat' exact trivial))
  have good:=good (fun h=>h her)
  rw [good]
  clear good bad
  (repeat (first | refine cj_seq ?_ | refine cjr TT rfl ?_))
  refine oj_callS rfl rfl rfl rfl rfl Tryz.call203 ⟨trivial,trivial,trivial⟩ (hnum σ3 (Snap.le_trans hle1 (Snap.le_trans hle2 hle3))) fun v σ4 hle4 ⟨oo,oc,k2,hv,HO,_,_,_⟩=>⟨.tup [.a (.v (.slice oo (ordG L).length oc)),.a (.v (.int .i64 k2))],(by (repeat' (first | exact trivial | refine SV.lt_tup ?_ | constructor))),hv.symm,?_⟩
  generalize ordG L=os at *
  refine oj_run TT rfl ?_
  (repeat (first | refine cj_seq ?_ | refine cjr TT rfl ?_ | refine oj_then ?_ | refine cj_block ?_))
  refine cj_loop (fun (_:Nat)=>σ4) (fun k=>[(10,.a (.v (.slice oo os.length oc))),(12,.a (.v (.int .i64 k)))]) (fun _=>[]) (fun _=>[s2E gs so S.length sc nw 1]) 0
    (fun k=>k<=os.length/\ascAt os k=ascF (-1) os/\(0<k->0<=os.getD (k - 1) 0)) (fun k=>os.length - k) 0 ⟨Nat.zero_le _,rfl,fun h=>by omega⟩ rfl (by (repeat first | exact trivial | refine ⟨rfl,?_⟩)) (by (repeat first | exact trivial | refine ⟨rfl,?_⟩)) rfl (by (repeat' (first | exact trivial | constructor))) (by (repeat' exact trivial)) fun k ⟨hk,hp,hpr⟩=>?_
  (repeat (first | refine cj_seq ?_ | refine cjr TT rfl ?_ | refine oj_then ?_))
  refine cj_if rfl (fun h=>?_) (fun h=>?_)
  rotate_left
  · have hk0:k=os.length:=by have:=of_decide_eq_false h;omega
    subst hk0
    unfold ascAt at hp
    rw [List.drop_length,ascF] at hp
    (repeat (first | refine cj_seq ?_ | refine cjr TT rfl ?_ | refine oj_then ?_ | refine cj_exit ?_ | refine cj_ret ?_ | refine nj_then ?_ | refine nj_then_exit ?_ | refine nj_block_out ?_))
    refine nj_ret TT rfl fun β w' _ _=>?_
    rw [<-hp]
    rfl
  have hkl:k<os.length:=by have:=of_decide_eq_true h;omega
  have hrow1:=idRows_get (List.getElem?_eq_getElem hkl)
  rw [ascAt_step hkl] at hp
  have hget:os.getD k 0=os[k]:=by rw [List.getD_eq_getElem?_getD,List.getElem?_eq_getElem hkl];rfl
  generalize os[k]=x at *
  (repeat (first | refine cj_seq ?_ | refine cj_skip ?_ | refine cj_block ?_ | refine nj_then ?_))
  refine cj_draw [(0,.pure),(1,.pure),(2,.pure),(3,.quiet),(4,.pure),(5,.pure),(6,.pure),(7,.pure),(8,.pure),(9,.pure),(10,.pure),(11,.pure),(12,.pure),(13,.quiet),(14,.pure),(15,.pure),(16,.pure),(17,.quiet),(18,.pure),(19,.pure),(20,.pure)] mixed (by kernel_rfl) (oj_run TT rfl ?_)
  refine oj_idx TT rfl rfl rfl rfl rfl rfl rfl rfl rfl HO (by omega) hrow1 (oj_run TT rfl ?_)
  refine oj_split 155 rfl (fun h=>?_) (fun h=>?_)
  · have h9:x<0:=of_decide_eq_true h
    refine oj_run TT rfl ?_
    (repeat (first | refine cj_seq ?_ | refine cjr TT rfl ?_ | refine oj_then ?_ | refine cj_if_t rfl ?_ | refine cj_ret ?_ | refine nj_then_ret ?_ | refine nj_block_ret ?_))
    refine nj_ret TT rfl fun β w' _ _=>?_
    rw [<-hp,decide_eq_false,Bool.false_and]
    · rfl
    · by_cases hk0:k=0
      · rw [if_pos hk0];omega
      · rw [if_neg hk0]
        have:=hpr (by omega)
        omega
  have h9:¬ x<0:=of_decide_eq_false h
  refine oj_run TT rfl ?_
  refine oj_split 158 rfl (fun h=>?_) (fun h=>?_)
  rotate_left
  · have hk0:k=0:=by have:=of_decide_eq_false h;omega
    subst hk0
    rw [if_pos rfl,decide_eq_true (by omega),Bool.true_and] at hp
    refine oj_run TT rfl ?_
    (repeat (first | refine cjr TT rfl ?_ | refine oj_then ?_ | refine oj_nil ?_ | refine cj_if_f rfl ?_ | refine cj_skip ?_ | refine nj_then ?_ | refine nj_block ?_ | (refine oj_add rfl rfl rfl rfl rfl rfl (by omega) ?_;refine oj_run TT rfl ?_)))
    refine nj_again 1 ⟨hkl,hp,fun _=>by rw [Nat.sub_self,hget];omega⟩ (by omega) rfl (by (repeat first | exact trivial | refine ⟨rfl,?_⟩)) (by (repeat first | exact trivial | refine ⟨rfl,?_⟩)) rfl (by (repeat' (first | exact trivial | constructor))) (by (repeat' exact trivial))
  have hk0:0<k:=by have:=of_decide_eq_true h;omega
  have hkm:k - 1<os.length:=by omega
  have hrowp:=idRows_get (List.getElem?_eq_getElem hkm)
  have hgp:os.getD (k - 1) 0=os[k - 1]:=by rw [List.getD_eq_getElem?_getD,List.getElem?_eq_getElem hkm];rfl
  rw [if_neg (by omega),hgp] at hp
  generalize os[k - 1]=y at *
  have hkm1:(k:Int) - 1=((k - 1:Nat):Int):=by omega
  refine oj_run TT rfl ?_
  refine oj_minus rfl rfl rfl rfl rfl rfl (by omega) (oj_run TT rfl ?_)
  rw [hkm1]
  refine oj_idx TT rfl rfl rfl rfl rfl rfl rfl rfl rfl HO (by omega) hrowp (oj_run TT rfl ?_)
  refine oj_idx TT rfl rfl rfl rfl rfl rfl rfl rfl rfl HO (by omega) hrow1 (oj_run TT rfl ?_)
  (repeat refine oj_then ?_)
  refine cj_if rfl (fun h=>?_) (fun h=>?_)
  · have h10:x<=y:=of_decide_eq_true h
    (repeat (first | refine cj_seq ?_ | refine cjr TT rfl ?_ | refine oj_then ?_ | refine cj_ret ?_ | refine nj_then_ret ?_ | refine nj_block_ret ?_))
    refine nj_ret TT rfl fun β w' _ _=>?_
    rw [<-hp,decide_eq_false (show ¬ y<x by omega),Bool.false_and]
    rfl
  · have h10:¬ x<=y:=of_decide_eq_false h
    rw [decide_eq_true (show y<x by omega),Bool.true_and] at hp
    (repeat (first | refine cjr TT rfl ?_ | refine oj_nil ?_ | refine cj_skip ?_ | refine nj_then ?_ | refine nj_block ?_ | (refine oj_add rfl rfl rfl rfl rfl rfl (by omega) ?_;refine oj_run TT rfl ?_)))
    refine nj_again (k+1) ⟨hkl,hp,fun _=>by rw [Nat.add_sub_cancel,hget];omega⟩ (by omega) rfl (by (repeat first | exact trivial | refine ⟨rfl,?_⟩)) (by (repeat first | exact trivial | refine ⟨rfl,?_⟩)) rfl (by (repeat' (first | exact trivial | constructor))) (by (repeat' exact trivial))
end Go.Sy
namespace Go.Sy
open Go.Proofs
def kidsA (L:List GRec) (i:Int):List Nat:=if atG L i then kidsG L i.toNat else []
def lastA (L:List GRec) (i:Int):Int:=if atG L i then lastG L i.toNat else -1
theorem at_bd {L:List GRec} {i:Int} (h:atG L i=true):∃ j:Nat,i=j/\j<L.length/\soundG L=true:=by
  unfold atG at h
  simp only [Bool.and_eq_true,decide_eq_true_eq] at h
  exact ⟨i.toNat,by omega,by omega,h.2⟩
theorem sound_pos {L:List GRec} (h:soundG L=true):0<L.length:=by
  have:=(sound_all h).2.1
  unfold nestedG at this
  simp only [Bool.and_eq_true,decide_eq_true_eq] at this
  omega
set_option maxRecDepth 100000 in
set_option maxHeartbeats 1000000 in
theorem RBuild_c (σ:Snap) (L:List GRec) (hW:recsW L<=100000) (hL:L.length<=4096) (ao:Option Addr) (cap:Nat) (H:SlAt σ ao L.length cap 11 (recRows L)) :
    PureS Tryz.prog 80 [.a (.v (.slice ao L.length cap))] σ (fun v σ'=>∃ r,v=(SV.tup [.agg r,.a (.v (.int .i64 (buildR L).2))]).den β0/\RepV σ' (buildR L).1 r):=by
  have hbR:buildR L=if soundG L then ((buildG L).1,0) else (gval0,2):=by
    unfold soundG buildR
    split
    · rfl
    · split
      · rfl
      · rfl
  refine enter_s Tryz.func80 rfl rfl (by (repeat' (first | exact trivial | constructor))) fun w=>?_
  (repeat (first | refine cj_seq ?_ | refine cjr TT rfl ?_ | refine oj_then ?_))
  refine oj_callP rfl rfl rfl rfl rfl Tryz.call143 (by (repeat' (first | exact trivial | constructor))) (RSound_c σ L hW ao cap H) fun v hv=>⟨.a (.b (soundG L)),trivial,by rw [hv,rSound_eq hL];rfl,?_⟩
  refine oj_run TT rfl ?_
  (repeat refine oj_then ?_)
  refine cj_if rfl (fun h=>?_) (fun h=>?_)
  · have hs:soundG L=false:=by simpa using h
    rw [hbR,hs]
    (repeat (first | refine cj_seq ?_ | refine cjr TT rfl ?_ | refine oj_then ?_ | refine cj_ret ?_ | refine nj_then_ret ?_))
    refine nj_ret TT rfl fun β w' _ _=>?_
    exact ⟨vCells gval0 none 0 none 0,rfl,rep0 σ⟩
  have hs:soundG L=true:=by simpa using h
  have hpos:=sound_pos hs
  have hbuild:=rbuild_c L (recs_ok hW).fit (by omega) ao cap (enough L) σ 0 H hpos (by unfold enough;rw [List.drop_zero];omega)
  rw [List.drop_zero] at hbuild
  have e1:buildN (enough L) L=buildG L:=rfl
  rw [e1] at hbuild
  rw [hbR,if_pos hs]
  generalize (buildG L).1=gx at *
  (repeat (first | refine cj_seq ?_ | refine cjr TT rfl ?_ | refine cj_skip ?_ | refine nj_then ?_))
  refine oj_callS rfl rfl rfl rfl rfl Tryz.call154 ⟨trivial,trivial,trivial⟩ hbuild fun v σ1 hle1 ⟨rr,k',hv,hrep,_,_,_⟩=>⟨.tup [.agg rr,.a (.v (.int .i64 k'))],SV.lt_tup ⟨hrep.clo,trivial,trivial⟩,hv.symm,?_⟩
  obtain ⟨xla,xlc,xlrows,xma,xmc,xvrows,rfl,XV⟩:=hrep.open
  refine oj_run TT rfl ?_
  (repeat (first | refine cj_seq ?_ | refine cjr TT rfl ?_ | refine oj_then ?_ | refine cj_ret ?_))
  refine nj_ret TT rfl fun β w' _ _=>?_
  exact ⟨_,rfl,XV.rep⟩
set_option maxRecDepth 100000 in
set_option maxHeartbeats 1000000 in
theorem RAt_c (σ:Snap) (L:List GRec) (hW:recsW L<=100000) (hL:L.length<=4096) (ao:Option Addr) (cap:Nat) (H:SlAt σ ao L.length cap 11 (recRows L)) (i:Int) :
    PlainS Tryz.prog 145 [.a (.v (.slice ao L.length cap)),.a (.v (.int .i64 i))] σ (fun v=>v=.bool (atG L i)):=by
  refine enter_p Tryz.func145 rfl rfl (by (repeat' (first | exact trivial | constructor))) fun w=>?_
  (repeat (first | refine cj_seq ?_ | refine cjr TT rfl ?_ | refine oj_then ?_))
  refine oj_split 7 rfl (fun h=>?_) (fun h=>?_)
  rotate_left
  · refine oj_run TT rfl ?_
    (repeat (first | refine oj_then ?_ | refine cj_ret ?_))
    refine nj_ret TT rfl fun β w' _ _=>?_
    unfold atG
    rw [show decide (0<=i)=false from h,Bool.false_and,Bool.false_and]
    rfl
  have h1:decide (0<=i)=true:=h
  refine oj_run TT rfl ?_
  refine oj_split 13 rfl (fun h=>?_) (fun h=>?_)
  rotate_left
  · refine oj_run TT rfl ?_
    (repeat (first | refine oj_then ?_ | refine cj_ret ?_))
    refine nj_ret TT rfl fun β w' _ _=>?_
    unfold atG
    rw [show decide (i<(L.length:Int))=false from h,Bool.and_false,Bool.false_and]
    rfl
  have h2:decide (i<(L.length:Int))=true:=h
  refine oj_run TT rfl ?_
  refine oj_callP rfl rfl rfl rfl rfl Tryz.call143 (by (repeat' (first | exact trivial | constructor))) (RSound_c σ L hW ao cap H) fun v hv=>⟨.a (.b (soundG L)),trivial,by rw [hv,rSound_eq hL];rfl,?_⟩
  refine oj_run TT rfl ?_
  (repeat (first | refine oj_then ?_ | refine cj_ret ?_))
  refine nj_ret TT rfl fun β w' _ _=>?_
  unfold atG
  rw [h1,h2]
  rfl
set_option maxRecDepth 100000 in
set_option maxHeartbeats 1000000 in
theorem RLast_c (σ:Snap) (L:List GRec) (hW:recsW L<=100000) (hL:L.length<=4096) (ao:Option Addr) (cap:Nat) (H:SlAt σ ao L.length cap 11 (recRows L)) (i:Int) :
    PlainS Tryz.prog 69 [.a (.v (.slice ao L.length cap)),.a (.v (.int .i64 i))] σ (fun v=>v=.int .i64 (lastA L i)):=by
  unfold lastA
  refine enter_p Tryz.func69 rfl rfl (by (repeat' (first | exact trivial | constructor))) fun w=>?_
  (repeat (first | refine cj_seq ?_ | refine cjr TT rfl ?_ | refine oj_then ?_))
  refine oj_callP rfl rfl rfl rfl rfl Tryz.call145 (by (repeat' (first | exact trivial | constructor))) (RAt_c σ L hW hL ao cap H i) fun v hv=>⟨.a (.b (atG L i)),trivial,hv.symm,?_⟩
  refine oj_run TT rfl ?_
  (repeat refine oj_then ?_)
  refine cj_if rfl (fun h=>?_) (fun h=>?_)
  · have h:atG L i=false:=by simpa using h
    (repeat (first | refine cj_seq ?_ | refine cjr TT rfl ?_ | refine oj_then ?_ | refine cj_ret ?_ | refine nj_then_ret ?_))
    refine nj_ret TT rfl fun β w' _ _=>?_
    rw [if_neg (by simp [h])]
    rfl
  have h:atG L i=true:=by simpa using h
  obtain ⟨j,rfl,hj,hs⟩:=at_bd h
  rw [if_pos h,show ((j:Int)).toNat=j from rfl,rLast_eq (sound_by hs).1 hj]
  unfold rLastG
  have hrow:=recRows_get (List.getElem?_eq_getElem hj)
  rw [lvAt_get (List.getElem?_eq_getElem hj)]
  generalize L[j]=x at *
  (repeat (first | refine cj_seq ?_ | refine cjr TT rfl ?_ | refine oj_then ?_ | refine cj_skip ?_ | refine cj_block ?_ | refine nj_then ?_))
  refine cj_loop (fun _=>σ) (fun (k:Nat)=>[(0,.a (.v (.slice ao L.length cap))),(1,.a (.v (.int .i64 j))),(5,.a (.v (.int .i64 (k:Int))))]) (fun _=>[]) (fun _=>[]) 0
    (fun k=>k<L.length/\k+lvRun x.lv (L.drop (k+1))=j+lvRun x.lv (L.drop (j+1))) (fun k=>L.length - k) j ⟨hj,rfl⟩ rfl (by (repeat first | exact trivial | refine ⟨rfl,?_⟩)) (by (repeat first | exact trivial | refine ⟨rfl,?_⟩)) rfl (by (repeat' (first | exact trivial | constructor))) (by (repeat' exact trivial)) fun k ⟨hk,hp⟩=>?_
  (repeat refine cj_seq ?_)
  refine cj_draw [(0,.pure),(1,.pure),(2,.pure),(3,.pure),(4,.pure),(5,.pure),(6,.pure),(7,.pure),(8,.pure),(9,.pure),(10,.pure),(11,.quiet),(12,.pure),(13,.pure),(14,.pure),(15,.pure),(16,.quiet),(17,.pure),(18,.pure)] mixed (by kernel_rfl) (oj_run TT rfl ?_)
  refine oj_add rfl rfl rfl rfl rfl rfl (by omega) (oj_run TT rfl ?_)
  refine oj_split 16 rfl (fun h=>?_) (fun h=>?_)
  rotate_left
  · have hk0:k+1=L.length:=by have:=of_decide_eq_false h;omega
    refine oj_run TT rfl ?_
    (repeat (first | refine cj_seq ?_ | refine cjr TT rfl ?_ | refine oj_then ?_ | refine cj_if_f rfl ?_ | refine cj_exit ?_ | refine cj_ret ?_ | refine nj_then ?_ | refine nj_then_exit ?_ | refine nj_block_out ?_))
    refine nj_ret TT rfl fun β w' _ _=>?_
    rw [<-hp,hk0,List.drop_length,lvRun]
    rfl
  have hk1:k+1<L.length:=by have:=of_decide_eq_true h;omega
  have hrow1:=recRows_get (List.getElem?_eq_getElem hk1)
  rw [List.drop_eq_getElem_cons hk1,lvRun] at hp
  generalize L[k+1]=y at *
  refine oj_run TT rfl ?_
  refine oj_add rfl rfl rfl rfl rfl rfl (by omega) (oj_run TT rfl ?_)
  rw [show (k:Int)+1=((k+1:Nat):Int) by omega]
  refine oj_idx TT rfl rfl rfl rfl rfl rfl rfl rfl rfl H (by omega) hrow1 (oj_run TT rfl ?_)
  refine oj_idx TT rfl rfl rfl rfl rfl rfl rfl rfl rfl H (by omega) hrow (oj_run TT rfl ?_)
  (repeat refine oj_then ?_)
  refine cj_if rfl (fun h=>?_) (fun h=>?_)
  · rw [if_pos (of_decide_eq_true h)] at hp
    (repeat (first | refine cjr TT rfl ?_ | refine oj_nil ?_ | refine cj_skip ?_ | refine cj_block ?_ | refine nj_then ?_ | refine nj_block ?_ | (refine oj_add rfl rfl rfl rfl rfl rfl (by omega) ?_;refine oj_run TT rfl ?_)))
    refine nj_again (k+1) ⟨hk1,by omega⟩ (by omega) rfl ?_ (by (repeat first | exact trivial | refine ⟨rfl,?_⟩)) rfl (by (repeat' (first | exact trivial | constructor))) (by (repeat' exact trivial))
    (repeat first | exact trivial | refine ⟨rfl,?_⟩)
  · rw [if_neg (of_decide_eq_false h)] at hp
    (repeat (first | refine cj_seq ?_ | refine cjr TT rfl ?_ | refine oj_then ?_ | refine cj_exit ?_ | refine cj_ret ?_ | refine nj_then ?_ | refine nj_then_exit ?_ | refine nj_block_out ?_))
    refine nj_ret TT rfl fun β w' _ _=>?_
    rw [<-hp]
    rfl
set_option maxRecDepth 100000 in
set_option maxHeartbeats 1000000 in
theorem rkids_c (σ:Snap) (L:List GRec) (hL:L.length<=4096) (hlv:∀ r∈L,0<=r.lv/\r.lv<=L.length) (ao:Option Addr) (cap:Nat) (H:SlAt σ ao L.length cap 11 (recRows L)) (i:Nat) (hi:i<L.length) :
    PureS Tryz.prog 146 [.a (.v (.slice ao L.length cap)),.a (.v (.int .i64 i))] σ (fun v σ'=>∃ oo oc,v=.slice oo (rkidsG L i).length oc/\SlAt σ' oo (rkidsG L i).length oc 1 (kidRows (rkidsG L i))):=by
  have hrow:=recRows_get (List.getElem?_eq_getElem hi)
  have hxl:=hlv _ (List.getElem_mem hi)
  have hG:rkidsG L i=rkidsF L[i].lv (i+1) (L.drop (i+1)):=by unfold rkidsG;rw [lvAt_get (List.getElem?_eq_getElem hi)]
  rw [hG]
  generalize L[i]=x at *
  refine enter_s Tryz.func146 rfl rfl (by (repeat' (first | exact trivial | constructor))) fun w=>?_
  (repeat (first | refine cj_seq ?_ | refine cjr TT rfl ?_ | refine oj_then ?_ | refine cj_block ?_ | (refine oj_add rfl rfl rfl rfl rfl rfl (by omega) ?_;refine oj_run TT rfl ?_)))
  refine cj_nilarr 3 1 ?_
  skip
  refine cj_loop (fun _=>σ) (fun (s:KdS)=>[(0,.a (.v (.slice ao L.length cap))),(1,.a (.v (.int .i64 i))),(5,.a (.v (.slice s.oo s.o.length s.oc))),(6,.a (.v (.int .i64 (s.k:Int))))]) (fun _=>[]) (fun s=>[kdE s.oo s.oc s.o]) 0
    (fun s=>s.k<=L.length/\s.o++rkidsF x.lv s.k (L.drop s.k)=rkidsF x.lv (i+1) (L.drop (i+1))/\s.o.length<=s.oc/\s.o.length<=s.k) (fun s=>L.length - s.k) ⟨i+1,0,[],none,0⟩ ⟨hi,rfl,Nat.le_refl _,Nat.zero_le _⟩ rfl (by (repeat first | exact trivial | refine ⟨rfl,?_⟩)) (by (repeat first | exact trivial | refine ⟨rfl,?_⟩)) rfl (by (repeat' (first | exact trivial | constructor))) (by (repeat' exact trivial)) fun ⟨k,n,o,oo,oc⟩ ⟨hk,hp,hoc,hok⟩=>?_
  dsimp only at hk hp hoc hok ⊢
  (repeat refine cj_seq ?_)
  refine cj_draw [(0,.pure),(1,.pure),(2,.pure),(3,.pure),(4,.pure),(5,.pure),(6,.pure),(7,.pure),(8,.pure),(9,.quiet),(10,.pure),(11,.pure),(12,.pure),(13,.pure),(14,.quiet),(15,.pure),(16,.pure)] mixed (by kernel_rfl) (oj_run TT rfl ?_)
  refine oj_split 13 rfl (fun h=>?_) (fun h=>?_)
  rotate_left
  · have hk0:k=L.length:=by have:=of_decide_eq_false h;omega
    subst hk0
    rw [List.drop_length,rkidsF,List.append_nil] at hp
    refine oj_run TT rfl ?_
    (repeat (first | refine cj_seq ?_ | refine cjr TT rfl ?_ | refine oj_then ?_ | refine cj_if_f rfl ?_ | refine cj_exit ?_ | refine cj_ret ?_ | refine nj_then ?_ | refine nj_then_exit ?_ | refine nj_block_out ?_))
    refine nj_seal 0 rfl rfl fun σ' hle' hS=>?_
    refine nj_ret TT rfl fun β w' _ _=>?_
    rw [<-hp]
    exact ⟨oo,oc,rfl,kd_sealed hS hoc⟩
  have hkl:k<L.length:=by have:=of_decide_eq_true h;omega
  have hrow1:=recRows_get (List.getElem?_eq_getElem hkl)
  rw [List.drop_eq_getElem_cons hkl,rkidsF] at hp
  generalize L[k]=y at *
  refine oj_run TT rfl ?_
  refine oj_idx TT rfl rfl rfl rfl rfl rfl rfl rfl rfl H (by omega) hrow1 (oj_run TT rfl ?_)
  refine oj_idx TT rfl rfl rfl rfl rfl rfl rfl rfl rfl H (by omega) hrow (oj_run TT rfl ?_)
  (repeat refine oj_then ?_)
  refine cj_if rfl (fun h=>?_) (fun h=>?_)
  rotate_left
  · rw [if_neg (of_decide_eq_false h),List.append_nil] at hp
    (repeat (first | refine cj_seq ?_ | refine cjr TT rfl ?_ | refine oj_then ?_ | refine cj_exit ?_ | refine cj_ret ?_ | refine nj_then ?_ | refine nj_then_exit ?_ | refine nj_block_out ?_))
    refine nj_seal 0 rfl rfl fun σ' hle' hS=>?_
    refine nj_ret TT rfl fun β w' _ _=>?_
    rw [<-hp]
    exact ⟨oo,oc,rfl,kd_sealed hS hoc⟩
  rw [if_pos (of_decide_eq_true h)] at hp
  (repeat (first | refine cj_seq ?_ | refine cj_skip ?_ | refine cj_block ?_ | refine nj_then ?_))
  refine cj_draw [(0,.pure),(1,.pure),(2,.pure),(3,.pure),(4,.quiet),(5,.pure),(6,.pure),(7,.pure),(8,.pure),(9,.quiet),(10,.pure),(11,.pure)] mixed (by kernel_rfl) (oj_run TT rfl ?_)
  refine oj_idx TT rfl rfl rfl rfl rfl rfl rfl rfl rfl H (by omega) hrow1 (oj_run TT rfl ?_)
  refine oj_idx TT rfl rfl rfl rfl rfl rfl rfl rfl rfl H (by omega) hrow (oj_run TT rfl ?_)
  refine oj_add rfl rfl rfl rfl rfl rfl (by omega) (oj_run TT rfl ?_)
  (repeat refine oj_then ?_)
  refine cj_if rfl (fun h=>?_) (fun h=>?_)
  · have h1:y.lv=x.lv+1:=of_decide_eq_true h
    rw [if_pos h1] at hp
    (repeat refine cjr TT rfl ?_)
    refine oj_append_lit TT 0 rfl rfl rfl rfl rfl rfl rfl rfl rfl rfl rfl rfl rfl rfl rfl rfl rfl rfl (by (repeat' (first | exact trivial | refine AllLt.of ?_ | constructor))) rfl (by omega) (by show (o.length+1)*8<=_;omega) fun ao' cap' hcap'=>oj_run TT rfl ?_
    (repeat (first | refine cjr TT rfl ?_ | refine oj_nil ?_ | refine nj_then ?_ | refine nj_block ?_ | (refine oj_add rfl rfl rfl rfl rfl rfl (by omega) ?_;refine oj_run TT rfl ?_)))
    refine nj_again ⟨k+1,n,o++[k],ao',cap'⟩ ⟨hkl,by dsimp only;rw [List.append_assoc];exact hp,by dsimp only;rw [List.length_append];exact hcap',by dsimp only;rw [List.length_append,List.length_singleton];omega⟩ (by dsimp only;omega) rfl ?_ (by (repeat first | exact trivial | refine ⟨rfl,?_⟩)) ?_ (by (repeat' (first | exact trivial | constructor))) (by (repeat' exact trivial))
    · refine ⟨rfl,rfl,?_,rfl,trivial⟩
      dsimp only
      rw [List.length_append]
      rfl
    · unfold kdE
      dsimp only
      rw [List.length_append]
      simp only [intVs',List.map_append]
      rfl
  · have h1:¬ y.lv=x.lv+1:=of_decide_eq_false h
    rw [if_neg h1] at hp
    (repeat (first | refine cjr TT rfl ?_ | refine oj_nil ?_ | refine cj_skip ?_ | refine nj_then ?_ | refine nj_block ?_ | (refine oj_add rfl rfl rfl rfl rfl rfl (by omega) ?_;refine oj_run TT rfl ?_)))
    refine nj_again ⟨k+1,n,o,oo,oc⟩ ⟨hkl,hp,hoc,by dsimp only;omega⟩ (by dsimp only;omega) rfl (by (repeat first | exact trivial | refine ⟨rfl,?_⟩)) (by (repeat first | exact trivial | refine ⟨rfl,?_⟩)) rfl (by (repeat' (first | exact trivial | constructor))) (by (repeat' exact trivial))
set_option maxRecDepth 100000 in
set_option maxHeartbeats 1000000 in
theorem RKids_c (σ:Snap) (L:List GRec) (hW:recsW L<=100000) (hL:L.length<=4096) (ao:Option Addr) (cap:Nat) (H:SlAt σ ao L.length cap 11 (recRows L)) (i:Int) :
    PureS Tryz.prog 67 [.a (.v (.slice ao L.length cap)),.a (.v (.int .i64 i))] σ (fun v σ'=>∃ oo oc,v=.slice oo (kidsA L i).length oc/\SlAt σ' oo (kidsA L i).length oc 1 (kidRows (kidsA L i))):=by
  unfold kidsA
  refine enter_s Tryz.func67 rfl rfl (by (repeat' (first | exact trivial | constructor))) fun w=>?_
  (repeat (first | refine cj_seq ?_ | refine cjr TT rfl ?_ | refine oj_then ?_))
  refine oj_callP rfl rfl rfl rfl rfl Tryz.call145 (by (repeat' (first | exact trivial | constructor))) (RAt_c σ L hW hL ao cap H i) fun v hv=>⟨.a (.b (atG L i)),trivial,hv.symm,?_⟩
  refine oj_run TT rfl ?_
  (repeat refine oj_then ?_)
  refine cj_if rfl (fun h=>?_) (fun h=>?_)
  · have h:atG L i=false:=by simpa using h
    rw [if_neg (by simp [h])]
    (repeat (first | refine cj_seq ?_ | refine cjr TT rfl ?_ | refine oj_then ?_ | refine cj_ret ?_ | refine nj_then_ret ?_))
    refine nj_ret TT rfl fun β w' _ _=>?_
    exact ⟨none,0,rfl,SlAt.nil _ _ _ _⟩
  have h:atG L i=true:=by simpa using h
  obtain ⟨j,rfl,hj,hs⟩:=at_bd h
  have hb:=sound_by hs
  rw [if_pos h,show ((j:Int)).toNat=j from rfl,rkids_eq hb.1 hb.2.1 hj]
  (repeat (first | refine cj_seq ?_ | refine cjr TT rfl ?_ | refine cj_skip ?_ | refine nj_then ?_))
  refine oj_callS rfl rfl rfl rfl rfl Tryz.call146 ⟨trivial,trivial,trivial⟩ (rkids_c σ L hL (sound_levels hs) ao cap H j hj) fun v σ1 hle ⟨oo,oc,hv,hS⟩=>⟨.a (.v (.slice oo (rkidsG L j).length oc)),trivial,hv.symm,?_⟩
  refine oj_run TT rfl ?_
  (repeat (first | refine oj_then ?_ | refine cj_ret ?_))
  refine nj_ret TT rfl fun β w' _ _=>?_
  exact ⟨oo,oc,rfl,hS⟩
end Go.Sy
namespace Go.Sy
open Go.Proofs
set_option maxRecDepth 100000 in
set_option maxHeartbeats 4000000 in
theorem rval12_c (L:List GRec) (hF:RecsFit L) (hL:L.length<=100000) (hlv:∀ r∈L,0<=r.lv/\r.lv<=1000000) (ao:Option Addr) (cap:Nat):∀ (n:Nat) (σ:Snap) (k:Nat),SlAt σ ao L.length cap 11 (recRows L)->k<L.length->L.length - k<=n ->
    PureS Tryz.prog 148 [.a (.v (.slice ao L.length cap)),.a (.v (.int .i64 k))] σ (fun v σ'=>∃ r,v=(SV.agg r).den β0/\RepV σ' (rvalN L n k) r):=by
  intro n
  induction n with
  | zero=>intro _ _ _ h1 h2;omega
  | succ n ih=>?_
  intro σ k H hk hn
  have hLk:L[k]?=some L[k]:=List.getElem?_eq_getElem hk
  have hrow:(recRows L)[k]?=some (recCells L[k]):=recRows_get hLk
  have hfit:=hF _ (List.getElem_mem hk)
  have hxl:=hlv _ (List.getElem_mem hk)
  have hcap:=H.ncap
  have hdl:(L.drop (k+1)).length=L.length - (k+1):=List.length_drop
  rw [rvalN,hLk]
  generalize hx:L[k]=x at *
  dsimp only
  refine enter_s Tryz.func148 rfl rfl (by (repeat' (first | exact trivial | constructor))) fun w=>?_
  (repeat (first | refine cj_seq ?_ | refine cjr TT rfl ?_ | refine oj_then ?_))
  refine oj_idx TT rfl rfl rfl rfl rfl rfl rfl rfl rfl H (by omega) hrow (oj_run TT rfl ?_)
  (repeat (first | refine cj_seq ?_ | refine cjr TT rfl ?_ | refine oj_then ?_ | refine cj_block ?_ | (refine oj_add rfl rfl rfl rfl rfl rfl (by omega) ?_;refine oj_run TT rfl ?_)))
  refine cj_nilarr 28 8 (cj_nilarr 184 9 ?_)
  refine cj_cutB (fun (s:RbS)=>s.σ) (fun s=>[(6,.a (.p 3 0)),(4,.a (.p 0 0))])
    (fun s=>[(0,.loc 28,zeroV),(3,.loc 28,rbCells x s)]) rbA 4
    (fun s=>σ.le s.σ/\s.ls=(rvalL (rvalN L n) x.lv (k+1) (L.drop (k+1))).ls/\s.ks=(rvalL (rvalN L n) x.lv (k+1) (L.drop (k+1))).ks/\s.vs=(rvalL (rvalN L n) x.lv (k+1) (L.drop (k+1))).vs /\
      RepL s.σ s.ls s.lr/\RepL s.σ s.vs s.vr/\s.ks.length=s.vs.length/\s.ls.length+s.ks.length<=L.length/\(∀ y∈s.ks,y.size<=mostLen)/\s.ls.length<=s.lc/\s.ks.length<=s.mc) ?_
    (fun s ⟨hs,e1,e2,e3,hR1,hR2,hkv,hlen,hky,hc1,hc2⟩=>?_)
  · refine cj_loop (fun (s:RbS)=>s.σ) (fun s=>[(0,.a (.v (.slice ao L.length cap))),(5,.a (.p 2 0)),(6,.a (.p 3 0)),(7,.a (.v (.int .i64 s.k))),(4,.a (.p 0 0))])
      (fun s=>[(0,.loc 28,zeroV),(2,.loc 131,recCells x),(3,.loc 28,rbCells x s)]) rbA 4
      (fun s=>σ.le s.σ/\s.ls++(rvalL (rvalN L n) x.lv s.k (L.drop s.k)).ls=(rvalL (rvalN L n) x.lv (k+1) (L.drop (k+1))).ls/\s.ks++(rvalL (rvalN L n) x.lv s.k (L.drop s.k)).ks=(rvalL (rvalN L n) x.lv (k+1) (L.drop (k+1))).ks/\s.vs++(rvalL (rvalN L n) x.lv s.k (L.drop s.k)).vs=(rvalL (rvalN L n) x.lv (k+1) (L.drop (k+1))).vs /\
        RepL s.σ s.ls s.lr/\RepL s.σ s.vs s.vr/\s.ks.length=s.vs.length/\k<s.k/\s.k<=L.length/\s.ls.length+s.ks.length+(L.length - s.k)<=L.length/\(∀ y∈s.ks,y.size<=mostLen)/\s.ls.length<=s.lc/\s.ks.length<=s.mc)
      (fun s=>L.length - s.k) ⟨σ,0,k+1,[],[],none,0,[],[],[],none,0⟩ ⟨Snap.le_refl _,rfl,rfl,rfl,rfl,rfl,rfl,by dsimp only;omega,by dsimp only;omega,by dsimp only [List.length_nil];omega,fun y h=>(by cases h),Nat.le_refl _,Nat.le_refl _⟩
      rfl (by (repeat first | exact trivial | refine ⟨rfl,?_⟩)) (by (repeat first | exact trivial | refine ⟨rfl,?_⟩)) rfl (by (repeat' (first | exact trivial | exact Nat.le_of_ble_eq_true rfl | constructor))) (by (repeat' (first | exact trivial | exact Nat.le_of_ble_eq_true rfl | refine AllLt.of ?_ | constructor))) fun ⟨s,m,k1,ls,lr,la,lc,ks,vs,vr,ma,mc⟩ ⟨hs,e1,e2,e3,hR1,hR2,hkv,hk1,hk2,hlen,hky,hc1,hc2⟩=>?_
    dsimp only at hs e1 e2 e3 hR1 hR2 hkv hk1 hk2 hlen hky hc1 hc2 ⊢
    (repeat refine cj_seq ?_)
    refine cj_draw [(0,.pure),(1,.pure),(2,.pure),(3,.pure),(4,.pure),(5,.pure),(6,.pure),(7,.pure),(8,.pure),(9,.quiet),(10,.pure),(11,.quiet),(12,.pure),(13,.pure)] mixed (by kernel_rfl) (oj_run TT rfl ?_)
    refine oj_split 27 rfl (fun h=>?_) (fun h=>?_)
    rotate_left
    · have hk0:k1=L.length:=by have:=of_decide_eq_false h;omega
      subst hk0
      rw [List.drop_length,rvalL] at e1 e2 e3
      simp only [List.append_nil] at e1 e2 e3
      refine oj_run TT rfl ?_
      (repeat (first | refine oj_then ?_ | refine cj_if_f rfl ?_ | refine cj_exit ?_ | refine nj_then_exit ?_ | refine nj_block_out ?_))
      refine nj_again ⟨s,m,L.length,ls,lr,la,lc,ks,vs,vr,ma,mc⟩ ⟨hs,e1,e2,e3,hR1,hR2,hkv,by dsimp only;omega,hky,hc1,hc2⟩ Nat.zero_lt_one rfl (by (repeat first | exact trivial | refine ⟨rfl,?_⟩)) (by (repeat first | exact trivial | refine ⟨rfl,?_⟩)) rfl (by (repeat' (first | exact trivial | exact Nat.le_of_ble_eq_true rfl | constructor))) (by (repeat' (first | exact trivial | exact Nat.le_of_ble_eq_true rfl | refine AllLt.of ?_ | constructor)))
    have hkl:k1<L.length:=by have:=of_decide_eq_true h;omega
    have hd1:L.drop k1=L[k1]::L.drop (k1+1):=List.drop_eq_getElem_cons hkl
    have hrow1:(recRows L)[k1]?=some (recCells L[k1]):=recRows_get (List.getElem?_eq_getElem hkl)
    have hfit1:=hF _ (List.getElem_mem hkl)
    generalize hy:L[k1]=y at *
    rw [hd1,rvalL] at e1 e2 e3
    refine oj_run TT rfl ?_
    refine oj_idx TT rfl rfl rfl rfl rfl rfl rfl rfl rfl (H.mono hs) (by omega) hrow1 (oj_run TT rfl ?_)
    (repeat refine oj_then ?_)
    refine cj_if rfl (fun h=>?_) (fun h=>?_)
    rotate_left
    · have hlv:¬ x.lv<y.lv:=of_decide_eq_false h
      simp only [if_neg hlv,List.append_nil] at e1 e2 e3
      (repeat (first | refine cj_exit ?_ | refine nj_then_exit ?_ | refine nj_block_out ?_))
      refine nj_again ⟨s,m,k1,ls,lr,la,lc,ks,vs,vr,ma,mc⟩ ⟨hs,e1,e2,e3,hR1,hR2,hkv,by dsimp only;omega,hky,hc1,hc2⟩ Nat.zero_lt_one rfl (by (repeat first | exact trivial | refine ⟨rfl,?_⟩)) (by (repeat first | exact trivial | refine ⟨rfl,?_⟩)) rfl (by (repeat' (first | exact trivial | exact Nat.le_of_ble_eq_true rfl | constructor))) (by (repeat' (first | exact trivial | exact Nat.le_of_ble_eq_true rfl | refine AllLt.of ?_ | constructor)))
    have hlv:x.lv<y.lv:=of_decide_eq_true h
    rw [if_pos hlv] at e1 e2 e3
    (repeat (first | refine cj_seq ?_ | refine cj_skip ?_ | refine cj_block ?_ | refine nj_then ?_))
    refine cj_draw [(0,.pure),(1,.pure),(2,.pure),(3,.pure),(4,.quiet),(5,.pure),(6,.quiet),(7,.pure),(8,.pure)] mixed (by kernel_rfl) (oj_run TT rfl ?_)
    refine oj_idx TT rfl rfl rfl rfl rfl rfl rfl rfl rfl (H.mono hs) (by omega) hrow1 (oj_run TT rfl ?_)
    refine oj_add rfl rfl rfl rfl rfl rfl (by omega) (oj_run TT rfl ?_)
    (repeat refine oj_then ?_)
    refine cj_if rfl (fun h=>?_) (fun h=>?_)
    · have h1:¬ y.lv=x.lv+1:=by simpa using h
      rw [if_neg h1] at e1 e2 e3
      (repeat (first | refine cjr TT rfl ?_ | refine oj_nil ?_ | refine cj_exit ?_ | refine nj_then ?_ | refine nj_then_exit ?_ | refine nj_block_out ?_ | (refine oj_add rfl rfl rfl rfl rfl rfl (by omega) ?_;refine oj_run TT rfl ?_)))
      refine nj_again ⟨s,m,k1+1,ls,lr,la,lc,ks,vs,vr,ma,mc⟩ ⟨hs,e1,e2,e3,hR1,hR2,hkv,by dsimp only;omega,hkl,by dsimp only;omega,hky,hc1,hc2⟩ (by dsimp only;omega) rfl (by (repeat first | exact trivial | refine ⟨rfl,?_⟩)) (by (repeat first | exact trivial | refine ⟨rfl,?_⟩)) rfl (by (repeat' (first | exact trivial | exact Nat.le_of_ble_eq_true rfl | constructor))) (by (repeat' (first | exact trivial | exact Nat.le_of_ble_eq_true rfl | refine AllLt.of ?_ | constructor)))
    have h1:y.lv=x.lv+1:=by simpa using h
    rw [if_pos h1] at e1 e2 e3
    have hlr:=hR1.len
    have hvr:=hR2.len
    (repeat (first | refine cj_seq ?_ | refine cjr TT rfl ?_ | refine cj_skip ?_ | refine nj_then ?_))
    refine oj_idx TT rfl rfl rfl rfl rfl rfl rfl rfl rfl (H.mono hs) (by omega) hrow1 (oj_run TT rfl ?_)
    (repeat refine oj_then ?_)
    refine cj_if rfl (fun h=>?_) (fun h=>?_)
    · simp only [if_pos (show y.nm=true from h)] at e1 e2 e3
      skip
      refine cj_draw [(0,.pure),(1,.quiet),(2,.pure),(3,.pure),(4,.pure),(5,.pure),(6,.quiet),(7,.pure),(8,.pure),(9,.keep),(10,.pure),(11,.keep),(12,.sink),(13,.pure),(14,.sink)] mixed (by kernel_rfl) (oj_run TT rfl ?_)
      refine oj_idx TT rfl rfl rfl rfl rfl rfl rfl rfl rfl (H.mono hs) (by omega) hrow1 (oj_run TT rfl ?_)
      refine oj_callS rfl rfl rfl rfl rfl Tryz.call148 ⟨trivial,trivial,trivial⟩ (ih s k1 (H.mono hs) hkl (by omega)) fun v σ2 hle2 ⟨rr,hv,hrep⟩=>⟨.agg rr,hrep.clo,hv.symm,?_⟩
      generalize rvalN L n k1=gx at *
      obtain ⟨xla,xlc,xlrows,xma,xmc,xvrows,rfl,XV⟩:=hrep.open
      have hs2:=Snap.le_trans hs hle2
      have hR1':=hR1.mono hle2
      have hR2':=hR2.mono hle2
      refine oj_run TT rfl ?_
      refine oj_append_lit TT 1 rfl rfl rfl rfl rfl rfl rfl rfl rfl rfl rfl rfl rfl rfl rfl rfl rfl rfl (by (repeat' (first | exact trivial | refine AllLt.of ?_ | constructor))) rfl (by omega) (by show (ks.length+1)*128<=_;omega) fun ao' cap' hcap'=>oj_run TT rfl ?_
      (repeat (first | refine cjr TT rfl ?_ | refine oj_nil ?_ | refine nj_then ?_ | refine nj_block ?_ | (refine oj_add rfl rfl rfl rfl rfl rfl (by omega) ?_;refine oj_run TT rfl ?_)))
      refine nj_again ⟨σ2,m,k1+1,ls,lr,la,lc,ks++[y.name],vs++[gx],vr++[vCells gx xla xlc xma xmc],ao',cap'⟩
        ⟨hs2,e1,by rw [List.append_assoc];exact e2,by rw [List.append_assoc];exact e3,hR1',RepL.append hR2' ⟨_,_,rfl,hrep,rfl⟩,by simp [hkv],by dsimp only;omega,hkl,by dsimp only;rw [List.length_append,List.length_singleton];omega,
          fun z hz=>by
            rcases List.mem_append.1 hz with hz | hz
            · exact hky z hz
            · rw [List.mem_singleton.1 hz];exact hfit1.2.2,hc1,by dsimp only;rw [List.length_append];exact hcap'⟩ (by dsimp only;omega) rfl (by (repeat first | exact trivial | refine ⟨rfl,?_⟩)) ?_ ?_ (by (repeat' (first | exact trivial | exact Nat.le_of_ble_eq_true rfl | constructor))) (by (repeat' (first | exact trivial | exact Nat.le_of_ble_eq_true rfl | refine AllLt.of ?_ | constructor)))
      · refine ⟨rfl,rfl,?_,trivial⟩
        show some _=some _
        unfold rbCells
        rw [List.length_append]
        rfl
      · unfold rbA
        dsimp only
        rw [keyRows_snoc _ _ _ _ (by omega),List.length_append]
        simp only [List.flatten_append,List.map_append,List.flatten_cons,List.flatten_nil,List.append_nil]
        rfl
    · simp only [if_neg (show ¬ y.nm=true by simp [show y.nm=false from h])] at e1 e2 e3
      skip
      refine cj_draw [(0,.pure),(1,.quiet),(2,.pure),(3,.pure),(4,.keep),(5,.keep),(6,.sink),(7,.pure),(8,.sink)] mixed (by kernel_rfl) (oj_run TT rfl ?_)
      refine oj_callS rfl rfl rfl rfl rfl Tryz.call148 ⟨trivial,trivial,trivial⟩ (ih s k1 (H.mono hs) hkl (by omega)) fun v σ2 hle2 ⟨rr,hv,hrep⟩=>⟨.agg rr,hrep.clo,hv.symm,?_⟩
      generalize rvalN L n k1=gx at *
      obtain ⟨xla,xlc,xlrows,xma,xmc,xvrows,rfl,XV⟩:=hrep.open
      have hs2:=Snap.le_trans hs hle2
      have hR1':=hR1.mono hle2
      have hR2':=hR2.mono hle2
      refine oj_run TT rfl ?_
      refine oj_append_lit TT 0 rfl rfl rfl rfl rfl rfl rfl rfl rfl rfl rfl rfl rfl rfl rfl rfl rfl rfl (by (repeat' exact vCells_lt _ _ _ _ _ _)) rfl (by omega) (by show (ls.length+1)*112<=_;omega) fun ao' cap' hcap'=>oj_run TT rfl ?_
      (repeat (first | refine cjr TT rfl ?_ | refine oj_nil ?_ | refine nj_then ?_ | refine nj_block ?_ | (refine oj_add rfl rfl rfl rfl rfl rfl (by omega) ?_;refine oj_run TT rfl ?_)))
      refine nj_again ⟨σ2,m,k1+1,ls++[gx],lr++[vCells gx xla xlc xma xmc],ao',cap',ks,vs,vr,ma,mc⟩
        ⟨hs2,by rw [List.append_assoc];exact e1,e2,e3,RepL.append hR1' ⟨_,_,rfl,hrep,rfl⟩,hR2',hkv,by dsimp only;omega,hkl,by dsimp only;rw [List.length_append,List.length_singleton];omega,
          hky,by dsimp only;rw [List.length_append];exact hcap',hc2⟩ (by dsimp only;omega) rfl (by (repeat first | exact trivial | refine ⟨rfl,?_⟩)) ?_ ?_ (by (repeat' (first | exact trivial | exact Nat.le_of_ble_eq_true rfl | constructor))) (by (repeat' (first | exact trivial | exact Nat.le_of_ble_eq_true rfl | refine AllLt.of ?_ | constructor)))
      · refine ⟨rfl,rfl,?_,trivial⟩
        show some _=some _
        unfold rbCells
        rw [List.length_append]
        rfl
      · unfold rbA
        dsimp only
        rw [List.length_append]
        simp only [List.flatten_append,List.map_append,List.flatten_cons,List.flatten_nil,List.append_nil]
        rfl
  obtain ⟨s,m,k1,ls,lr,la,lc,ks,vs,vr,ma,mc⟩:=s
  dsimp only at hs e1 e2 e3 hR1 hR2 hkv hlen hky hc1 hc2 ⊢
  rw [<-e1,<-e2,<-e3]
  clear e1 e2 e3
  have hlr:=hR1.len
  have hvr:=hR2.len
  (repeat (first | refine cj_seq ?_ | refine cjr TT rfl ?_ | refine oj_then ?_ | refine cj_ret ?_))
  refine nj_seal 0 rfl rfl fun σ1 hle1 hS1=>?_
  refine nj_seal 0 rfl rfl fun σ2 hle2 hS2=>?_
  refine nj_ret TT rfl fun β w' _ _=>?_
  have S1:=(hS1.sl (rows:=lr) (sz:=8) rfl (fun r hr=>⟨(hR1.rows r hr).1,(hR1.rows r hr).2.1⟩) hlr rfl hc1).mono hle2
  have S2:=hS2.sl (rows:=keyRows ks vr) (sz:=9) (n:=ks.length) rfl (fun r hr=>?_) (keyRows_len (by omega)) rfl hc2
  · refine ⟨rbCells x ⟨s,m,k1,ls,lr,la,lc,ks,vs,vr,ma,mc⟩,rfl,?_⟩
    simp only [RepV]
    exact ⟨la,lc,lr,ma,mc,vr,rfl,S1,(hR1.mono hle1).mono hle2,hkv,S2,(hR2.mono hle1).mono hle2,hfit.1,hfit.2.1,by simp only [mostLen];omega,by simp only [mostLen];omega,hky⟩
  · obtain ⟨j,hj⟩:=List.getElem?_of_mem hr
    have hjl:=(List.getElem?_eq_some_iff.1 hj).1
    rw [keyRows_len (by omega)] at hjl
    have hg:=keyRows_get (List.getElem?_eq_getElem hjl) (List.getElem?_eq_getElem (l:=vr) (i:=j) (by omega))
    rw [hg] at hj
    injection hj with hj
    subst hj
    have:=hR2.rows _ (List.getElem_mem (l:=vr) (n:=j) (by omega))
    exact ⟨by simp [keyRow,this.1],keyRow_lt this.2.1⟩
end Go.Sy
namespace Go.Sy
open Go.Proofs
theorem snd_all {L:List GRec} (hW:recsW L<=100000):SndL L:=by
  have hl:=recsW_len L
  refine ⟨recs_ok hW,by omega,fun _ i _=>⟨(kidsG_bd L i).1,by have:=(kidsG_bd L i).2;omega⟩,fun hs r hr=>?_⟩
  obtain ⟨hlay,-,-⟩:=sound_lay hs
  have:=hlay.bd r hr
  have:=(sound_all hs).2.2.2.1
  omega
set_option maxRecDepth 100000 in
set_option maxHeartbeats 1000000 in
theorem rplace12_c (σ:Snap) (L:List GRec) (hW:recsW L<=100000) (hL:L.length<=4096) (ao:Option Addr) (cap:Nat) (H:SlAt σ ao L.length cap 11 (recRows L)) (i:Int) :
    PlainS Tryz.prog 64 [.a (.v (.slice ao L.length cap)),.a (.v (.int .i64 i))] σ (fun v=>v=.int .i64 (placeE L i)):=by
  have hpe:placeE L i=if soundG L=false then 2 else if i<0\/(L.length:Int)<=i then 1 else 0:=rfl
  refine enter_p Tryz.func64 rfl rfl (by (repeat' (first | exact trivial | constructor))) fun w=>?_
  (repeat (first | refine cj_seq ?_ | refine cjr TT rfl ?_ | refine oj_then ?_))
  refine oj_callP rfl rfl rfl rfl rfl Tryz.call143 (by (repeat' (first | exact trivial | constructor))) (RSound_c σ L hW ao cap H) fun v hv=>⟨.a (.b (soundG L)),trivial,by rw [hv,rSound_eq hL];rfl,?_⟩
  refine oj_run TT rfl ?_
  (repeat refine oj_then ?_)
  refine cj_if rfl (fun h=>?_) (fun h=>?_)
  · have h:soundG L=false:=by simpa using h
    rw [if_pos h] at hpe
    (repeat (first | refine cj_seq ?_ | refine cjr TT rfl ?_ | refine oj_then ?_ | refine cj_ret ?_ | refine nj_then_ret ?_))
    refine nj_ret TT rfl fun β w' _ _=>?_
    rw [hpe]
    rfl
  have h:soundG L=true:=by simpa using h
  rw [if_neg (by rw [h];decide)] at hpe
  (repeat (first | refine cj_seq ?_ | refine cjr TT rfl ?_ | refine cj_skip ?_ | refine nj_then ?_))
  refine oj_split 10 rfl (fun h2=>?_) (fun h2=>?_)
  · rw [if_pos (.inl (of_decide_eq_true h2))] at hpe
    refine oj_run TT rfl ?_
    (repeat (first | refine cj_seq ?_ | refine cjr TT rfl ?_ | refine oj_then ?_ | refine cj_if_t rfl ?_ | refine cj_ret ?_ | refine nj_then_ret ?_))
    refine nj_ret TT rfl fun β w' _ _=>?_
    rw [hpe]
    rfl
  have h1:=of_decide_eq_false h2
  refine oj_run TT rfl ?_
  (repeat refine oj_then ?_)
  refine cj_if rfl (fun h2=>?_) (fun h2=>?_)
  · rw [if_pos (.inr (of_decide_eq_true h2))] at hpe
    (repeat (first | refine cj_seq ?_ | refine cjr TT rfl ?_ | refine oj_then ?_ | refine cj_ret ?_ | refine nj_then_ret ?_))
    refine nj_ret TT rfl fun β w' _ _=>?_
    rw [hpe]
    rfl
  · have h2:=of_decide_eq_false h2
    rw [if_neg (by omega)] at hpe
    (repeat (first | refine cj_seq ?_ | refine cjr TT rfl ?_ | refine oj_then ?_ | refine cj_skip ?_ | refine cj_ret ?_ | refine nj_then ?_))
    refine nj_ret TT rfl fun β w' _ _=>?_
    rw [hpe]
    rfl
theorem kidRows_get {ks:List Nat} {i:Nat} {x:Nat} (h:ks[i]?=some x):(kidRows ks)[i]?=some [.v (.int .i64 x)]:=by unfold kidRows;rw [List.getElem?_map,h];rfl
set_option maxRecDepth 100000 in
set_option maxHeartbeats 1000000 in
theorem bounds_c (σ:Snap) (L:List GRec) (hW:recsW L<=100000) (hL:L.length<=4096) (ao:Option Addr) (cap:Nat) (H:SlAt σ ao L.length cap 11 (recRows L)) (i:Nat) (hi:i<L.length) (hs:soundG L=true) (k:Int) :
    PureS Tryz.prog 65 [.a (.v (.slice ao L.length cap)),.a (.v (.int .i64 i)),.a (.v (.int .i64 k))] σ (fun v _=>v=match gapG L i k with | none=>.tuple #[.int .i64 0,.int .i64 0,.bool false] | some g=>.tuple #[.int .i64 g.lo,.int .i64 g.hi,.bool true]):=by
  have hat:atG L i=true:=by
    unfold atG
    rw [hs]
    simp
    omega
  have hka:kidsA L i=kidsG L i:=by unfold kidsA;rw [if_pos hat];rfl
  have hkb:=kidsG_bd L i
  have hkd:=RKids_c σ L hW hL ao cap H i
  rw [hka] at hkd
  have hgg:gapG L i k=if k<0\/((kidsG L i).length:Int)<k then none else some (gapK L (kidsG L i) i k.toNat):=rfl
  have hrow:=recRows_get (List.getElem?_eq_getElem hi)
  have hst:=st_at (List.getElem?_eq_getElem hi)
  have hen:=en_at (List.getElem?_eq_getElem hi)
  generalize L[i]=x at *
  generalize kidsG L i=ks at *
  refine enter_s Tryz.func65 rfl rfl (by (repeat' (first | exact trivial | constructor))) fun w=>?_
  (repeat (first | refine cj_seq ?_ | refine cjr TT rfl ?_ | refine oj_then ?_))
  refine oj_callS rfl rfl rfl rfl rfl Tryz.call67 ⟨trivial,trivial,trivial⟩ hkd fun v σ1 hle1 ⟨qo,qc,hv,HK⟩=>⟨.a (.v (.slice qo ks.length qc)),trivial,hv.symm,?_⟩
  have H:=H.mono hle1
  refine oj_run TT rfl ?_
  (repeat (first | refine cj_seq ?_ | refine cjr TT rfl ?_ | refine oj_then ?_))
  refine oj_split 17 rfl (fun h=>?_) (fun h=>?_)
  · rw [if_pos (.inl (of_decide_eq_true h))] at hgg
    rw [hgg]
    refine oj_run TT rfl ?_
    (repeat (first | refine cj_seq ?_ | refine cjr TT rfl ?_ | refine oj_then ?_ | refine cj_if_t rfl ?_ | refine cj_ret ?_ | refine nj_then_ret ?_))
    refine nj_ret TT rfl fun β w' _ _=>?_
    rfl
  have h1:=of_decide_eq_false h
  refine oj_run TT rfl ?_
  (repeat refine oj_then ?_)
  refine cj_if rfl (fun h=>?_) (fun h=>?_)
  · rw [if_pos (.inr (of_decide_eq_true h))] at hgg
    rw [hgg]
    (repeat (first | refine cj_seq ?_ | refine cjr TT rfl ?_ | refine oj_then ?_ | refine cj_ret ?_ | refine nj_then_ret ?_))
    refine nj_ret TT rfl fun β w' _ _=>?_
    rfl
  have h2:=of_decide_eq_false h
  rw [if_neg (by omega)] at hgg
  rw [hgg]
  obtain ⟨k,rfl⟩:∃ j:Nat,k=j:=⟨k.toNat,by omega⟩
  rw [Int.toNat_natCast]
  dsimp only
  unfold gapK
  dsimp only
  rw [hst,hen]
  (repeat (first | refine cj_seq ?_ | refine cjr TT rfl ?_ | refine cj_skip ?_ | refine nj_then ?_))
  refine oj_idx TT rfl rfl rfl rfl rfl rfl rfl rfl rfl H (by omega) hrow (oj_run TT rfl ?_)
  (repeat (first | refine cj_seq ?_ | refine cjr TT rfl ?_ | refine oj_then ?_))
  refine oj_idx TT rfl rfl rfl rfl rfl rfl rfl rfl rfl H (by omega) hrow (oj_run TT rfl ?_)
  (repeat (first | refine cj_seq ?_ | refine cjr TT rfl ?_ | refine oj_then ?_))
  refine cj_cutN (fun (_:Unit)=>σ1) (fun _=>[(0,.a (.v (.slice ao L.length cap))),(2,.a (.v (.int .i64 k))),(9,.a (.v (.slice qo ks.length qc))),(10,.a (.v (.int .i64 (if 0<k then enAt L (ks.getD (k - 1) 0) else x.st)))),(11,.a (.v (.int .i64 x.en)))]) (fun _=>[]) (fun _=>[]) 0 (fun _=>True) ?_ (fun _ _=>?_)
  · refine cj_if rfl (fun h=>?_) (fun h=>?_)
    · have hk0:0<k:=by have:=of_decide_eq_true h;omega
      have hkm:k - 1<ks.length:=by omega
      have hm:=List.getElem?_eq_getElem hkm
      have hmr:=kidRows_get hm
      have hml:=hkb.1 _ (List.mem_of_getElem? hm)
      have hq:=recRows_get (List.getElem?_eq_getElem hml)
      have he:=en_at (List.getElem?_eq_getElem hml)
      rw [if_pos hk0,getD_get hm,he]
      generalize L[ks[k - 1]]=y at *
      generalize ks[k - 1]=m at *
      (repeat (first | refine cjr TT rfl ?_ | (refine oj_minus rfl rfl rfl rfl rfl rfl (by omega) ?_;refine oj_run TT rfl ?_)))
      rw [show (k:Int) - 1=((k - 1:Nat):Int) by omega]
      refine oj_idx TT rfl rfl rfl rfl rfl rfl rfl rfl rfl HK (by omega) hmr (oj_run TT rfl ?_)
      refine oj_idx TT rfl rfl rfl rfl rfl rfl rfl rfl rfl H (by omega) hq (oj_run TT rfl ?_)
      (repeat refine oj_nil ?_)
      refine nj_again () trivial Nat.zero_lt_one rfl (by (repeat first | exact trivial | refine ⟨rfl,?_⟩)) (by (repeat first | exact trivial | refine ⟨rfl,?_⟩)) rfl (by (repeat' (first | exact trivial | constructor))) (by (repeat' exact trivial))
    · have hk0:¬ 0<k:=by have:=of_decide_eq_false h;omega
      rw [if_neg hk0]
      (repeat refine cj_skip ?_)
      refine nj_again () trivial Nat.zero_lt_one rfl (by (repeat first | exact trivial | refine ⟨rfl,?_⟩)) (by (repeat first | exact trivial | refine ⟨rfl,?_⟩)) rfl (by (repeat' (first | exact trivial | constructor))) (by (repeat' exact trivial))
  generalize (if 0<k then enAt L (ks.getD (k - 1) 0) else x.st)=lo at *
  (repeat (first | refine cj_seq ?_ | refine cjr TT rfl ?_ | refine oj_then ?_))
  refine cj_if rfl (fun h=>?_) (fun h=>?_)
  · have hkl:k<ks.length:=by have:=of_decide_eq_true h;omega
    have hm:=List.getElem?_eq_getElem hkl
    have hmr:=kidRows_get hm
    have hml:=hkb.1 _ (List.mem_of_getElem? hm)
    have hq:=recRows_get (List.getElem?_eq_getElem hml)
    have he:=st_at (List.getElem?_eq_getElem hml)
    rw [if_pos hkl,getD_get hm,he]
    generalize L[ks[k]]=y at *
    generalize ks[k]=m at *
    (repeat refine cjr TT rfl ?_)
    refine oj_idx TT rfl rfl rfl rfl rfl rfl rfl rfl rfl HK (by omega) hmr (oj_run TT rfl ?_)
    refine oj_idx TT rfl rfl rfl rfl rfl rfl rfl rfl rfl H (by omega) hq (oj_run TT rfl ?_)
    (repeat (first | refine cj_seq ?_ | refine cjr TT rfl ?_ | refine oj_then ?_ | refine cj_ret ?_))
    refine nj_ret TT rfl fun β w' _ _=>?_
    rfl
  · have hkl:¬ k<ks.length:=by have:=of_decide_eq_false h;omega
    rw [if_neg hkl]
    (repeat (first | refine cj_seq ?_ | refine cjr TT rfl ?_ | refine oj_then ?_ | refine cj_skip ?_ | refine cj_ret ?_ | refine nj_then ?_))
    refine nj_ret TT rfl fun β w' _ _=>?_
    rfl
set_option maxRecDepth 100000 in
set_option maxHeartbeats 1000000 in
theorem RRoom_c (σ:Snap) (L:List GRec) (hW:recsW L<=100000) (hL:L.length<=4096) (ao:Option Addr) (cap:Nat) (H:SlAt σ ao L.length cap 11 (recRows L)) (i k:Int) :
    PureS Tryz.prog 26 [.a (.v (.slice ao L.length cap)),.a (.v (.int .i64 i)),.a (.v (.int .i64 k))] σ (fun v _=>v=.int .i64 (roomG L i k)):=by
  have hrg:roomG L i k=if placeE L i≠0 then -1 else match gapG L i.toNat k with | none => -1 | some g=>g.hi - g.lo - 1:=rfl
  have S:=snd_all hW
  refine enter_s Tryz.func26 rfl rfl (by (repeat' (first | exact trivial | constructor))) fun w=>?_
  (repeat (first | refine cj_seq ?_ | refine cjr TT rfl ?_ | refine oj_then ?_))
  refine oj_callP rfl rfl rfl rfl rfl Tryz.call64 (by (repeat' (first | exact trivial | constructor))) (rplace12_c σ L hW hL ao cap H i) fun v hv=>⟨.a (.v (.int .i64 (placeE L i))),trivial,hv.symm,?_⟩
  refine oj_run TT rfl ?_
  (repeat refine oj_then ?_)
  refine cj_if rfl (fun h=>?_) (fun h=>?_)
  · have h:placeE L i≠0:=by simpa using h
    rw [if_pos h] at hrg
    (repeat (first | refine cj_seq ?_ | refine cjr TT rfl ?_ | refine oj_then ?_ | refine cj_ret ?_ | refine nj_then_ret ?_))
    refine nj_ret TT rfl fun β w' _ _=>?_
    rw [hrg]
    rfl
  have h:placeE L i=0:=by simpa using h
  rw [if_neg (by simp [h])] at hrg
  obtain ⟨hs,hi0,hil⟩:=place_ok h
  obtain ⟨i,rfl⟩:∃ j:Nat,i=j:=⟨i.toNat,by omega⟩
  rw [Int.toNat_natCast] at hrg
  have hb:=bounds_c σ L hW hL ao cap H i (by omega) hs k
  rw [hrg]
  (repeat (first | refine cj_seq ?_ | refine cjr TT rfl ?_ | refine cj_skip ?_ | refine nj_then ?_))
  cases hg:gapG L i k with
  | none =>
    rw [hg] at hb
    dsimp only at hb
    refine oj_callS rfl rfl rfl rfl rfl Tryz.call65 ⟨trivial,trivial,trivial,trivial⟩ hb fun v σ1 hle1 hv=>⟨.tup [.a (.v (.int .i64 0)),.a (.v (.int .i64 0)),.a .ff],(by (repeat' (first | exact trivial | refine SV.lt_tup ?_ | constructor))),hv.symm,?_⟩
    refine oj_run TT rfl ?_
    (repeat (first | refine cj_seq ?_ | refine cjr TT rfl ?_ | refine oj_then ?_ | refine cj_if_t rfl ?_ | refine cj_ret ?_ | refine nj_then_ret ?_))
    refine nj_ret TT rfl fun β w' _ _=>?_
    rfl
  | some g =>
    rw [hg] at hb
    dsimp only at hb
    obtain ⟨n1,n2,n3,n4,-,-⟩:=gap_num S hs (by omega) hg
    refine oj_callS rfl rfl rfl rfl rfl Tryz.call65 ⟨trivial,trivial,trivial,trivial⟩ hb fun v σ1 hle1 hv=>⟨.tup [.a (.v (.int .i64 g.lo)),.a (.v (.int .i64 g.hi)),.a .tt],(by (repeat' (first | exact trivial | refine SV.lt_tup ?_ | constructor))),hv.symm,?_⟩
    refine oj_run TT rfl ?_
    (repeat (first | refine cj_seq ?_ | refine cjr TT rfl ?_ | refine oj_then ?_ | refine cj_if_f rfl ?_ | refine cj_skip ?_ | refine cj_ret ?_ | refine nj_then ?_ | (refine oj_minus rfl rfl rfl rfl rfl rfl (by omega) ?_;refine oj_run TT rfl ?_)))
    refine nj_ret TT rfl fun β w' _ _=>?_
    rfl
set_option maxRecDepth 100000 in
set_option maxHeartbeats 1000000 in
theorem RSpread_c (σ:Snap) (L:List GRec) (hW:recsW L<=100000) (hL:L.length<=4096) (hw:(buildR L).1.weight<=100000) (ao:Option Addr) (cap:Nat) (H:SlAt σ ao L.length cap 11 (recRows L)) (gap:Int) :
    PureS Tryz.prog 24 [.a (.v (.slice ao L.length cap)),.a (.v (.int .i64 gap))] σ (fun v σ'=>∃ bo bc,v=.tuple #[.slice bo (spreadG L gap).1.length bc,.int .i64 (spreadG L gap).2]/\SlAt σ' bo (spreadG L gap).1.length bc 11 (recRows (spreadG L gap).1)):=by
  have hsp:spreadG L gap=if (buildR L).2≠0 then ([],(buildR L).2) else shredG (buildR L).1 gap:=rfl
  refine enter_s Tryz.func24 rfl rfl (by (repeat' (first | exact trivial | constructor))) fun w=>?_
  (repeat (first | refine cj_seq ?_ | refine cjr TT rfl ?_ | refine oj_then ?_))
  refine oj_callS rfl rfl rfl rfl rfl Tryz.call80 ⟨trivial,trivial⟩ (RBuild_c σ L hW hL ao cap H) fun v σ1 hle1 ⟨r,hv,hrep⟩=>⟨.tup [.agg r,.a (.v (.int .i64 (buildR L).2))],SV.lt_tup ⟨hrep.clo,trivial,trivial⟩,hv.symm,?_⟩
  obtain ⟨xla,xlc,xlrows,xma,xmc,xvrows,rfl,XV⟩:=hrep.open
  refine oj_run TT rfl ?_
  (repeat (first | refine cj_seq ?_ | refine cjr TT rfl ?_ | refine oj_then ?_))
  refine cj_if rfl (fun h=>?_) (fun h=>?_)
  · have h:(buildR L).2≠0:=by simpa using h
    rw [if_pos h] at hsp
    rw [hsp]
    (repeat (first | refine cj_seq ?_ | refine cjr TT rfl ?_ | refine oj_then ?_ | refine cj_ret ?_ | refine nj_then_ret ?_))
    refine nj_ret TT rfl fun β w' _ _=>?_
    exact ⟨none,0,rfl,SlAt.nil _ _ _ _⟩
  have h:(buildR L).2=0:=by simpa using h
  rw [if_neg (by simp [h])] at hsp
  rw [hsp]
  generalize (buildR L).1=g at *
  (repeat (first | refine cj_seq ?_ | refine cjr TT rfl ?_ | refine cj_skip ?_ | refine nj_then ?_))
  refine oj_callS rfl rfl rfl rfl rfl Tryz.call81 ⟨vCells_lt _ _ _ _ _ _,trivial,trivial⟩ (RShred_s σ1 g _ gap XV.rep hw) fun v σ2 hle2 ⟨bo,bc,hv,H2⟩=>⟨.tup [.a (.v (.slice bo (shredG g gap).1.length bc)),.a (.v (.int .i64 (shredG g gap).2))],(by (repeat' (first | exact trivial | refine SV.lt_tup ?_ | constructor))),hv.symm,?_⟩
  refine oj_run TT rfl ?_
  (repeat (first | refine oj_then ?_ | refine cj_ret ?_))
  refine nj_ret TT rfl fun β w' _ _=>?_
  exact ⟨bo,bc,rfl,H2⟩
set_option maxRecDepth 100000 in
set_option maxHeartbeats 1000000 in
theorem RCount_c (g:GVal):∀ (σ:Snap) (r:List AT),RepV σ g r->g.weight<=1000000->PlainS Tryz.prog 70 [.agg r] σ (fun v=>v=.int .i64 (cntV g)):=by
  induction g using GVal.byWeight with | _ g ih=>?_
  intro σ r hr hw
  obtain ⟨la,lc,lrows,ma,mc,vrows,rfl,V⟩:=hr.open
  have hkv:=V.kv
  have hle0:=cntV_le g
  have hvl:=V.vlen
  have htot:cntL g.l+cntL g.vs+1=cntV g:=by rw [cntV_eq];omega
  have hgw:=g.weight_eq
  have hwl:=weights_len g.l
  have hwv:=weights_len g.vs
  refine enter_p Tryz.func70 rfl rfl (by (repeat' (first | exact trivial | exact vCells_lt _ _ _ _ _ _ | constructor))) fun w=>?_
  (repeat (first | refine cj_seq ?_ | refine cjr TT rfl ?_ | refine oj_then ?_ | refine cj_block ?_))
  refine cj_cutB (fun (_:Unit)=>σ) (fun _=>[(1,.a (.p 0 0)),(3,.a (.v (.int .i64 (1+cntL g.l:Nat))))]) (fun _=>[(0,.loc 28,vCells g la lc ma mc)]) (fun _=>[]) 1 (fun _=>True) ?_ (fun _ _=>?_)
  · refine cj_loop (fun (_:Nat)=>σ) (fun k=>[(1,.a (.p 0 0)),(3,.a (.v (.int .i64 (1+cntL (g.l.take k):Nat)))),(4,.a (.v (.int .i64 k)))])
      (fun _=>[(0,.loc 28,vCells g la lc ma mc)]) (fun _=>[]) 1 (fun k=>k<=g.l.length) (fun k=>g.l.length - k) 0 (Nat.zero_le _) rfl (by (repeat first | exact trivial | refine ⟨rfl,?_⟩)) (by (repeat first | exact trivial | refine ⟨rfl,?_⟩)) rfl (by (repeat' (first | exact trivial | exact Nat.le_of_ble_eq_true rfl | constructor))) (by (repeat' (first | exact trivial | exact Nat.le_of_ble_eq_true rfl | exact vCells_lt _ _ _ _ _ _ | constructor))) fun k hk=>?_
    have hcb:=cntL_take_le g.l k
    (repeat (first | refine cj_seq ?_ | refine cjr TT rfl ?_ | refine oj_then ?_))
    refine cj_if rfl (fun h=>?_) (fun h=>?_)
    · have hkl:k<g.l.length:=by have:=of_decide_eq_true h;omega
      have hget:=List.getElem?_eq_getElem hkl
      obtain ⟨r,hr1,hr2⟩:=V.l.get hget
      obtain ⟨la',lc',lrows',ma',mc',vrows',rfl,V'⟩:=hr2.open
      have hwx:=weight_l (List.getElem_mem hkl)
      have hcx:=cntV_le g.l[k]
      have e:((1+cntL (g.l.take (k+1)):Nat):Int)=((1+cntL (g.l.take k):Nat):Int)+(cntV g.l[k]:Nat):=by
        rw [cntL_take hget]
        omega
      (repeat (first | refine cj_seq ?_ | refine cjr TT rfl ?_ | refine cj_skip ?_ | refine cj_block ?_ | refine nj_then ?_))
      refine oj_idx TT rfl rfl rfl rfl rfl rfl rfl rfl rfl V.L (by omega) hr1 (oj_run TT rfl ?_)
      skip
      refine oj_callP rfl rfl rfl rfl rfl Tryz.call70 (by (repeat' (first | exact trivial | exact vCells_lt _ _ _ _ _ _ | constructor))) (ih _ hwx σ _ V'.rep (by omega)) fun v hv=>⟨.a (.v (.int .i64 (cntV g.l[k]))),trivial,hv.symm,?_⟩
      refine oj_run TT rfl ?_
      refine oj_add rfl rfl rfl rfl rfl rfl (by omega) (oj_run TT rfl ?_)
      (repeat (first | refine cjr TT rfl ?_ | refine oj_nil ?_ | refine nj_then ?_ | refine nj_block ?_ | (refine oj_add rfl rfl rfl rfl rfl rfl (by omega) ?_;refine oj_run TT rfl ?_)))
      refine nj_again (k+1) hkl (by omega) rfl (by rw [e];(repeat first | exact trivial | refine ⟨rfl,?_⟩)) (by (repeat first | exact trivial | refine ⟨rfl,?_⟩)) rfl (by (repeat' (first | exact trivial | exact Nat.le_of_ble_eq_true rfl | constructor))) (by (repeat' (first | exact trivial | exact Nat.le_of_ble_eq_true rfl | exact vCells_lt _ _ _ _ _ _ | constructor)))
    · have hk0:k=g.l.length:=by have:=of_decide_eq_false h;omega
      subst hk0
      rw [List.take_length]
      (repeat (first | refine cj_exit ?_ | refine nj_then_exit ?_ | refine nj_block_out ?_))
      refine nj_again () trivial Nat.zero_lt_one rfl (by (repeat first | exact trivial | refine ⟨rfl,?_⟩)) (by (repeat first | exact trivial | refine ⟨rfl,?_⟩)) rfl (by (repeat' (first | exact trivial | exact Nat.le_of_ble_eq_true rfl | constructor))) (by (repeat' (first | exact trivial | exact Nat.le_of_ble_eq_true rfl | exact vCells_lt _ _ _ _ _ _ | constructor)))
  (repeat (first | refine cj_seq ?_ | refine cjr TT rfl ?_ | refine oj_then ?_ | refine cj_block ?_))
  refine cj_loop (fun (_:Nat)=>σ) (fun k=>[(1,.a (.p 0 0)),(3,.a (.v (.int .i64 (1+cntL g.l+cntL (g.vs.take k):Nat)))),(5,.a (.v (.int .i64 k)))])
    (fun _=>[(0,.loc 28,vCells g la lc ma mc)]) (fun _=>[]) 1 (fun k=>k<=g.ks.length) (fun k=>g.ks.length - k) 0 (Nat.zero_le _) rfl (by (repeat first | exact trivial | refine ⟨rfl,?_⟩)) (by (repeat first | exact trivial | refine ⟨rfl,?_⟩)) rfl (by (repeat' (first | exact trivial | exact Nat.le_of_ble_eq_true rfl | constructor))) (by (repeat' (first | exact trivial | exact Nat.le_of_ble_eq_true rfl | exact vCells_lt _ _ _ _ _ _ | constructor))) fun k hk=>?_
  have hcb:=cntL_take_le g.vs k
  (repeat (first | refine cj_seq ?_ | refine cjr TT rfl ?_ | refine oj_then ?_))
  refine cj_if rfl (fun h=>?_) (fun h=>?_)
  · have hkl:k<g.ks.length:=by have:=of_decide_eq_true h;omega
    have hkl':k<g.vs.length:=by omega
    have hget:=List.getElem?_eq_getElem hkl'
    obtain ⟨r,hr1,hr2⟩:=V.v.get hget
    have hrow:=keyRows_get (List.getElem?_eq_getElem hkl) hr1
    obtain ⟨la',lc',lrows',ma',mc',vrows',rfl,V'⟩:=hr2.open
    have hwx:=weight_v (List.getElem_mem hkl')
    have hcx:=cntV_le g.vs[k]
    have e:((1+cntL g.l+cntL (g.vs.take (k+1)):Nat):Int)=((1+cntL g.l+cntL (g.vs.take k):Nat):Int)+(cntV g.vs[k]:Nat):=by
      rw [cntL_take hget]
      omega
    (repeat (first | refine cj_seq ?_ | refine cjr TT rfl ?_ | refine cj_skip ?_ | refine cj_block ?_ | refine nj_then ?_))
    refine oj_idx TT rfl rfl rfl rfl rfl rfl rfl rfl rfl V.M (by omega) hrow (oj_run TT rfl ?_)
    skip
    refine oj_callP rfl rfl rfl rfl rfl Tryz.call70 (by (repeat' (first | exact trivial | exact vCells_lt _ _ _ _ _ _ | constructor))) (ih _ hwx σ _ V'.rep (by omega)) fun v hv=>⟨.a (.v (.int .i64 (cntV g.vs[k]))),trivial,hv.symm,?_⟩
    refine oj_run TT rfl ?_
    refine oj_add rfl rfl rfl rfl rfl rfl (by omega) (oj_run TT rfl ?_)
    (repeat (first | refine cjr TT rfl ?_ | refine oj_nil ?_ | refine nj_then ?_ | refine nj_block ?_ | (refine oj_add rfl rfl rfl rfl rfl rfl (by omega) ?_;refine oj_run TT rfl ?_)))
    refine nj_again (k+1) hkl (by omega) rfl (by rw [e];(repeat first | exact trivial | refine ⟨rfl,?_⟩)) (by (repeat first | exact trivial | refine ⟨rfl,?_⟩)) rfl (by (repeat' (first | exact trivial | exact Nat.le_of_ble_eq_true rfl | constructor))) (by (repeat' (first | exact trivial | exact Nat.le_of_ble_eq_true rfl | exact vCells_lt _ _ _ _ _ _ | constructor)))
  · have hk0:k=g.vs.length:=by have:=of_decide_eq_false h;omega
    subst hk0
    rw [List.take_length]
    have e:1+cntL g.l+cntL g.vs=cntV g:=by omega
    rw [e]
    (repeat (first | refine cj_seq ?_ | refine cjr TT rfl ?_ | refine oj_then ?_ | refine cj_exit ?_ | refine cj_ret ?_ | refine nj_then ?_ | refine nj_then_exit ?_ | refine nj_block_out ?_))
    refine nj_ret TT rfl fun β w' _ _=>?_
    rfl
end Go.Sy
