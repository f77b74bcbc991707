/- Parts of the proof of CEditsAre: F49, F50, F51, F52, Lm, Ln, F66, F67, F68, Lr. No conditions. -/
import Derived.Test.YtadnijcgohflhaaGreatDoorM8
namespace Go.Sy
open Go.Proofs
theorem sound_all {L:List GRec} (h:soundG L=true):L.length<=4096/\nestedG L=true/\namedG L=true/\((L.head?.map GRec.en).getD 0)<=1099511627776/\sane (buildG L).1=0:=by
  unfold soundG at h
  have h:=of_decide_eq_true h
  unfold buildR at h
  split at h
  · exact absurd h (by decide)
  · rename_i h1
    split at h
    · exact absurd h (by decide)
    · rename_i h2
      refine ⟨?_,?_,?_,?_,?_⟩
      · exact Nat.not_lt.1 fun hc=>h1 (.inl (by omega))
      · cases hn:nestedG L with
        | true=>rfl
        | false=>exact absurd (.inr (.inl hn)) h1
      · cases hn:namedG L with
        | true=>rfl
        | false=>exact absurd (.inr (.inr (.inl hn))) h1
      · exact Int.not_lt.1 fun hc=>h1 (.inr (.inr (.inr (by omega))))
      · simpa using h2
theorem levels_bd:∀ (L:List GRec) (m:Nat),levelsOk m L->∀ r∈L,0<=r.lv/\r.lv<=m+L.length
  | [],_,_,r,hr=>by cases hr
  | x::l,m,⟨h1,h2,h3⟩,r,hr=>by
    rw [List.length_cons]
    rcases List.mem_cons.1 hr with rfl | hr
    · exact ⟨h1,by omega⟩
    · have:=levels_bd l _ h3 r hr
      omega
theorem sound_levels {L:List GRec} (h:soundG L=true):∀ r∈L,0<=r.lv/\r.lv<=L.length:=by
  have h1:=(sound_all h).2.1
  unfold nestedG at h1
  rw [Bool.and_eq_true] at h1
  have:=levels_bd L 0 (nest_levels L 0 [] (-1) h1.1)
  intro r hr
  have:=this r hr
  omega
mutual
theorem recsW_V (gap:Int):∀ (g:GVal) (lv:Int) (nm:Bool) (name:ByteArray) (now:Int),recsW (shredV gap g lv nm name now).1<=g.weight+name.size
  | .mk k b n s l ks vs,lv,nm,name,now=>by
    have h1:=recsW_L gap l (lv+1) (now+gap)
    have h2:=recsW_M gap vs ks (lv+1) (shredL gap l (lv+1) (now+gap)).2
    simp only [shredV,recsW,recsW_append,recW,GVal.weight]
    omega
theorem recsW_L (gap:Int):∀ (gs:List GVal) (lv now:Int),recsW (shredL gap gs lv now).1<=GVal.weights gs
  | [],_,_=>by simp [shredL,recsW,GVal.weights]
  | g::gs,lv,now=>by
    have h1:=recsW_V gap g lv false ⟨#[]⟩ now
    have h2:=recsW_L gap gs lv (shredV gap g lv false ⟨#[]⟩ now).2
    have h3:(⟨#[]⟩:ByteArray).size=0:=rfl
    simp only [shredL,recsW_append,GVal.weights]
    omega
theorem recsW_M (gap:Int):∀ (gs:List GVal) (ks:List ByteArray) (lv now:Int),recsW (shredM gap gs ks lv now).1<=GVal.weights gs+sizes ks
  | [],_,_,_=>by simp [shredM,recsW]
  | _::_,[],_,_=>by simp [shredM,recsW]
  | g::gs,k::ks,lv,now=>by
    have h1:=recsW_V gap g lv true k now
    have h2:=recsW_M gap gs ks lv (shredV gap g lv true k now).2
    simp only [shredM,recsW_append,GVal.weights,sizes]
    omega
end
theorem recsW_lift (d:Int) (ν:Int->Int):∀ L:List GRec,recsW (L.map (lift d ν))=recsW L
  | []=>rfl
  | r::l=>by rw [List.map_cons,recsW,recsW,recsW_lift d ν l];rfl
theorem laid_w (g:GVal) (top:GRec) (ν:Int->Int):recsW (laidG g top ν)<=g.weight+top.name.size:=by
  have h1:=recsW_V 1 g 0 false emptyS 0
  have h0:emptyS.size=0:=rfl
  have h2:=recsW_lift top.lv ν (shredV 1 g 0 false emptyS 0).1
  unfold laidG
  have hsv:=shredV_eq 1 g 0 false emptyS 0
  rw [hsv] at h1 h2 ⊢
  dsimp only at h1 h2 ⊢
  rw [List.map_cons] at h2 ⊢
  unfold nameHd
  rw [recsW] at h1 h2 ⊢
  rw [recsW] at h2
  have e1:recW (reName top.nm top.name (lift top.lv ν ⟨0+1,(shredM 1 g.vs g.ks (0+1) (shredL 1 g.l (0+1) (0+1)).2).2+1,0,g.kind,false,emptyS,g.b,g.n,g.s⟩))=1+g.s.size+g.n.dg.size+top.name.size:=rfl
  have e2:recW (lift top.lv ν ⟨0+1,(shredM 1 g.vs g.ks (0+1) (shredL 1 g.l (0+1) (0+1)).2).2+1,0,g.kind,false,emptyS,g.b,g.n,g.s⟩)=1+g.s.size+g.n.dg.size+emptyS.size:=rfl
  have e3:recW ⟨0+1,(shredM 1 g.vs g.ks (0+1) (shredL 1 g.l (0+1) (0+1)).2).2+1,0,g.kind,false,emptyS,g.b,g.n,g.s⟩=1+g.s.size+g.n.dg.size+emptyS.size:=rfl
  omega
theorem laid_fit {σ:Snap} {g:GVal} {r:List AT} (hr:RepV σ g r) (top:GRec) (hn:top.name.size<=mostLen) (ν:Int->Int):RecsFit (laidG g top ν):=by
  have h1:=shredV_fit 1 g r 0 false emptyS 0 hr (by decide)
  unfold laidG
  generalize (shredV 1 g 0 false emptyS 0).1=L at *
  cases L with
  | nil=>intro r hr;cases hr
  | cons x l =>
    intro r hr
    rw [List.map_cons] at hr
    rcases List.mem_cons.1 hr with rfl | hr
    · have:=h1 x List.mem_cons_self
      exact ⟨this.1,this.2.1,hn⟩
    · obtain ⟨q,hq,rfl⟩:=List.mem_map.1 hr
      exact h1 q (List.mem_cons_of_mem _ hq)
theorem laid_lv {g:GVal} (hw:g.wf) (top:GRec) (h0:0<=top.lv) (ν:Int->Int):∀ r∈laidG g top ν,0<=r.lv:=by
  have h1:=(shred_lay (gap:=1) (by omega) hw 0 false emptyS 0).lvb
  unfold laidG
  generalize (shredV 1 g 0 false emptyS 0).1=L at *
  cases L with
  | nil=>intro r hr;cases hr
  | cons x l =>
    intro r hr
    rw [List.map_cons] at hr
    rcases List.mem_cons.1 hr with rfl | hr
    · have:=h1 x List.mem_cons_self
      show 0<=x.lv+top.lv
      omega
    · obtain ⟨q,hq,rfl⟩:=List.mem_map.1 hr
      have:=h1 q (List.mem_cons_of_mem _ hq)
      show 0<=q.lv+top.lv
      omega
theorem fit_append {A B:List GRec} (hA:RecsFit A) (hB:RecsFit B):RecsFit (A++B):=fun r hr=>by
  rcases List.mem_append.1 hr with h | h
  · exact hA r h
  · exact hB r h
theorem spliced_fit {L M:List GRec} (hL:RecsFit L) (hM:RecsFit M) (fr to:Nat):RecsFit (spliced L fr to M):=fit_append (hL.take fr) (fit_append hM (hL.drop to))
theorem recsW_take_drop (L:List GRec) (a b:Nat) (h:a<=b):recsW (L.take a)+recsW (L.drop b)<=recsW L:=by
  have e:L=L.take a++((L.drop a).take (b - a)++L.drop b):=by
    conv=>lhs;rw [<-List.take_append_drop a L]
    congr 1
    conv=>lhs;rw [<-List.take_append_drop (b - a) (L.drop a)]
    rw [List.drop_drop,show a+(b - a)=b by omega]
  conv=>rhs;rw [e]
  rw [recsW_append,recsW_append]
  omega
theorem spliced_w (L M:List GRec) (fr to:Nat) (h:fr<=to):recsW (spliced L fr to M)<=recsW L+recsW M:=by
  unfold spliced
  rw [recsW_append,recsW_append]
  have:=recsW_take_drop L fr to h
  omega
theorem spliced_mem {L M:List GRec} {fr to:Nat} {r:GRec} (h:r∈spliced L fr to M):r∈L\/r∈M:=by
  unfold spliced at h
  rcases List.mem_append.1 h with h | h
  · exact .inl (List.mem_of_mem_take h)
  · rcases List.mem_append.1 h with h | h
    · exact .inr h
    · exact .inl (List.mem_of_mem_drop h)
def gapN (g:GGap) (m n:Int):Int:=g.lo+(g.hi - g.lo).tdiv (2*m+1)*(n+1)
def topG (r:GRec) (nm:Bool) (key:ByteArray):GRec:=⟨0,0,r.lv+1,0,nm,key,false,dec0,emptyS⟩
def cntS (g:GVal):Nat:=(shredV 1 g 0 false emptyS 0).1.length
def insertG (L:List GRec) (i k:Int) (key:ByteArray) (g:GVal):GRes :=
  if placeE L i≠0 then ⟨[],0,0,placeE L i⟩ else
  match L[i.toNat]? with
  | none=>⟨[],0,0,1⟩
  | some r =>
    if r.kd≠4/\r.kd≠5 then ⟨[],0,0,8⟩ else
    match gapG L i.toNat k with
    | none=>⟨[],0,0,1⟩
    | some gp =>
      if r.kd=5/\sane g=0 then
        if fitsE L i.toNat key≠0 then ⟨[],0,0,fitsE L i.toNat key⟩ else runG L gp.at_.toNat gp.at_.toNat (laidG g (topG r true key) (gapN gp (cntS g))) (gp.hi - gp.lo - 1)
      else if sane g≠0 then ⟨[],0,0,sane g⟩ else runG L gp.at_.toNat gp.at_.toNat (laidG g (topG r false emptyS) (gapN gp (cntS g))) (gp.hi - gp.lo - 1)
theorem edit_lt {g:GVal} {la:Option Addr} {lc:Nat} {ma:Option Addr} {mc:Nat} (ao:Option Addr) (n cap:Nat) (fr to:Int) (top:GRec) (room:Int) (f:FuncId) {caps:List PT} (hcap:LtAll (caps.map ptSV)) (m:Nat):∀ c∈editCells ao n cap fr to top (vCells g la lc ma mc) room f caps,c.lt m:=by
  intro c hc
  unfold editCells at hc
  simp only [List.mem_append,List.mem_cons,List.not_mem_nil,or_false] at hc
  rcases hc with (rfl | rfl | rfl) | hc | hc | rfl | rfl
  · trivial
  · trivial
  · trivial
  · exact recCells_lt m top c hc
  · exact vCells_lt _ _ _ _ _ _ c hc
  · trivial
  · exact fn_lt_caps hcap m
theorem bad_ok (σ:Snap) (e:Int):ResOk σ ⟨[],0,0,e⟩ (.tuple #[.slice none 0 0,.agg #[.int .i64 0,.int .i64 0],.int .i64 e]):=⟨none,0,rfl,SlAt.nil _ _ _ _⟩
set_option maxRecDepth 100000 in
set_option maxHeartbeats 1000000 in
theorem Insert_c (σ:Snap) (L:List GRec) (S:SndL L) (ao:Option Addr) (cap:Nat) (H:SlAt σ ao L.length cap 11 (recRows L)) (i k:Int) (key:ByteArray) (hkey:key.size<=mostLen) (g:GVal) (r:List AT) (hr:RepV σ g r) (hW:recsW L+g.weight+key.size<=100000) :
    PureS Tryz.prog 15 [.a (.v (.slice ao L.length cap)),.a (.v (.int .i64 i)),.a (.v (.int .i64 k)),.a (.v (.string key)),.agg r] σ (fun v σ'=>ResOk σ' (insertG L i k key g) v):=by
  obtain ⟨la,lc,lrows,ma,mc,vrows,rfl,V⟩:=hr.open
  have hig:insertG L i k key g=if placeE L i≠0 then ⟨[],0,0,placeE L i⟩ else
    match L[i.toNat]? with
    | none=>⟨[],0,0,1⟩
    | some r =>
      if r.kd≠4/\r.kd≠5 then ⟨[],0,0,8⟩ else
      match gapG L i.toNat k with
      | none=>⟨[],0,0,1⟩
      | some gp =>
        if r.kd=5/\sane g=0 then
          if fitsE L i.toNat key≠0 then ⟨[],0,0,fitsE L i.toNat key⟩ else runG L gp.at_.toNat gp.at_.toNat (laidG g (topG r true key) (gapN gp (cntS g))) (gp.hi - gp.lo - 1)
        else if sane g≠0 then ⟨[],0,0,sane g⟩ else runG L gp.at_.toNat gp.at_.toNat (laidG g (topG r false emptyS) (gapN gp (cntS g))) (gp.hi - gp.lo - 1):=rfl
  refine enter_s Tryz.func15 rfl rfl (by (repeat' (first | exact trivial | exact vCells_lt _ _ _ _ _ _ | constructor))) fun w=>?_
  (repeat (first | refine cj_seq ?_ | refine cjr TT rfl ?_ | refine oj_then ?_))
  refine oj_callP rfl rfl rfl rfl rfl Tryz.call58 (by (repeat' (first | exact trivial | constructor))) (place12_c σ L S.ok ao cap H i) fun v hv=>⟨.a (.v (.int .i64 (placeE L i))),trivial,hv.symm,?_⟩
  refine oj_run TT rfl ?_
  (repeat (first | refine cj_seq ?_ | refine cjr TT rfl ?_ | refine oj_then ?_))
  refine cj_if rfl (fun h=>?_) (fun h=>?_)
  · have h:placeE L i≠0:=by simpa using h
    rw [if_pos h] at hig
    rw [hig]
    (repeat (first | refine cj_seq ?_ | refine cjr TT rfl ?_ | refine oj_then ?_ | refine cj_ret ?_ | refine nj_then_ret ?_))
    refine nj_ret TT rfl fun β w' _ _=>?_
    exact bad_ok _ _
  have h:placeE L i=0:=by simpa using h
  rw [if_neg (by simp [h])] at hig
  obtain ⟨hs,hi0,hil⟩:=place_ok h
  obtain ⟨i,rfl⟩:∃ j:Nat,i=j:=⟨i.toNat,by omega⟩
  rw [Int.toNat_natCast] at hig
  have hi:i<L.length:=by omega
  have hLi:L[i]?=some L[i]:=List.getElem?_eq_getElem hi
  rw [hLi] at hig
  dsimp only at hig
  obtain ⟨hk1,hk2⟩:=S.kids hs i hi
  have hrow:=recRows_get hLi
  have hlv:=sound_levels hs
  have hlvi:=hlv L[i] (List.getElem_mem hi)
  have hSL:=S.len
  generalize L[i]=x at *
  (repeat (first | refine cj_seq ?_ | refine cjr TT rfl ?_ | refine cj_skip ?_ | refine nj_then ?_))
  refine oj_idx TT rfl rfl rfl rfl rfl rfl rfl rfl rfl H (by omega) hrow (oj_run TT rfl ?_)
  refine oj_nil ?_
  refine nj_then ?_
  refine cj_seq ?_
  refine cj_seq ?_
  refine cj_cutN (fun (_:Unit)=>σ) (fun _=>[(0,.a (.v (.slice ao L.length cap))),(1,.a (.v (.int .i64 i))),(2,.a (.v (.int .i64 k))),(3,.a (.v (.string key))),(9,.a (.p 0 0)),(11,.a (.p 1 0)),(14,.a (.v (.int .i64 x.kd))),(37,.a (.b (!decide (x.kd=4)&&!decide (x.kd=5))))])
    (fun _=>[(0,.loc 28,vCells g la lc ma mc),(1,.loc 35,[.v (.int .i64 0),.v (.int .i64 0)])]) (fun _=>[]) 2 (fun _=>True) ?_ (fun _ _=>?_)
  · refine cj_region ?_
    refine oj_run TT rfl ?_
    refine oj_split 34 rfl (fun h=>?_) (fun h=>?_)
    · have h:(!decide (x.kd=4))=true:=h
      refine oj_run TT rfl ?_
      (repeat refine oj_nil ?_)
      refine nj_set 37 (.a (.b (!decide (x.kd=4)&&!decide (x.kd=5)))) rfl trivial (fun β=>by rw [h,Bool.true_and]) ?_
      refine nj_again () trivial Nat.zero_lt_one rfl (by (repeat first | exact trivial | refine ⟨rfl,?_⟩)) (by (repeat first | exact trivial | refine ⟨rfl,?_⟩)) rfl (by (repeat' (first | exact trivial | exact Nat.le_of_ble_eq_true rfl | constructor))) (by (repeat' (first | exact trivial | exact Nat.le_of_ble_eq_true rfl | exact vCells_lt _ _ _ _ _ _ | refine AllLt.of ?_ | constructor)))
    · have h:(!decide (x.kd=4))=false:=h
      refine oj_run TT rfl ?_
      (repeat refine oj_nil ?_)
      refine nj_set 37 (.a (.b (!decide (x.kd=4)&&!decide (x.kd=5)))) rfl trivial (fun β=>by rw [h,Bool.false_and];rfl) ?_
      refine nj_again () trivial Nat.zero_lt_one rfl (by (repeat first | exact trivial | refine ⟨rfl,?_⟩)) (by (repeat first | exact trivial | refine ⟨rfl,?_⟩)) rfl (by (repeat' (first | exact trivial | exact Nat.le_of_ble_eq_true rfl | constructor))) (by (repeat' (first | exact trivial | exact Nat.le_of_ble_eq_true rfl | exact vCells_lt _ _ _ _ _ _ | refine AllLt.of ?_ | constructor)))
  skip
  refine cj_if rfl (fun h=>?_) (fun h=>?_)
  · have h1:(!decide (x.kd=4)&&!decide (x.kd=5))=true:=h
    rw [Bool.and_eq_true] at h1
    rw [if_pos ⟨by simpa using h1.1,by simpa using h1.2⟩] at hig
    rw [hig]
    (repeat (first | refine cj_seq ?_ | refine cjr TT rfl ?_ | refine oj_then ?_ | refine cj_ret ?_ | refine nj_then_ret ?_))
    refine nj_ret TT rfl fun β w' _ _=>?_
    exact bad_ok _ _
  have hkd:x.kd=4\/x.kd=5:=by
    have h1:(!decide (x.kd=4)&&!decide (x.kd=5))=false:=h
    rw [Bool.and_eq_false_iff] at h1
    simpa using h1
  rw [if_neg (by omega)] at hig
  have hc:=find_c σ L S.ok ao cap H i hi hs S.len hk1 hk2 k
  (repeat (first | refine cj_seq ?_ | refine cjr TT rfl ?_ | refine cj_skip ?_ | refine nj_then ?_))
  cases hg:gapG L i k with
  | none =>
    rw [hg] at hig hc
    dsimp only at hig
    rw [hig]
    refine oj_callS rfl rfl rfl rfl rfl Tryz.call59 (by (repeat' (first | exact trivial | constructor))) hc fun v σ1 hle1 hv=>⟨.tup [.agg (gapCells gap0),.a .ff],(by unfold gapCells;(repeat' (first | exact trivial | refine AllLt.of ?_ | refine SV.lt_tup ?_ | constructor))),hv.symm,?_⟩
    refine oj_run TT rfl ?_
    (repeat (first | refine cj_seq ?_ | refine cjr TT rfl ?_ | refine oj_then ?_ | refine cj_if_t rfl ?_ | refine cj_ret ?_ | refine nj_then_ret ?_))
    refine nj_ret TT rfl fun β w' _ _=>?_
    exact bad_ok _ _
  | some gp =>
    rw [hg] at hig hc
    dsimp only at hig
    obtain ⟨n1,n2,n3,n4,n5,n6⟩:=gap_num S hs hi hg
    obtain ⟨at_,hat⟩:∃ j:Nat,gp.at_=j:=⟨gp.at_.toNat,by omega⟩
    rw [hat,Int.toNat_natCast] at hig
    have hatl:at_<=L.length:=by omega
    refine oj_callS rfl rfl rfl rfl rfl Tryz.call59 (by (repeat' (first | exact trivial | constructor))) hc fun v σ1 hle1 hv=>⟨.tup [.agg (gapCells gp),.a .tt],(by unfold gapCells;(repeat' (first | exact trivial | refine AllLt.of ?_ | refine SV.lt_tup ?_ | constructor))),hv.symm,?_⟩
    have H:=H.mono hle1
    have V:=V.monoC hle1.cle
    refine oj_run TT rfl ?_
    (repeat (first | refine cj_seq ?_ | refine cjr TT rfl ?_ | refine oj_then ?_ | refine cj_if_f rfl ?_ | refine cj_skip ?_ | refine nj_then ?_))
    refine oj_callP rfl rfl rfl rfl rfl Tryz.call60 (by (repeat' (first | exact trivial | exact vCells_lt _ _ _ _ _ _ | constructor))) (Sane_c σ1 g _ V.rep (by omega)) fun v hv=>⟨.a (.v (.int .i64 (sane g))),trivial,hv.symm,?_⟩
    refine oj_run TT rfl ?_
    (repeat (first | refine cj_seq ?_ | refine cjr TT rfl ?_ | refine oj_then ?_))
    refine oj_idx TT rfl rfl rfl rfl rfl rfl rfl rfl rfl H (by omega) hrow (oj_run TT rfl ?_)
    refine oj_add rfl rfl rfl rfl rfl rfl (by omega) (oj_run TT rfl ?_)
    refine oj_nil ?_
    refine nj_then ?_
    refine cj_seq ?_
    refine cj_cutN (fun (s:Snap×Bool×ByteArray×Int)=>s.1) (fun s=>[(0,.a (.v (.slice ao L.length cap))),(9,.a (.p 0 0)),(11,.a (.p 1 0)),(15,.a (.p 2 0)),(17,.a (.v (.int .i64 s.2.2.2))),(18,.a (.p 4 0))])
      (fun s=>[(0,.loc 28,vCells g la lc ma mc),(1,.loc 35,[.v (.int .i64 0),.v (.int .i64 0)]),(2,.loc 135,gapCells gp),(4,.loc 130,recCells (topG x s.2.1 s.2.2.1))]) (fun _=>[]) 5
      (fun s=>σ1.le s.1/\((x.kd=5/\sane g=0/\s.2.1=true/\s.2.2.1=key/\s.2.2.2=fitsE L i key)\/(¬ (x.kd=5/\sane g=0)/\s.2.1=false/\s.2.2.1=emptyS/\s.2.2.2=sane g))) ?_ (fun ⟨σ2,nm,nk,e⟩ ⟨hle2,hcase⟩=>?_)
    · (repeat (first | refine cj_seq ?_ | refine cjr TT rfl ?_))
      refine oj_split 60 rfl (fun h=>?_) (fun h=>?_)
      rotate_left
      · have h:decide (x.kd=5)=false:=h
        have h:=of_decide_eq_false h
        refine oj_run TT rfl ?_
        (repeat (first | refine oj_then ?_ | refine cj_if_f rfl ?_ | refine cj_skip ?_))
        refine nj_rowset 4 (recCells (topG x false emptyS)) rfl (fun _=>rfl) (recCells_lt _ _) ?_
        refine nj_again (σ1,false,emptyS,sane g) ⟨Snap.le_refl _,.inr ⟨fun hc=>h hc.1,rfl,rfl,rfl⟩⟩ Nat.zero_lt_one rfl (by (repeat first | exact trivial | refine ⟨rfl,?_⟩)) (by unfold gapCells;(repeat first | exact trivial | refine ⟨rfl,?_⟩)) rfl (by (repeat' (first | exact trivial | exact Nat.le_of_ble_eq_true rfl | constructor))) ⟨⟨by decide,vCells_lt _ _ _ _ _ _⟩,⟨by decide,by (repeat' (first | exact trivial | refine AllLt.of ?_ | constructor))⟩,⟨by decide,by unfold gapCells;(repeat' (first | exact trivial | refine AllLt.of ?_ | constructor))⟩,⟨by decide,recCells_lt _ _⟩,trivial⟩
      · have h:decide (x.kd=5)=true:=h
        have h:=of_decide_eq_true h
        refine oj_run TT rfl ?_
        (repeat refine oj_then ?_)
        refine cj_if rfl (fun h2=>?_) (fun h2=>?_)
        rotate_left
        · have h2:=of_decide_eq_false h2
          (repeat refine cj_skip ?_)
          refine nj_rowset 4 (recCells (topG x false emptyS)) rfl (fun _=>rfl) (recCells_lt _ _) ?_
          refine nj_again (σ1,false,emptyS,sane g) ⟨Snap.le_refl _,.inr ⟨fun hc=>h2 hc.2,rfl,rfl,rfl⟩⟩ Nat.zero_lt_one rfl (by (repeat first | exact trivial | refine ⟨rfl,?_⟩)) (by unfold gapCells;(repeat first | exact trivial | refine ⟨rfl,?_⟩)) rfl (by (repeat' (first | exact trivial | exact Nat.le_of_ble_eq_true rfl | constructor))) ⟨⟨by decide,vCells_lt _ _ _ _ _ _⟩,⟨by decide,by (repeat' (first | exact trivial | refine AllLt.of ?_ | constructor))⟩,⟨by decide,by unfold gapCells;(repeat' (first | exact trivial | refine AllLt.of ?_ | constructor))⟩,⟨by decide,recCells_lt _ _⟩,trivial⟩
        · have h2:=of_decide_eq_true h2
          (repeat (first | refine cj_seq ?_ | refine cjr TT rfl ?_ | refine oj_then ?_))
          refine oj_callS rfl rfl rfl rfl rfl Tryz.call61 (by (repeat' (first | exact trivial | constructor))) (fits12_c σ1 L S.ok ao cap H i hi hs S.len hk1 hk2 key hkey) fun v σ2 hle2 hv=>⟨.a (.v (.int .i64 (fitsE L i key))),trivial,hv.symm,?_⟩
          refine oj_run TT rfl ?_
          (repeat refine oj_nil ?_)
          refine nj_rowset 4 (recCells (topG x true key)) rfl (fun _=>rfl) (recCells_lt _ _) ?_
          refine nj_again (σ2,true,key,fitsE L i key) ⟨hle2,.inl ⟨h,h2,rfl,rfl,rfl⟩⟩ Nat.zero_lt_one rfl (by (repeat first | exact trivial | refine ⟨rfl,?_⟩)) (by unfold gapCells;(repeat first | exact trivial | refine ⟨rfl,?_⟩)) rfl (by (repeat' (first | exact trivial | exact Nat.le_of_ble_eq_true rfl | constructor))) ⟨⟨by decide,vCells_lt _ _ _ _ _ _⟩,⟨by decide,by (repeat' (first | exact trivial | refine AllLt.of ?_ | constructor))⟩,⟨by decide,by unfold gapCells;(repeat' (first | exact trivial | refine AllLt.of ?_ | constructor))⟩,⟨by decide,recCells_lt _ _⟩,trivial⟩
    dsimp only at hle2 hcase ⊢
    have hig2:insertG L i k key g=if e≠0 then ⟨[],0,0,e⟩ else runG L at_ at_ (laidG g (topG x nm nk) (gapN gp (cntS g))) (gp.hi - gp.lo - 1):=by
      rw [hig]
      rcases hcase with ⟨c1,c2,rfl,rfl,rfl⟩ | ⟨c1,rfl,rfl,rfl⟩
      · rw [if_pos ⟨c1,c2⟩]
      · rw [if_neg c1]
    have hes:e=0->sane g=0:=fun he=>by
      rcases hcase with ⟨c1,c2,-⟩ | ⟨-,-,-,c4⟩
      · exact c2
      · omega
    have hnk:nk.size<=key.size:=by
      rcases hcase with ⟨-,-,-,rfl,-⟩ | ⟨-,-,rfl,-⟩
      · exact Nat.le_refl _
      · exact Nat.zero_le _
    clear hig hcase
    rw [hig2]
    have H:=H.mono hle2
    have V:=V.monoC hle2.cle
    (repeat (first | refine cj_seq ?_ | refine cjr TT rfl ?_ | refine oj_then ?_))
    refine cj_if rfl (fun h=>?_) (fun h=>?_)
    · have h:e≠0:=by simpa using h
      rw [if_pos h]
      (repeat (first | refine cj_seq ?_ | refine cjr TT rfl ?_ | refine oj_then ?_ | refine cj_ret ?_ | refine nj_then_ret ?_))
      refine nj_ret TT rfl fun β w' _ _=>?_
      exact bad_ok _ _
    have h:e=0:=by simpa using h
    rw [if_neg (by simp [h])]
    have hsg:=hes h
    refine cj_skip ?_
    refine nj_then ?_
    refine cj_own 2 1 3 rfl (by unfold gapCells;(repeat' (first | exact trivial | refine AllLt.of ?_ | constructor))) rfl (by decide) fun gb=>?_
    refine cj_seal 0 rfl rfl fun σ3 hle3 hS=>?_
    have hcell:∀ (j:Nat) c,(gapCells gp)[j]?=some c->σ3.cell ⟨gb,j,none⟩=some c.val:=fun j c hj=>by
      rcases hS with ⟨h,_⟩ | ⟨g',h1,h2⟩
      · cases h
      · obtain rfl:gb=g':=by simpa using h1
        exact h2 j _ (by rw [List.getElem?_map,hj];rfl)
    have c0:=hcell 0 _ rfl
    have c1:=hcell 1 _ rfl
    have c2:=hcell 2 _ rfl
    rw [hat] at c0
    have H:=H.mono hle3
    have V:=V.monoC hle3.cle
    (repeat (first | refine cj_seq ?_ | refine cjr TT rfl ?_))
    refine oj_ldS (c:=.v (.int .i64 at_)) TT rfl rfl rfl rfl rfl rfl rfl rfl c0 trivial (oj_run TT rfl ?_)
    refine oj_ldS (c:=.v (.int .i64 at_)) TT rfl rfl rfl rfl rfl rfl rfl rfl c0 trivial (oj_run TT rfl ?_)
    refine oj_ldS (c:=.v (.int .i64 gp.hi)) TT rfl rfl rfl rfl rfl rfl rfl rfl c2 trivial (oj_run TT rfl ?_)
    refine oj_ldS (c:=.v (.int .i64 gp.lo)) TT rfl rfl rfl rfl rfl rfl rfl rfl c1 trivial (oj_run TT rfl ?_)
    refine oj_minus rfl rfl rfl rfl rfl rfl (by omega) (oj_run TT rfl ?_)
    refine oj_minus rfl rfl rfl rfl rfl rfl (by omega) (oj_run TT rfl ?_)
    (repeat (first | refine cj_seq ?_ | refine cjr TT rfl ?_ | refine oj_then ?_))
    have hct:cntS g=(shredV 1 g 0 false emptyS 0).1.length:=rfl
    have hcw:cntS g<=100000:=by rw [hct];have:=(shredV_len 1 g 0 false emptyS 0).1;omega
    have hlw:=laid_w g (topG x nm nk) (gapN gp (cntS g))
    have hsw:=spliced_w L (laidG g (topG x nm nk) (gapN gp (cntS g))) at_ at_ (Nat.le_refl _)
    have htn:(topG x nm nk).name.size=nk.size:=rfl
    have hrc:=run_c σ3 g la lc lrows ma mc vrows V (by omega) hsg L ao cap H (by omega) at_ at_ (Nat.le_refl _) hatl (topG x nm nk) ⟨by show 0<=x.lv+1;omega,by show x.lv+1<=1000000;omega⟩ (gp.hi - gp.lo - 1) 62 [ptrTo gb] ⟨trivial,trivial⟩ Tryz.call62
      (gapN gp (cntS g)) (fun σ' hle' q h0 h1=>number12_c σ' gp gb (fun j c hj=>hle'.cell (hcell j c hj)) q _ ⟨n1,n2⟩ ⟨n3,n4⟩ (by omega) (by omega))
      (spliced_fit S.ok.fit (laid_fit V.rep (topG x nm nk) (by rw [htn];omega) _) at_ at_) (by omega) (fun q hq=>by
        rcases spliced_mem hq with hq | hq
        · exact (hlv q hq).1
        · exact laid_lv V.rep.wf (topG x nm nk) (by show 0<=x.lv+1;omega) _ q hq)
    have hlt:=edit_lt (g:=g) (la:=la) (lc:=lc) (ma:=ma) (mc:=mc) ao L.length cap (at_:Int) (at_:Int) (topG x nm nk) (gp.hi - gp.lo - 1) 62 (caps:=[ptrTo gb]) ⟨trivial,trivial⟩ 0
    generalize runG L at_ at_ (laidG g (topG x nm nk) (gapN gp (cntS g))) (gp.hi - gp.lo - 1)=R at *
    refine oj_callS (ys:=[.agg (editCells ao L.length cap (at_:Int) (at_:Int) (topG x nm nk) (vCells g la lc ma mc) (gp.hi - gp.lo - 1) 62 [ptrTo gb])]) rfl rfl rfl rfl rfl Tryz.call63 ⟨hlt,trivial⟩ hrc fun v σ4 hle4 ⟨bo,bc,hv,HR⟩=>⟨.tup [.a (.v (.slice bo R.l.length bc)),.agg [.v (.int .i64 R.laid),.v (.int .i64 R.moved)],.a (.v (.int .i64 R.e))],(by (repeat' (first | exact trivial | refine AllLt.of ?_ | refine SV.lt_tup ?_ | constructor))),hv.symm,?_⟩
    refine oj_run TT rfl ?_
    (repeat (first | refine oj_then ?_ | refine cj_ret ?_))
    refine nj_ret TT rfl fun β w' _ _=>?_
    exact ⟨bo,bc,rfl,HR⟩
end Go.Sy
namespace Go.Sy
open Go.Proofs
def oneS:ByteArray:=⟨#[49]⟩
def oneG:GVal:=.mk 2 false ⟨false,oneS,0⟩ emptyS [] [] []
def arrG:GVal:=.mk 4 false dec0 emptyS [oneG] [] []
def arrL:List GRec:=[⟨10,40,0,4,false,emptyS,false,dec0,emptyS⟩,⟨20,30,1,2,false,emptyS,false,⟨false,oneS,0⟩,emptyS⟩]
def arrM:List GRec:=[⟨10,40,0,4,false,emptyS,false,dec0,emptyS⟩,⟨20,30,1,2,false,emptyS,false,⟨false,oneS,0⟩,emptyS⟩,⟨33,36,1,2,false,emptyS,false,⟨false,oneS,0⟩,emptyS⟩]
theorem ar_shred:shredG arrG 10=(arrL,0):=by decide
theorem ar_ins:insertG arrL 0 1 emptyS oneG=⟨arrM,1,0,0⟩:=by
  kernel_rfl
theorem ar_room:roomG arrL 0 1=9:=by decide
theorem ar_ok:RecsOk arrL:=⟨by decide,fun r hr=>by simp only [arrL,List.mem_cons,List.not_mem_nil,or_false] at hr;rcases hr with rfl | rfl<;>exact ⟨by decide,by decide,by decide⟩,fun _=>by decide⟩
theorem ar_snd:SndL arrL:=⟨ar_ok,by decide,fun _=>by decide,fun _=>by decide⟩
set_option maxRecDepth 100000 in
set_option maxHeartbeats 1000000 in
theorem awake12_c (σ:Snap):PureS Tryz.prog 11 [] σ (fun v _=>v=.bool true):=by
  refine enter_s Tryz.func11 rfl rfl (by (repeat' exact trivial)) fun w=>?_
  have hrep0:∀ σ':Snap,RepV σ' oneG (vCells oneG none 0 none 0):=fun σ'=>by
    simp only [oneG,RepV]
    exact ⟨none,0,[],none,0,[],rfl,SlAt.nil _ _ _ _,rfl,rfl,SlAt.nil _ _ _ _,rfl,by decide,by decide,by decide,by decide,fun k h=>(by cases h)⟩
  (repeat (first | refine cj_seq ?_ | refine cjr TT rfl ?_ | refine oj_then ?_))
  refine oj_own 1 1 8 rfl (by (repeat' (first | exact trivial | refine AllLt.of ?_ | constructor))) rfl (by decide) fun g1=>?_
  refine oj_seal 0 rfl rfl rfl fun σ1 hle1 hS=>?_
  have H1:SlAt σ1 (some ⟨g1,0,none⟩) 1 1 8 [vCells oneG none 0 none 0]:=hS.sl (rows:=[vCells oneG none 0 none 0]) rfl (fun r hr=>by rw [List.mem_singleton.1 hr];exact ⟨rfl,vCells_lt _ _ _ _ _ _⟩) rfl rfl (Nat.le_refl _)
  have hrep:RepV σ1 arrG (vCells arrG (some ⟨g1,0,none⟩) 1 none 0):=by
    simp only [arrG,RepV]
    exact ⟨some ⟨g1,0,none⟩,1,_,none,0,[],rfl,H1,⟨_,_,rfl,hrep0 σ1,rfl⟩,rfl,SlAt.nil _ _ _ _,rfl,by decide,by decide,by decide,by decide,fun k h=>(by cases h)⟩
  refine oj_set 12 (.agg (vCells arrG (some ⟨g1,0,none⟩) 1 none 0)) rfl (vCells_lt _ _ _ _ _ _) (fun _=>rfl) ?_
  refine oj_callS rfl rfl rfl rfl rfl Tryz.call39 ⟨vCells_lt _ _ _ _ _ _,trivial,trivial⟩ (Shred_s σ1 arrG _ 10 hrep (by decide)) fun v σ2 hle2 ⟨ao,cap,hv,H⟩=>⟨.tup [.a (.v (.slice ao 2 cap)),.a (.v (.int .i64 0))],(by (repeat' (first | exact trivial | refine SV.lt_tup ?_ | constructor))),(by rw [hv,ar_shred];rfl),?_⟩
  rw [ar_shred] at H
  have H:SlAt σ2 ao 2 cap 11 (recRows arrL):=H
  refine oj_run TT rfl ?_
  (repeat (first | refine cj_seq ?_ | refine cjr TT rfl ?_ | refine oj_then ?_))
  refine oj_set 18 (.agg (vCells oneG none 0 none 0)) rfl (vCells_lt _ _ _ _ _ _) (fun _=>rfl) ?_
  have hins:=Insert_c σ2 arrL ar_snd ao cap H 0 1 emptyS (by decide) oneG _ (hrep0 σ2) (by decide)
  rw [ar_ins] at hins
  refine oj_callS rfl rfl rfl rfl rfl Tryz.call15 ⟨trivial,trivial,trivial,trivial,vCells_lt _ _ _ _ _ _,trivial⟩ hins fun v σ3 hle3 ⟨bo,bc,hv,HM⟩=>⟨.tup [.a (.v (.slice bo 3 bc)),.agg [.v (.int .i64 1),.v (.int .i64 0)],.a (.v (.int .i64 0))],(by (repeat' (first | exact trivial | refine AllLt.of ?_ | refine SV.lt_tup ?_ | constructor))),hv.symm,?_⟩
  have H:=H.mono hle3
  have HM:SlAt σ3 bo 3 bc 11 (recRows arrM):=HM
  refine oj_run TT rfl ?_
  (repeat (first | refine cj_seq ?_ | refine cjr TT rfl ?_ | refine oj_then ?_))
  refine oj_split 25 rfl (fun h=>?_) (fun h=>absurd h (by decide))
  refine oj_run TT rfl ?_
  refine oj_split 29 rfl (fun h=>?_) (fun h=>absurd h (by decide))
  refine oj_run TT rfl ?_
  refine oj_split 34 rfl (fun h=>?_) (fun h=>absurd h (by decide))
  refine oj_run TT rfl ?_
  refine oj_idx TT rfl rfl rfl rfl rfl rfl rfl rfl rfl HM (by decide) (show (recRows arrM)[(2:Int).toNat]?=some (recCells arrM[2]) from rfl) (oj_run TT rfl ?_)
  refine oj_split 41 rfl (fun h=>?_) (fun h=>absurd h (by decide))
  refine oj_run TT rfl ?_
  refine oj_idx TT rfl rfl rfl rfl rfl rfl rfl rfl rfl HM (by decide) (show (recRows arrM)[(2:Int).toNat]?=some (recCells arrM[2]) from rfl) (oj_run TT rfl ?_)
  refine oj_split 48 rfl (fun h=>?_) (fun h=>absurd h (by decide))
  refine oj_run TT rfl ?_
  refine oj_split 53 rfl (fun h=>?_) (fun h=>absurd h (by decide))
  refine oj_run TT rfl ?_
  refine oj_split 58 rfl (fun h=>?_) (fun h=>absurd h (by decide))
  refine oj_run TT rfl ?_
  refine oj_callS rfl rfl rfl rfl rfl Tryz.call25 (by (repeat' (first | exact trivial | constructor))) (Room_c σ3 arrL ar_snd ao cap H 0 1) fun v σ4 hle4 hv=>⟨.a (.v (.int .i64 9)),trivial,(by rw [hv,ar_room];rfl),?_⟩
  refine oj_run TT rfl ?_
  (repeat (first | refine oj_then ?_ | refine cj_ret ?_))
  refine nj_ret TT rfl fun β w' _ _=>?_
  rfl
end Go.Sy
namespace Go.Sy
open Go.Proofs
def spreadG (L:List GRec) (gap:Int):List GRec×Int:=if (buildR L).2≠0 then ([],(buildR L).2) else shredG (buildR L).1 gap
set_option maxRecDepth 100000 in
set_option maxHeartbeats 1000000 in
theorem Spread_c (σ:Snap) (L:List GRec) (R:RecsOk L) (hw:(buildR L).1.weight<=100000) (ao:Option Addr) (cap:Nat) (H:SlAt σ ao L.length cap 11 (recRows L)) (gap:Int) :
    PureS Tryz.prog 23 [.a (.v (.slice ao L.length cap)),.a (.v (.int .i64 gap))] σ (fun v σ'=>∃ bo bc,v=.tuple #[.slice bo (spreadG L gap).1.length bc,.int .i64 (spreadG L gap).2]/\SlAt σ' bo (spreadG L gap).1.length bc 11 (recRows (spreadG L gap).1)):=by
  have hsp:spreadG L gap=if (buildR L).2≠0 then ([],(buildR L).2) else shredG (buildR L).1 gap:=rfl
  refine enter_s Tryz.func23 rfl rfl (by (repeat' (first | exact trivial | constructor))) fun w=>?_
  (repeat (first | refine cj_seq ?_ | refine cjr TT rfl ?_ | refine oj_then ?_))
  refine oj_callS rfl rfl rfl rfl rfl Tryz.call79 ⟨trivial,trivial⟩ (Build_c σ L R.len R.fit R.bw ao cap H) fun v σ1 hle1 ⟨r,hv,hrep⟩=>⟨.tup [.agg r,.a (.v (.int .i64 (buildR L).2))],SV.lt_tup ⟨hrep.clo,trivial,trivial⟩,hv.symm,?_⟩
  generalize buildR L=B at *
  obtain ⟨xla,xlc,xlrows,xma,xmc,xvrows,rfl,XV⟩:=hrep.open
  refine oj_run TT rfl ?_
  (repeat (first | refine cj_seq ?_ | refine cjr TT rfl ?_ | refine oj_then ?_))
  refine cj_if rfl (fun h=>?_) (fun h=>?_)
  · have h:B.2≠0:=by simpa using h
    rw [if_pos h] at hsp
    rw [hsp]
    (repeat (first | refine cj_seq ?_ | refine cjr TT rfl ?_ | refine oj_then ?_ | refine cj_ret ?_ | refine nj_then_ret ?_))
    refine nj_ret TT rfl fun β w' _ _=>?_
    exact ⟨none,0,rfl,SlAt.nil _ _ _ _⟩
  · have h:B.2=0:=by simpa using h
    rw [if_neg (by simp [h])] at hsp
    rw [hsp]
    (repeat (first | refine cj_seq ?_ | refine cjr TT rfl ?_ | refine cj_skip ?_ | refine nj_then ?_))
    refine oj_callS rfl rfl rfl rfl rfl Tryz.call39 ⟨vCells_lt _ _ _ _ _ _,trivial,trivial⟩ (Shred_s σ1 B.1 _ gap XV.rep hw) fun v σ2 hle2 ⟨so,sc,hv,HS⟩=>⟨.tup [.a (.v (.slice so (shredG B.1 gap).1.length sc)),.a (.v (.int .i64 (shredG B.1 gap).2))],(by (repeat' (first | exact trivial | refine SV.lt_tup ?_ | constructor))),hv.symm,?_⟩
    refine oj_run TT rfl ?_
    (repeat (first | refine oj_then ?_ | refine cj_ret ?_))
    refine nj_ret TT rfl fun β w' _ _=>?_
    exact ⟨so,sc,rfl,HS⟩
end Go.Sy
namespace Go.Sy
open Go.Proofs
theorem kidsF_bd (L:List GRec) (en:Int):∀ (n k:Nat),(∀ j∈kidsF L en n k,j<L.length)/\(kidsF L en n k).length<=n
  | 0,_=>⟨fun j h=>(by simp [kidsF] at h),Nat.le_refl _⟩
  | n+1,k=>by
    unfold kidsF
    split
    · rename_i hk
      split
      · obtain ⟨h1,h2⟩:=kidsF_bd L en n (runK L L[k].en (k+1))
        refine ⟨fun j hj=>?_,by rw [List.length_cons];omega⟩
        rcases List.mem_cons.1 hj with rfl | hj
        · exact hk
        · exact h1 j hj
      · exact ⟨fun j h=>(by cases h),Nat.zero_le _⟩
    · exact ⟨fun j h=>(by cases h),Nat.zero_le _⟩
theorem kidsG_bd (L:List GRec) (i:Nat):(∀ j∈kidsG L i,j<L.length)/\(kidsG L i).length<=L.length:=kidsF_bd L _ _ _
theorem Sub.regap {gap gap':Int} {g:GVal} {p:Nat} {now:Int} {P:List GStep} {h:GVal} {q:Nat} {now':Int} (hs:Sub gap g p now P h q now'):∀ now0,∃ now1,Sub gap' g p now0 P h q now1:=by
  induction hs with
  | refl g p now=>exact fun now0=>⟨now0,.refl g p now0⟩
  | @step g p now m x P h q now' hx hs ih =>
    intro now0
    obtain ⟨now1,h1⟩:=ih (now0+gap'+wI gap' ((its g).take m))
    exact ⟨now1,.step hx h1⟩
end Go.Sy
/- Plain law: a value that is laid again and again ahead of all others. No program in sight. -/
namespace Go.Sy
theorem its_name_w {g:GVal} {x:Itm} (hx:x∈its g):x.name.size<=g.weight:=by
  rcases List.mem_append.1 hx with hm | hm
  · obtain ⟨y,_,rfl⟩:=List.mem_map.1 hm
    exact Nat.zero_le _
  · obtain ⟨m,hm'⟩:=List.mem_iff_getElem?.1 hm
    have h1:=size_mem (List.mem_of_getElem? (itsM_get _ _ _ _ hm').2.1)
    rw [g.weight_eq]
    omega
mutual
theorem LayV.fitc:∀ {g:GVal} {lv:Int} {nm:Bool} {name:ByteArray} {lo hi:Int} {L:List GRec},LayV g lv nm name lo L hi->∀ {c:Nat},g.wf->g.weight<=c->name.size<=c->∀ r∈L,r.n.dg.size<=c/\r.s.size<=c/\r.name.size<=c
  | g,_,_,_,_,_,_,.mk h1 h2 h3 h4,c,hw,hg,hn=>by
    intro r hr
    have he:=g.weight_eq
    rcases List.mem_cons.1 hr with rfl | hr
    · exact ⟨by dsimp only;omega,by dsimp only;omega,hn⟩
    · exact h2.fitc (fun x hx=>⟨its_wf hw hx,by have:=in_weight (its_mem hw hx);omega,by have:=its_name_w hx;omega⟩) r hr
theorem LayI.fitc:∀ {xs:List Itm} {lv lo hi:Int} {L:List GRec},LayI xs lv lo L hi->∀ {c:Nat},(∀ x∈xs,x.v.wf/\x.v.weight<=c/\x.name.size<=c)->∀ r∈L,r.n.dg.size<=c/\r.s.size<=c/\r.name.size<=c
  | _,_,_,_,_,.nil h,_,_=>fun r hr=>by cases hr
  | x::xs,_,_,_,_,.cons h1 h2,c,hx=>by
    intro r hr
    have h0:=hx x List.mem_cons_self
    rcases List.mem_append.1 hr with hr | hr
    · exact h1.fitc h0.1 h0.2.1 h0.2.2 r hr
    · exact h2.fitc (fun y hy=>hx y (List.mem_cons_of_mem _ hy)) r hr
end
theorem LayV.fit {g:GVal} {lo hi:Int} {L:List GRec} (h:LayV g 0 false emptyS lo L hi) (hw:g.wf) (hg:g.weight<=mostLen):RecsFit L:=h.fitc hw hg (Nat.zero_le _)
theorem lay_sound {g:GVal} {lo hi:Int} {L:List GRec} (h:LayV g 0 false emptyS lo L hi) (h0:-1<=lo) (hw:g.wf) (hs:sane g=0) (hl:L.length<=4096) (hen:hi<=1099511627776):soundG L=true:=by
  unfold soundG
  rw [h.buildR h0 hw hs hl hen]
  rfl
end Go.Sy
/- Plain laws: records that are laid among a value's. No program in sight. -/
namespace Go.Sy
def upLv (d:Int) (r:GRec):GRec:=⟨r.st,r.en,r.lv+d,r.kd,r.nm,r.name,r.b,r.n,r.s⟩
mutual
theorem LayV.lift:∀ {g:GVal} {lv:Int} {nm:Bool} {name:ByteArray} {lo hi:Int} {L:List GRec},LayV g lv nm name lo L hi->∀ d:Int,LayV g (lv+d) nm name lo (L.map (upLv d)) hi
  | _,lv,_,_,_,_,_,.mk h1 h2 h3 h4,d=>by
    have h:=h2.lift d
    rw [show lv+1+d=lv+d+1 by omega] at h
    exact .mk h1 h h3 h4
theorem LayI.lift:∀ {xs:List Itm} {lv lo hi:Int} {L:List GRec},LayI xs lv lo L hi->∀ d:Int,LayI xs (lv+d) lo (L.map (upLv d)) hi
  | _,_,_,_,_,.nil h,d=>.nil h
  | _,_,_,_,_,.cons h1 h2,d=>by
    rw [List.map_append]
    exact .cons (h1.lift d) (h2.lift d)
end
theorem LayV.renamed {g:GVal} {lv:Int} {nm:Bool} {name:ByteArray} {lo hi:Int} {L:List GRec} (h:LayV g lv nm name lo L hi) (nm':Bool) (name':ByteArray):LayV g lv nm' name' lo (nameHd nm' name' L) hi:=by
  cases h with
  | mk h1 h2 h3 h4=>exact .mk h1 h2 h3 h4
theorem wV1 {g:GVal} (hw:g.wf):wV 1 g=2*(cntV g:Int):=by
  have h1:=(shredV_len 1 g 0 false emptyS 0).2
  have h2:=(shredV_sk 1 g 0 false emptyS 0 hw).2
  have h3:=shredV_cnt 1 g 0 false emptyS 0 hw
  rw [h3] at h1
  omega
theorem wVg {g:GVal} (hw:g.wf) (gap:Int):wV gap g=2*gap*(cntV g:Int):=by
  have h1:=(shredV_len gap g 0 false emptyS 0).2
  have h2:=(shredV_sk gap g 0 false emptyS 0 hw).2
  have h3:=shredV_cnt gap g 0 false emptyS 0 hw
  rw [h3] at h1
  omega
theorem cntS_eq {g:GVal} (hw:g.wf):cntS g=cntV g:=shredV_cnt 1 g 0 false emptyS 0 hw
theorem laid_lay {g:GVal} (hw:g.wf) (top:GRec) (ν φ:Int->Int) (hφ:Incr φ) (he:∀ n:Int,1<=n->n<=2*(cntV g:Int)->ν (n - 1)=φ n) :
    LayV g top.lv top.nm top.name (φ 0) (laidG g top ν) (φ (2*(cntV g:Int))):=by
  have h:=shred_lay (gap:=1) (by omega) hw 0 false emptyS 0
  have hb:=h.bd
  have h1:=h.map hφ (Int.le_refl _)
  have h2:=(h1.lift top.lv).renamed top.nm top.name
  rw [List.map_map,Int.zero_add,Int.zero_add,wV1 hw] at h2
  unfold laidG
  have hm:(shredV 1 g 0 false emptyS 0).1.map (lift top.lv ν)=(shredV 1 g 0 false emptyS 0).1.map (upLv top.lv ∘ stE φ):=by
    refine List.map_congr_left fun r hr=>?_
    have hr:=hb r hr
    rw [wV1 hw] at hr
    unfold lift upLv stE
    dsimp only [Function.comp]
    rw [he r.st (by omega) (by omega),he r.en (by omega) (by omega)]
  rw [hm]
  exact h2
theorem laid_er {g:GVal} (hw:g.wf) (top:GRec) (ν:Int->Int) (gap now:Int):(laidG g top ν).map er=(shredV gap g top.lv top.nm top.name now).1.map er:=by
  have h2:=(laid_lay hw top (fun n=>n+1) (fun n=>n) (fun a b _ h=>h) (fun n _ _=>by omega)).er_eq hw gap now
  rw [<-h2]
  unfold laidG
  have:∀ (nm:Bool) (name:ByteArray) (l:List GRec) (f f':GRec->GRec),(∀ r,er (f r)=er (f' r))->(nameHd nm name (l.map f)).map er=(nameHd nm name (l.map f')).map er:=by
    intro nm name l f f' hf
    cases l with
    | nil=>rfl
    | cons r l =>
      show er (Go.Sy.reName nm name (f r))::(l.map f).map er=er (Go.Sy.reName nm name (f' r))::(l.map f').map er
      have e1:∀ q:GRec,er (Go.Sy.reName nm name q)=Go.Sy.reName nm name (er q):=fun q=>rfl
      rw [e1,e1,hf r,List.map_map,List.map_map]
      congr 1
      exact List.map_congr_left fun q _=>hf q
  exact this _ _ _ _ _ fun r=>rfl
theorem laid_len {g:GVal} (hw:g.wf) (top:GRec) (ν:Int->Int):(laidG g top ν).length=cntV g:=by
  unfold laidG
  rw [nameHd_len,List.length_map]
  exact shredV_cnt 1 g 0 false emptyS 0 hw
mutual
def okAtV:GVal->Int->Prop
  | .mk k b n s l ks vs,deep=>fieldsG (.mk k b n s l ks vs)=true/\twiceG ks=false/\¬ (4<=k/\64<=deep)/\okAtL l (deep+1)/\okAtL vs (deep+1)
def okAtL:List GVal->Int->Prop
  | [],_=>True
  | g::gs,deep=>okAtV g deep/\okAtL gs deep
end
theorem okAtV_eq (g:GVal) (deep:Int):okAtV g deep↔fieldsG g=true/\twiceG g.ks=false/\¬ (4<=g.kind/\64<=deep)/\okAtL g.l (deep+1)/\okAtL g.vs (deep+1):=by
  cases g
  simp only [okAtV,GVal.ks,GVal.kind,GVal.l,GVal.vs]
theorem okAtL_mem:∀ {gs:List GVal} {deep:Int},okAtL gs deep↔∀ g∈gs,okAtV g deep
  | [],_=>⟨fun _ g h=>(by cases h),fun _=>trivial⟩
  | g::gs,deep=>by
    simp only [okAtL,List.mem_cons,forall_eq_or_imp,okAtL_mem (gs:=gs)]
mutual
theorem sane_ok:∀ (g:GVal) (deep c:Int),(saneG g deep c).1=0->okAtV g deep/\(saneG g deep c).2=c+cntV g/\c+cntV g<=4096
  | .mk k b n s l ks vs,deep,c,h=>by
    simp only [saneG] at h ⊢
    split at h
    · simp at h
    rename_i h1
    split at h
    · simp at h
    rename_i h2
    split at h
    · simp at h
    rename_i h3
    split at h
    · simp at h
    rename_i h4
    rw [if_neg h1,if_neg h2,if_neg h3,if_neg h4]
    have hl:(saneL l deep (c+1)).1=0:=by
      by_cases h0:(saneL l deep (c+1)).1=0
      · exact h0
      · rw [if_pos h0] at h;exact h
    rw [if_neg (by simp [hl])] at h ⊢
    obtain ⟨a1,a2,a3⟩:=saneL_ok l deep (c+1) (by omega) hl
    rw [a2] at h ⊢
    obtain ⟨b1,b2,b3⟩:=saneL_ok vs deep _ a3 h
    simp only [okAtV,cntV]
    refine ⟨⟨by simpa using h1,by simpa using h2,h3,a1,b1⟩,by rw [b2];omega,by omega⟩
theorem saneL_ok:∀ (gs:List GVal) (deep c:Int),c<=4096->(saneL gs deep c).1=0->okAtL gs (deep+1)/\(saneL gs deep c).2=c+cntL gs/\c+cntL gs<=4096
  | [],_,c,hc,_=>⟨trivial,by simp [saneL,cntL],by simp [cntL];omega⟩
  | g::gs,deep,c,hc,h=>by
    simp only [saneL] at h ⊢
    have hg:(saneG g (deep+1) c).1=0:=by
      by_cases h0:(saneG g (deep+1) c).1=0
      · exact h0
      · rw [if_pos h0] at h;exact h
    rw [if_neg (by simp [hg])] at h ⊢
    obtain ⟨a1,a2,a3⟩:=sane_ok g (deep+1) c hg
    rw [a2] at h ⊢
    obtain ⟨b1,b2,b3⟩:=saneL_ok gs deep _ a3 h
    simp only [okAtL,cntL]
    exact ⟨⟨a1,b1⟩,by rw [b2];omega,by omega⟩
end
mutual
theorem ok_sane:∀ (g:GVal) (deep c:Int),okAtV g deep->c+cntV g<=4096->saneG g deep c=(0,c+cntV g)
  | .mk k b n s l ks vs,deep,c,h,hc=>by
    simp only [okAtV,cntV] at h hc
    obtain ⟨h1,h2,h3,h4,h5⟩:=h
    simp only [saneG]
    rw [if_neg (by rw [h1];decide),if_neg (by rw [h2];decide),if_neg h3,if_neg (by omega),okL_sane l deep (c+1) h4 (by omega)]
    rw [if_neg (fun h=>h rfl),okL_sane vs deep _ h5 (by omega)]
    simp only [cntV]
    congr 1
    omega
theorem okL_sane:∀ (gs:List GVal) (deep c:Int),okAtL gs (deep+1)->c+cntL gs<=4096->saneL gs deep c=(0,c+cntL gs)
  | [],_,c,_,_=>by simp [saneL,cntL]
  | g::gs,deep,c,h,hc=>by
    simp only [okAtL,cntL] at h hc
    rw [saneL,ok_sane g (deep+1) c h.1 (by omega),if_neg (fun h=>h rfl),okL_sane gs deep _ h.2 (by omega)]
    simp only [cntL]
    congr 1
    omega
end
theorem sane_iff {g:GVal}:sane g=0↔okAtV g 0/\cntV g<=4096:=by
  unfold sane
  constructor
  · intro h
    obtain ⟨h1,-,h3⟩:=sane_ok g 0 0 h
    exact ⟨h1,by omega⟩
  · intro ⟨h1,h2⟩
    rw [ok_sane g 0 0 h1 (by omega)]
def insIt (h:GVal) (k:Nat) (key:ByteArray) (x:GVal):GVal :=
  if h.kind=4 then .mk h.kind h.b h.n h.s (h.l.take k++x::h.l.drop k) [] [] else .mk h.kind h.b h.n h.s [] (h.ks.take k++key::h.ks.drop k) (h.vs.take k++x::h.vs.drop k)
theorem insIt_kind (h:GVal) (k:Nat) (key:ByteArray) (x:GVal):(insIt h k key x).kind=h.kind/\(insIt h k key x).b=h.b/\(insIt h k key x).n=h.n/\(insIt h k key x).s=h.s:=by
  unfold insIt
  split<;>exact ⟨rfl,rfl,rfl,rfl⟩
theorem itsM_ins:∀ (vs:List GVal) (ks:List ByteArray) (k:Nat) (key:ByteArray) (x:GVal),ks.length=vs.length->itsM (vs.take k++x::vs.drop k) (ks.take k++key::ks.drop k)=(itsM vs ks).take k++⟨true,key,x⟩::(itsM vs ks).drop k
  | [],[],k,key,x,_=>by simp [itsM]
  | v::vs,q::ks,0,key,x,_=>by simp [itsM]
  | v::vs,q::ks,k+1,key,x,h=>by
    simp only [List.take_succ_cons,List.drop_succ_cons,List.cons_append,itsM]
    rw [itsM_ins vs ks k key x (by simpa using h)]
  | [],_::_,_,_,_,h=>by simp at h
  | _::_,[],_,_,_,h=>by simp at h
theorem kinds_4 {h:GVal} (hd:kinds h) (hw:h.wf) (hk:h.kind=4):h.ks=[]/\h.vs=[]:=by
  obtain ⟨-,k5,-,-⟩:=(kinds_eq h).1 hd
  have h0:h.ks=[]:=by
    cases hks:h.ks with
    | nil=>rfl
    | cons a l =>
      have:=k5 (by rw [hks];simp)
      omega
  have:=((wf_eq h).1 hw).1
  rw [h0] at this
  exact ⟨h0,List.eq_nil_of_length_eq_zero this.symm⟩
theorem kinds_5 {h:GVal} (hd:kinds h) (hk:h.kind=5):h.l=[]:=by
  obtain ⟨k4,-,-,-⟩:=(kinds_eq h).1 hd
  cases hl:h.l with
  | nil=>rfl
  | cons a l =>
    have:=k4 (by rw [hl];simp)
    omega
theorem its_ins {h:GVal} (hw:h.wf) (hd:kinds h) (hk:h.kind=4\/h.kind=5) (k:Nat) (key:ByteArray) (x:GVal) :
    its (insIt h k key x)=(its h).take k++⟨decide (h.kind=5),if h.kind=5 then key else emptyS,x⟩::(its h).drop k:=by
  unfold insIt
  by_cases h4:h.kind=4
  · obtain ⟨e1,e2⟩:=kinds_4 hd hw h4
    rw [if_pos h4,if_neg (by omega),decide_eq_false (by omega)]
    unfold its
    rw [e1,e2]
    show itsL (h.l.take k++x::h.l.drop k)++[]=(itsL h.l++[]).take k++_::(itsL h.l++[]).drop k
    rw [List.append_nil,List.append_nil]
    unfold itsL
    rw [List.map_append,List.map_cons,List.map_take,List.map_drop]
  · have h5:h.kind=5:=by omega
    rw [if_neg h4,if_pos h5,decide_eq_true h5]
    unfold its
    rw [kinds_5 hd h5]
    exact itsM_ins _ _ _ _ _ ((wf_eq h).1 hw).1
theorem insIt_wf {h x:GVal} (hw:h.wf) (hx:x.wf) (k:Nat) (key:ByteArray):(insIt h k key x).wf:=by
  obtain ⟨h1,h2,h3⟩:=(wf_eq h).1 hw
  have split:∀ l:List GVal,GVal.wfs l->GVal.wfs (l.take k++x::l.drop k):=fun l hl=>by
    rw [<-List.take_append_drop k l,wfs_append] at hl
    rw [wfs_append]
    exact ⟨hl.1,hx,hl.2⟩
  unfold insIt
  split
  · rw [wf_eq]
    exact ⟨rfl,split _ h2,trivial⟩
  · rw [wf_eq]
    refine ⟨?_,trivial,split _ h3⟩
    show (h.ks.take k++key::h.ks.drop k).length=(h.vs.take k++x::h.vs.drop k).length
    simp only [List.length_append,List.length_cons,List.length_take,List.length_drop,h1]
theorem shred_half {gap:Int} {h:GVal} (hw:h.wf) (k:Nat) (lv:Int) (nm:Bool) (name:ByteArray) (now:Int) :
    (shredV gap h lv nm name now).1=⟨now+gap,now+wV gap h,lv,h.kind,nm,name,h.b,h.n,h.s⟩::((shredI gap ((its h).take k) (lv+1) (now+gap)).1++(shredI gap ((its h).drop k) (lv+1) (now+gap+wI gap ((its h).take k))).1) /\
    (shredI gap ((its h).take k) (lv+1) (now+gap)).1.length=cntI ((its h).take k)/\GVal.wfs (valsI ((its h).take k))/\GVal.wfs (valsI ((its h).drop k))/\wV gap h=gap+(wI gap ((its h).take k)+wI gap ((its h).drop k))+gap:=by
  have hwi:=wfs_its hw
  have hsp:=(List.take_append_drop k (its h)).symm
  have hwt:GVal.wfs (valsI ((its h).take k))/\GVal.wfs (valsI ((its h).drop k)):=by
    rw [hsp,valsI_append,wfs_append] at hwi
    exact hwi
  have hsk:=shredI_sk gap ((its h).take k) (lv+1) (now+gap) hwt.1
  refine ⟨?_,?_,hwt.1,hwt.2,?_⟩
  · rw [shredV_its gap h lv nm name now hw]
    congr 1
    conv=>lhs;rw [hsp]
    rw [shredI_append,hsk.2]
    rfl
  · have:=congrArg List.length hsk.1
    rw [List.length_map,skL_len] at this
    exact this
  · rw [wI_its (gap:=gap) hw]
    conv=>lhs;rw [hsp]
    unfold wI
    rw [valsI_append,wL_append]
end Go.Sy
namespace Go.Sy
open Go.Proofs
def s2E (gs:Nat) (ao:Option Addr) (n cap:Nat) (now gap:Int):AE:=⟨some ⟨gs,0,none⟩,1,1,261,3,[.slice ao n cap,.int .i64 now,.int .i64 gap]⟩
def r2E (ao:Option Addr) (n cap:Nat) (l:List GRec):AE:=⟨ao,n,cap,131,11,recXs l⟩
def sh2A (gs:Nat) (ao:Option Addr) (cap:Nat) (now gap:Int) (l:List GRec):List AE:=[s2E gs ao l.length cap now gap,r2E ao l.length cap l]
set_option maxRecDepth 100000 in
set_option maxHeartbeats 1000000 in
theorem give_c (σ:Snap) (gs:Nat) (ao:Option Addr) (n cap:Nat) (now gap:Int) (h1:0<=now) (h2:now<=1125899906842624) (h3:0<=gap) (h4:gap<=1000) :
    FnS Tryz.prog 210 [.a (.v (.pointer (some ⟨gs,0,none⟩)))] σ [s2E gs ao n cap now gap] (fun v _ A'=>v=.int .i64 (now+gap)/\A'=[s2E gs ao n cap (now+gap) gap]):=by
  refine enter_f Tryz.func210 rfl rfl (by (repeat' (first | exact trivial | constructor))) fun w=>?_
  (repeat (first | refine cj_seq ?_ | refine cjr TT rfl ?_ | refine oj_then ?_))
  refine cj_draw [(0,.pure),(1,.pure),(2,.pure),(3,.pure),(4,.quiet),(5,.pure),(6,.pure),(7,.pure),(8,.quiet),(9,.pure),(10,.pure),(11,.pure),(12,.sink)] mixed (by kernel_rfl) (oj_run TT rfl ?_)
  refine oj_ldA 0 (c:=.v (.int .i64 now)) TT rfl rfl rfl rfl rfl rfl rfl rfl rfl rfl rfl trivial (oj_run TT rfl ?_)
  refine oj_ldA 0 (c:=.v (.int .i64 gap)) TT rfl rfl rfl rfl rfl rfl rfl rfl rfl rfl rfl trivial (oj_run TT rfl ?_)
  refine oj_add rfl rfl rfl rfl rfl rfl (by omega) (oj_run TT rfl ?_)
  refine oj_stA 0 (A':=[s2E gs ao n cap (now+gap) gap]) TT rfl rfl rfl rfl rfl rfl rfl rfl rfl rfl (by show 1<1*3;omega) trivial rfl rfl (oj_run TT rfl ?_)
  (repeat (first | refine cj_seq ?_ | refine cjr TT rfl ?_ | refine oj_then ?_))
  refine oj_ldA 0 (c:=.v (.int .i64 (now+gap))) TT rfl rfl rfl rfl rfl rfl rfl rfl rfl rfl rfl trivial (oj_run TT rfl ?_)
  (repeat (first | refine oj_then ?_ | refine cj_ret ?_))
  refine nj_fret TT rfl fun β w' _ _=>?_
  exact ⟨rfl,rfl⟩
def ord82_3:List (Nat×Tag):=[(0,.pure),(1,.pure),(2,.pure),(3,.quiet),(4,.pure),(5,.pure),(6,.keep),(7,.pure),(8,.pure),(9,.sink)]
def ord82_11:List (Nat×Tag):=[(0,.pure),(1,.pure),(2,.quiet),(3,.pure),(4,.pure),(5,.pure),(6,.quiet),(7,.pure),(8,.quiet),(9,.pure),(10,.pure),(11,.pure),(12,.quiet),(13,.pure),(14,.pure),(15,.sink)]
theorem FnS.b {P:Program} {f:FuncId} {p q s l:SV} {x y:AT} {σ:Snap} {A:List AE} {Φ:Value->Snap->List AE->Prop} (e:x.den β0=y.den β0) (h:FnS P f [p,q,.a x,s,l] σ A Φ):FnS P f [p,q,.a y,s,l] σ A Φ:=by
  unfold FnS at *
  simp only [List.map_cons,List.map_nil,SV.den] at *
  rw [<-e];exact h
set_option maxRecDepth 100000 in
set_option maxHeartbeats 4000000 in
theorem value2_c (g:GVal):∀ (σ:Snap) (r:List AT) (nm:Bool) (name:ByteArray) (lv:Int) (gs:Nat) (ao:Option Addr) (cap:Nat) (now gap:Int) (L:List GRec),RepV σ g r->0<=now->now+2000*g.weight<=1125899906842624->0<=gap->gap<=1000 ->
    L.length+g.weight<=1000000->0<=lv->lv+g.weight<=1099511627776->L.length<=cap ->
    FnS Tryz.prog 155 [.a (.v (.pointer (some ⟨gs,0,none⟩))),.agg r,.a (.b nm),.a (.v (.string name)),.a (.v (.int .i64 lv))] σ (sh2A gs ao cap now gap L) (fun v _ A'=>v=.tuple #[]/\∃ ao' cap',(L++(shredV gap g lv nm name now).1).length<=cap' /\
      A'=sh2A gs ao' cap' (shredV gap g lv nm name now).2 gap (L++(shredV gap g lv nm name now).1)):=by
  induction g using GVal.byWeight with | _ g ih=>?_
  intro σ r nm name lv gs ao cap now gap L hr hn1 hn2 hg1 hg2 hnw hlv1 hlv2 hncap
  obtain ⟨la,lc,lrows,ma,mc,vrows,rfl,V⟩:=hr.open
  have hwg:=g.weight_eq
  have hwl:=weights_len g.l
  have hwv:=weights_len g.vs
  have hkv:=V.kv
  have hsl:=shredL_now g.l (lv+1) (now+gap) hg1 hg2
  have hsm:=shredM_now (gap:=gap) g.vs g.ks (lv+1) (shredL gap g.l (lv+1) (now+gap)).2 hg1 hg2
  have hll:=(shredL_len gap g.l (lv+1) (now+gap)).1
  have hlm:=(shredM_len gap g.vs g.ks (lv+1) (shredL gap g.l (lv+1) (now+gap)).2).1
  rw [shredV_eq]
  refine enter_f Tryz.func155 rfl rfl (by (repeat' (first | exact trivial | exact vCells_lt _ _ _ _ _ _ | constructor))) fun w=>?_
  (repeat (first | refine cj_seq ?_ | refine cjr TT rfl ?_ | refine oj_then ?_))
  refine oj_ldA 0 (c:=.v (.slice ao L.length cap)) TT rfl rfl rfl rfl rfl rfl rfl rfl rfl rfl rfl trivial (oj_run TT rfl ?_)
  (repeat (first | refine cj_seq ?_ | refine oj_then ?_))
  let x0:GRec:=⟨0,0,lv,g.kind,nm,name,g.b,g.n,g.s⟩
  let x1:GRec:=⟨now+gap,0,lv,g.kind,nm,name,g.b,g.n,g.s⟩
  refine cj_draw [(0,.pure),(1,.pure),(2,.pure),(3,.pure),(4,.quiet),(5,.pure),(6,.pure),(7,.quiet),(8,.pure),(9,.pure),(10,.pure),(11,.quiet),(12,.pure),(13,.quiet),(14,.pure),(15,.quiet),(16,.pure),(17,.keep),(18,.sink),(19,.pure),(20,.pure),(21,.sink)] mixed (by kernel_rfl) (oj_run TT rfl ?_)
  refine oj_ldA 0 (c:=.v (.slice ao L.length cap)) TT rfl rfl rfl rfl rfl rfl rfl rfl rfl rfl rfl trivial (oj_run TT rfl ?_)
  refine oj_append_lit TT 1 rfl rfl rfl rfl rfl rfl rfl rfl rfl rfl rfl rfl rfl rfl rfl rfl rfl rfl (by (repeat' (first | exact trivial | refine AllLt.of ?_ | constructor))) rfl (by omega) (by show (L.length+1)*112<=_;omega) fun ao1 cap1 hcap1=>oj_run TT rfl ?_
  refine oj_stA 0 (A':=[s2E gs ao1 (L.length+1) cap1 now gap,⟨ao1,L.length+1,cap1,131,11,recXs L++(recCells x0).map AT.val⟩]) TT rfl rfl rfl rfl rfl rfl rfl rfl rfl rfl (by show 0<1*3;omega) trivial rfl rfl (oj_run TT rfl ?_)
  rw [recXs_push]
  (repeat (first | refine cj_seq ?_ | refine oj_then ?_))
  have hM:(L++[x0])[L.length]?=some x0:=by simp
  have hMl:L.length<(L++[x0]).length:=(List.getElem?_eq_some_iff.1 hM).1
  have hMs:(L++[x0]).set L.length x1=L++[x1]:=by simp
  have hMn:(L++[x1]).length=(L++[x0]).length:=by simp
  have hMk:L.length+1=(L++[x0]).length:=by simp
  rw [hMk]
  rw [hMk] at hcap1
  generalize hMM:L++[x0]=M at *
  refine cj_arrAt 1 (E:=r2E ao1 M.length cap1 M) rfl (by show 0<M.length;omega) fun g1 hg1'=>?_
  have hg1':ao1=some ⟨g1,0,none⟩:=hg1'
  subst hg1'
  refine cj_drawW ord82_3 (fun β w=>w.cell? ⟨gs,0,none⟩=some (.slice (some ⟨g1,0,none⟩) M.length cap1)) (fun β w h=>(h.arr 0 (s2E gs (some ⟨g1,0,none⟩) M.length cap1 now gap) rfl).cell rfl rfl) mixed (by kernel_rfl) ?_
  refine ow_pure TT rfl rfl rfl rfl rfl rfl ?_
  refine ow_pure TT rfl rfl rfl rfl rfl rfl ?_
  refine ow_pure TT rfl rfl rfl rfl rfl rfl ?_
  refine ow_ld1 TT (.v (.slice (some ⟨g1,0,none⟩) M.length cap1)) rfl rfl rfl rfl rfl rfl rfl rfl (fun _ _ h=>h) trivial ?_
  refine ow_pure TT rfl rfl rfl rfl rfl rfl ?_
  refine ow_pure TT rfl rfl rfl rfl rfl rfl ?_
  refine ow_call [0,1] (A0:=[s2E gs (some ⟨g1,0,none⟩) M.length cap1 now gap]) (Ar:=[r2E (some ⟨g1,0,none⟩) M.length cap1 M]) rfl rfl rfl rfl rfl rfl rfl Tryz.call210 (by (repeat' (first | exact trivial | constructor))) (give_c σ gs (some ⟨g1,0,none⟩) M.length cap1 now gap hn1 (by omega) hg1 hg2) fun v σ1 A1 hle1 ⟨hv,hA⟩=>?_
  subst hA
  refine ⟨fun β w h=>(h.arr 0 (s2E gs (some ⟨g1,0,none⟩) M.length cap1 (now+gap) gap) rfl).cell rfl rfl,.a (.v (.int .i64 (now+gap))),trivial,hv.symm,?_⟩
  refine ow_end rfl (fun β w h=>(h.arr 0 (s2E gs (some ⟨g1,0,none⟩) M.length cap1 (now+gap) gap) rfl).cell rfl rfl) (oj_run TT rfl ?_)
  refine oj_indexAddr TT rfl rfl rfl rfl rfl rfl rfl rfl rfl ⟨by omega,by omega⟩ (oj_run TT rfl ?_)
  have hoff:L.length*11+0<M.length*11:=by omega
  refine oj_stA 1 (A':=[s2E gs (some ⟨g1,0,none⟩) M.length cap1 (now+gap) gap,r2E (some ⟨g1,0,none⟩) M.length cap1 (L++[x1])]) (off:=L.length*11+0) TT rfl rfl rfl rfl ?_ rfl rfl rfl rfl rfl hoff trivial rfl ?_ (oj_run TT rfl ?_)
  · show some (SV.a (AT.v (.pointer (some (Addr.add (Addr.add ⟨g1,0,none⟩ ((L.length:Int).toNat*11)) 0)))))=_
    rw [add0,Addr.add_lit]
    rfl
  · show [_,_]=[_,_]
    congr 1
    congr 1
    unfold r2E
    congr 1
    show (recXs M).set (L.length*11+0) (AT.v (.int .i64 (now+gap))).val=_
    rw [recXs_set (r':=x1) _ hM (by omega) rfl,hMs]
  clear hMs
  (repeat (first | refine cj_seq ?_ | refine cjr TT rfl ?_ | refine oj_then ?_ | refine cj_block ?_))
  refine cj_cutB (fun (s:ShS)=>s.σ) (fun _=>[(0,.a (.v (.pointer (some ⟨gs,0,none⟩)))),(4,.a (.v (.int .i64 lv))),(6,.a (.p 0 0)),(10,.a (.v (.int .i64 L.length)))])
    (fun _=>[(0,.loc 28,vCells g la lc ma mc)]) (fun s=>sh2A gs s.ao s.cap s.now gap (L++x1::s.P)) 2
    (fun s=>σ1.le s.σ/\s.P=(shredL gap g.l (lv+1) (now+gap)).1/\s.now=(shredL gap g.l (lv+1) (now+gap)).2/\(L++x1::s.P).length<=s.cap) ?_ (fun s ⟨hs,hsP,hsn,hscap⟩=>?_)
  · refine cj_loop (fun (s:ShS)=>s.σ) (fun s=>[(0,.a (.v (.pointer (some ⟨gs,0,none⟩)))),(4,.a (.v (.int .i64 lv))),(6,.a (.p 0 0)),(10,.a (.v (.int .i64 L.length))),(11,.a (.v (.int .i64 s.k)))])
      (fun _=>[(0,.loc 28,vCells g la lc ma mc)]) (fun s=>sh2A gs s.ao s.cap s.now gap (L++x1::s.P)) 2
      (fun s=>s.k<=g.l.length/\σ1.le s.σ/\s.P++(shredL gap (g.l.drop s.k) (lv+1) s.now).1=(shredL gap g.l (lv+1) (now+gap)).1/\(shredL gap (g.l.drop s.k) (lv+1) s.now).2=(shredL gap g.l (lv+1) (now+gap)).2 /\
        0<=s.now/\s.now+2000*GVal.weights (g.l.drop s.k)<=now+gap+2000*GVal.weights g.l/\s.P.length+GVal.weights (g.l.drop s.k)<=GVal.weights g.l/\(L++x1::s.P).length<=s.cap)
      (fun s=>g.l.length - s.k) ⟨σ1,0,some ⟨g1,0,none⟩,cap1,now+gap,[]⟩ ⟨Nat.zero_le _,Snap.le_refl _,rfl,rfl,by dsimp only;omega,by dsimp only;rw [List.drop_zero];omega,by dsimp only;rw [List.drop_zero];simp,by show (L++[x1]).length<=_;rw [hMn];exact hcap1⟩
      rfl (by (repeat first | exact trivial | refine ⟨rfl,?_⟩)) (by (repeat first | exact trivial | refine ⟨rfl,?_⟩)) (by unfold sh2A;dsimp only;rw [hMn]) (by (repeat' (first | exact trivial | exact Nat.le_of_ble_eq_true rfl | constructor))) (by (repeat' (first | exact trivial | exact Nat.le_of_ble_eq_true rfl | exact vCells_lt _ _ _ _ _ _ | constructor))) fun ⟨s,k,ao,cap,nw,P⟩ ⟨hk,hs,hP1,hP2,hnw1,hnw2,hPw,hcp⟩=>?_
    dsimp only at hk hs hP1 hP2 hnw1 hnw2 hPw hcp ⊢
    (repeat (first | refine cj_seq ?_ | refine cjr TT rfl ?_ | refine oj_then ?_))
    refine cj_if rfl (fun h=>?_) (fun h=>?_)
    · have hkl:k<g.l.length:=by simpa using h
      obtain ⟨rr,hr1,hr2⟩:=(V.l.mono (Snap.le_trans hle1 hs)).get (List.getElem?_eq_getElem hkl)
      obtain ⟨la',lc',lrows',ma',mc',vrows',rfl,V'⟩:=hr2.open
      have hwx:=weight_l (List.getElem_mem hkl)
      have hwd:=weights_drop (List.getElem?_eq_getElem hkl)
      rw [List.drop_eq_getElem_cons hkl,shredL] at hP1 hP2
      have hnx:=shredV_now (gap:=gap) g.l[k] (lv+1) false emptyS nw hg1 hg2
      have hlx:=(shredV_len gap g.l[k] (lv+1) false emptyS nw).1
      have hlen:(L++x1::P).length=L.length+1+P.length:=by simp;omega
      (repeat (first | refine cj_seq ?_ | refine cjr TT rfl ?_ | refine cj_skip ?_ | refine cj_block ?_ | refine nj_then ?_))
      refine oj_idx TT rfl rfl rfl rfl rfl rfl rfl rfl rfl ((V.L.mono hle1).mono hs) (by omega) hr1 (oj_run TT rfl ?_)
      (repeat (refine oj_add rfl rfl rfl rfl rfl rfl (by omega) ?_;refine oj_run TT rfl ?_))
      refine oj_callF [0,1] (A0:=sh2A gs ao cap nw gap (L++x1::P)) (Ar:=[]) rfl rfl rfl rfl rfl rfl rfl Tryz.call155 (by (repeat' (first | exact trivial | exact vCells_lt _ _ _ _ _ _ | constructor))) (FnS.b rfl (ih _ hwx s _ false emptyS (lv+1) gs ao cap nw gap (L++x1::P) V'.rep hnw1 (by omega) hg1 hg2 (by omega) (by omega) (by omega) hcp)) fun v σ2 A2 hle2 ⟨hv,ao',cap',hcp',hA⟩=>⟨.tup [],(by (repeat' (first | exact trivial | refine SV.lt_tup ?_))),hv.symm,?_⟩
      subst hA
      refine oj_run TT rfl ?_
      (repeat (first | refine cjr TT rfl ?_ | refine oj_nil ?_ | refine nj_then ?_ | refine nj_block ?_ | (refine oj_add rfl rfl rfl rfl rfl rfl (by omega) ?_;refine oj_run TT rfl ?_)))
      refine nj_again ⟨σ2,k+1,ao',cap',(shredV gap g.l[k] (lv+1) false emptyS nw).2,P++(shredV gap g.l[k] (lv+1) false emptyS nw).1⟩
        ⟨hkl,Snap.le_trans hs hle2,by rw [List.append_assoc];exact hP1,hP2,by dsimp only;omega,by dsimp only;omega,by dsimp only;rw [List.length_append];omega,?_⟩ (by dsimp only;omega) rfl (by (repeat first | exact trivial | refine ⟨rfl,?_⟩)) (by (repeat first | exact trivial | refine ⟨rfl,?_⟩)) ?_ (by (repeat' (first | exact trivial | exact Nat.le_of_ble_eq_true rfl | constructor))) (by (repeat' (first | exact trivial | exact Nat.le_of_ble_eq_true rfl | exact vCells_lt _ _ _ _ _ _ | constructor)))
      · have e:L++x1::(P++(shredV gap g.l[k] (lv+1) false emptyS nw).1)=L++x1::P++(shredV gap g.l[k] (lv+1) false emptyS nw).1:=by simp
        dsimp only
        rw [e];exact hcp'
      · have e:L++x1::(P++(shredV gap g.l[k] (lv+1) false emptyS nw).1)=L++x1::P++(shredV gap g.l[k] (lv+1) false emptyS nw).1:=by simp
        dsimp only
        rw [e,List.append_nil]
    · have hk0:k=g.l.length:=by simp at h;omega
      subst hk0
      rw [List.drop_length,shredL] at hP1 hP2
      rw [List.append_nil] at hP1
      (repeat (first | refine cj_exit ?_ | refine nj_then_exit ?_ | refine nj_block_out ?_))
      refine nj_again ⟨s,g.l.length,ao,cap,nw,P⟩ ⟨hs,hP1,hP2,hcp⟩ Nat.zero_lt_one rfl (by (repeat first | exact trivial | refine ⟨rfl,?_⟩)) (by (repeat first | exact trivial | refine ⟨rfl,?_⟩)) rfl (by (repeat' (first | exact trivial | exact Nat.le_of_ble_eq_true rfl | constructor))) (by (repeat' (first | exact trivial | exact Nat.le_of_ble_eq_true rfl | exact vCells_lt _ _ _ _ _ _ | constructor)))
  obtain ⟨s,k0,ao,cap,nw0,P0⟩:=s
  dsimp only at hs hsP hsn hscap ⊢
  have hlP:P0.length<=GVal.weights g.l:=by rw [hsP];exact hll
  have hn0:nw0<=now+gap+2000*GVal.weights g.l:=by rw [hsn];exact hsl.2
  have hn0':now+gap<=nw0:=by rw [hsn];exact hsl.1
  rw [<-hsn] at hlm hsm
  rw [<-hsn,<-hsP]
  clear hsn hsP
  (repeat (first | refine cj_seq ?_ | refine cjr TT rfl ?_ | refine oj_then ?_ | refine cj_block ?_))
  refine cj_cutB (fun (s:ShS)=>s.σ) (fun _=>[(0,.a (.v (.pointer (some ⟨gs,0,none⟩)))),(10,.a (.v (.int .i64 L.length)))])
    (fun _=>[]) (fun s=>sh2A gs s.ao s.cap s.now gap (L++x1::P0++s.P)) 0
    (fun s=>σ1.le s.σ/\s.P=(shredM gap g.vs g.ks (lv+1) nw0).1/\s.now=(shredM gap g.vs g.ks (lv+1) nw0).2/\(L++x1::P0++s.P).length<=s.cap) ?_ (fun s ⟨hs,hsP,hsn,hscap⟩=>?_)
  · refine cj_loop (fun (s:ShS)=>s.σ) (fun s=>[(0,.a (.v (.pointer (some ⟨gs,0,none⟩)))),(4,.a (.v (.int .i64 lv))),(6,.a (.p 0 0)),(10,.a (.v (.int .i64 L.length))),(12,.a (.v (.int .i64 s.k)))])
      (fun _=>[(0,.loc 28,vCells g la lc ma mc)]) (fun s=>sh2A gs s.ao s.cap s.now gap (L++x1::P0++s.P)) 2
      (fun s=>s.k<=g.ks.length/\σ1.le s.σ/\s.P++(shredM gap (g.vs.drop s.k) (g.ks.drop s.k) (lv+1) s.now).1=(shredM gap g.vs g.ks (lv+1) nw0).1/\(shredM gap (g.vs.drop s.k) (g.ks.drop s.k) (lv+1) s.now).2=(shredM gap g.vs g.ks (lv+1) nw0).2 /\
        0<=s.now/\s.now+2000*GVal.weights (g.vs.drop s.k)<=nw0+2000*GVal.weights g.vs/\s.P.length+GVal.weights (g.vs.drop s.k)<=GVal.weights g.vs/\(L++x1::P0++s.P).length<=s.cap)
      (fun s=>g.ks.length - s.k) ⟨s,0,ao,cap,nw0,[]⟩ ⟨Nat.zero_le _,hs,rfl,rfl,by dsimp only;omega,by dsimp only;rw [List.drop_zero];omega,by dsimp only;rw [List.drop_zero];simp,by dsimp only;rw [List.append_nil];exact hscap⟩
      rfl (by (repeat first | exact trivial | refine ⟨rfl,?_⟩)) (by (repeat first | exact trivial | refine ⟨rfl,?_⟩)) (by rw [List.append_nil]) (by (repeat' (first | exact trivial | exact Nat.le_of_ble_eq_true rfl | constructor))) (by (repeat' (first | exact trivial | exact Nat.le_of_ble_eq_true rfl | exact vCells_lt _ _ _ _ _ _ | constructor))) fun ⟨s,k,ao,cap,nw,P⟩ ⟨hk,hs,hP1,hP2,hnw1,hnw2,hPw,hcp⟩=>?_
    dsimp only at hk hs hP1 hP2 hnw1 hnw2 hPw hcp ⊢
    (repeat (first | refine cj_seq ?_ | refine cjr TT rfl ?_ | refine oj_then ?_))
    refine cj_if rfl (fun h=>?_) (fun h=>?_)
    · have hkl:k<g.ks.length:=by simpa using h
      have hkv':k<g.vs.length:=by omega
      obtain ⟨rr,hr1,hr2⟩:=(V.v.mono (Snap.le_trans hle1 hs)).get (List.getElem?_eq_getElem hkv')
      have hrow:=keyRows_get (List.getElem?_eq_getElem hkl) hr1
      obtain ⟨la',lc',lrows',ma',mc',vrows',rfl,V'⟩:=hr2.open
      have hwx:=weight_v (List.getElem_mem hkv')
      have hwd:=weights_drop (List.getElem?_eq_getElem hkv')
      rw [List.drop_eq_getElem_cons hkv',List.drop_eq_getElem_cons hkl,shredM] at hP1 hP2
      have hnx:=shredV_now (gap:=gap) g.vs[k] (lv+1) true g.ks[k] nw hg1 hg2
      have hlx:=(shredV_len gap g.vs[k] (lv+1) true g.ks[k] nw).1
      have hlen:(L++x1::P0++P).length=L.length+1+P0.length+P.length:=by simp;omega
      (repeat (first | refine cj_seq ?_ | refine cj_skip ?_ | refine cj_block ?_ | refine nj_then ?_))
      refine cj_draw ord82_11 mixed (by kernel_rfl) (oj_run TT rfl ?_)
      refine oj_idx TT rfl rfl rfl rfl rfl rfl rfl rfl rfl ((V.M.mono hle1).mono hs) (by omega) hrow (oj_run TT rfl ?_)
      refine oj_idx TT rfl rfl rfl rfl rfl rfl rfl rfl rfl ((V.M.mono hle1).mono hs) (by omega) hrow (oj_run TT rfl ?_)
      refine oj_add rfl rfl rfl rfl rfl rfl (by omega) (oj_run TT rfl ?_)
      refine oj_callF [0,1] (A0:=sh2A gs ao cap nw gap (L++x1::P0++P)) (Ar:=[]) rfl rfl rfl rfl rfl rfl rfl Tryz.call155 (by (repeat' (first | exact trivial | exact vCells_lt _ _ _ _ _ _ | constructor))) (FnS.b rfl (ih _ hwx s _ true g.ks[k] (lv+1) gs ao cap nw gap (L++x1::P0++P) V'.rep hnw1 (by omega) hg1 hg2 (by omega) (by omega) (by omega) hcp)) fun v σ2 A2 hle2 ⟨hv,ao',cap',hcp',hA⟩=>⟨.tup [],(by (repeat' (first | exact trivial | refine SV.lt_tup ?_))),hv.symm,?_⟩
      subst hA
      refine oj_run TT rfl ?_
      (repeat (first | refine cjr TT rfl ?_ | refine oj_nil ?_ | refine nj_then ?_ | refine nj_block ?_ | (refine oj_add rfl rfl rfl rfl rfl rfl (by omega) ?_;refine oj_run TT rfl ?_)))
      refine nj_again ⟨σ2,k+1,ao',cap',(shredV gap g.vs[k] (lv+1) true g.ks[k] nw).2,P++(shredV gap g.vs[k] (lv+1) true g.ks[k] nw).1⟩
        ⟨hkl,Snap.le_trans hs hle2,by rw [List.append_assoc];exact hP1,hP2,by dsimp only;omega,by dsimp only;omega,by dsimp only;rw [List.length_append];omega,?_⟩ (by dsimp only;omega) rfl (by (repeat first | exact trivial | refine ⟨rfl,?_⟩)) (by (repeat first | exact trivial | refine ⟨rfl,?_⟩)) ?_ (by (repeat' (first | exact trivial | exact Nat.le_of_ble_eq_true rfl | constructor))) (by (repeat' (first | exact trivial | exact Nat.le_of_ble_eq_true rfl | exact vCells_lt _ _ _ _ _ _ | constructor)))
      · dsimp only
        rw [<-List.append_assoc];exact hcp'
      · dsimp only
        rw [<-List.append_assoc,List.append_nil]
    · have hk0:k=g.ks.length:=by simp at h;omega
      subst hk0
      rw [List.drop_length,List.drop_of_length_le (by omega),shredM] at hP1 hP2
      rw [List.append_nil] at hP1
      (repeat (first | refine cj_exit ?_ | refine nj_then_exit ?_ | refine nj_block_out ?_))
      refine nj_again ⟨s,g.ks.length,ao,cap,nw,P⟩ ⟨hs,hP1,hP2,hcp⟩ Nat.zero_lt_one rfl (by (repeat first | exact trivial | refine ⟨rfl,?_⟩)) (by (repeat first | exact trivial | refine ⟨rfl,?_⟩)) rfl (by (repeat' (first | exact trivial | constructor))) (by (repeat' exact trivial))
  obtain ⟨s,k0,ao,cap,nw1,P1⟩:=s
  dsimp only at hs hsP hsn hscap ⊢
  have hn1':nw1<=nw0+2000*GVal.weights g.vs:=by rw [hsn];exact hsm.2
  have hn1'':nw0<=nw1:=by rw [hsn];exact hsm.1
  rw [<-hsn,<-hsP]
  clear hsn hsP
  have hM:(L++x1::P0++P1)[L.length]?=some x1:=by simp
  have hMl:L.length<(L++x1::P0++P1).length:=(List.getElem?_eq_some_iff.1 hM).1
  have hMs:(L++x1::P0++P1).set L.length ⟨now+gap,nw1+gap,lv,g.kind,nm,name,g.b,g.n,g.s⟩=L++⟨now+gap,nw1+gap,lv,g.kind,nm,name,g.b,g.n,g.s⟩::(P0++P1):=by simp
  have hMn:(L++⟨now+gap,nw1+gap,lv,g.kind,nm,name,g.b,g.n,g.s⟩::(P0++P1)).length=(L++x1::P0++P1).length:=by simp
  generalize hMM:L++x1::P0++P1=M at *
  refine cj_arrAt 1 (E:=r2E ao M.length cap M) rfl (by show 0<M.length;omega) fun g1 hg1'=>?_
  have hg1':ao=some ⟨g1,0,none⟩:=hg1'
  subst hg1'
  refine cj_drawW ord82_3 (fun β w=>w.cell? ⟨gs,0,none⟩=some (.slice (some ⟨g1,0,none⟩) M.length cap)) (fun β w h=>(h.arr 0 (s2E gs (some ⟨g1,0,none⟩) M.length cap nw1 gap) rfl).cell rfl rfl) mixed (by kernel_rfl) ?_
  refine ow_pure TT rfl rfl rfl rfl rfl rfl ?_
  refine ow_pure TT rfl rfl rfl rfl rfl rfl ?_
  refine ow_pure TT rfl rfl rfl rfl rfl rfl ?_
  refine ow_ld1 TT (.v (.slice (some ⟨g1,0,none⟩) M.length cap)) rfl rfl rfl rfl rfl rfl rfl rfl (fun _ _ h=>h) trivial ?_
  refine ow_pure TT rfl rfl rfl rfl rfl rfl ?_
  refine ow_pure TT rfl rfl rfl rfl rfl rfl ?_
  refine ow_call [0,1] (A0:=[s2E gs (some ⟨g1,0,none⟩) M.length cap nw1 gap]) (Ar:=[r2E (some ⟨g1,0,none⟩) M.length cap M]) rfl rfl rfl rfl rfl rfl rfl Tryz.call210 (by (repeat' (first | exact trivial | constructor))) (give_c s gs (some ⟨g1,0,none⟩) M.length cap nw1 gap (by omega) (by omega) hg1 hg2) fun v σ2 A2 hle2 ⟨hv,hA⟩=>?_
  subst hA
  refine ⟨fun β w h=>(h.arr 0 (s2E gs (some ⟨g1,0,none⟩) M.length cap (nw1+gap) gap) rfl).cell rfl rfl,.a (.v (.int .i64 (nw1+gap))),trivial,hv.symm,?_⟩
  refine ow_end rfl (fun β w h=>(h.arr 0 (s2E gs (some ⟨g1,0,none⟩) M.length cap (nw1+gap) gap) rfl).cell rfl rfl) (oj_run TT rfl ?_)
  refine oj_indexAddr TT rfl rfl rfl rfl rfl rfl rfl rfl rfl ⟨by omega,by omega⟩ (oj_run TT rfl ?_)
  have hoff:L.length*11+1<M.length*11:=by omega
  refine oj_stA 1 (A':=sh2A gs (some ⟨g1,0,none⟩) cap (nw1+gap) gap (L++⟨now+gap,nw1+gap,lv,g.kind,nm,name,g.b,g.n,g.s⟩::(P0++P1))) (off:=L.length*11+1) TT rfl rfl rfl rfl ?_ rfl rfl rfl rfl rfl hoff trivial rfl ?_ (oj_run TT rfl ?_)
  · show some (SV.a (AT.v (.pointer (some (Addr.add (Addr.add ⟨g1,0,none⟩ ((L.length:Int).toNat*11)) 1)))))=_
    rw [add0,Addr.add_lit]
    rfl
  · unfold sh2A
    rw [hMn]
    show [_,_]=[_,_]
    congr 1
    congr 1
    unfold r2E
    congr 1
    show (recXs M).set (L.length*11+1) (AT.v (.int .i64 (nw1+gap))).val=_
    rw [recXs_set (r':=⟨now+gap,nw1+gap,lv,g.kind,nm,name,g.b,g.n,g.s⟩) _ hM (by omega) rfl,hMs]
  (repeat refine oj_nil ?_)
  refine nj_fend TT rfl fun β w' _ _=>?_
  refine ⟨rfl,_,cap,?_,rfl⟩
  rw [hMn];exact hscap
end Go.Sy
namespace Go.Sy
open Go.Proofs
set_option maxRecDepth 100000 in
set_option maxHeartbeats 1000000 in
theorem rvalid_c (σ:Snap) (r:Int):PlainS Tryz.prog 206 [.a (.v (.int .i64 r))] σ (fun v=>v=.bool (soundR r)):=by
  refine enter_p Tryz.func206 rfl rfl (by (repeat' (first | exact trivial | constructor))) fun w=>?_
  (repeat (first | refine cj_seq ?_ | refine cjr TT rfl ?_ | refine oj_then ?_))
  refine oj_split 5 rfl (fun h=>?_) (fun h=>?_)<;>refine oj_run TT rfl ?_
  · refine oj_split 9 rfl (fun h'=>?_) (fun h'=>?_)<;>refine oj_run TT rfl ?_
    · (repeat (first | refine oj_then ?_ | refine cj_ret ?_))
      refine nj_ret TT rfl fun β w' _ _=>?_
      show Value.bool true=_
      rw [soundR,h,h']
      rfl
    · refine oj_split 12 rfl (fun h2=>?_) (fun h2=>?_)<;>(refine oj_run TT rfl ?_)<;>(repeat (first | refine oj_then ?_ | refine cj_ret ?_))
      · refine nj_ret TT rfl fun β w' _ _=>?_
        show Value.bool _=_
        rw [soundR,h,h',h2]
        rfl
      · refine nj_ret TT rfl fun β w' _ _=>?_
        show Value.bool _=_
        rw [soundR,h,h',h2]
        rfl
  · refine oj_split 12 rfl (fun h2=>?_) (fun h2=>?_)<;>(refine oj_run TT rfl ?_)<;>(repeat (first | refine oj_then ?_ | refine cj_ret ?_))
    · refine nj_ret TT rfl fun β w' _ _=>?_
      show Value.bool _=_
      rw [soundR,h,h2]
      rfl
    · refine nj_ret TT rfl fun β w' _ _=>?_
      show Value.bool _=_
      rw [soundR,h,h2]
      rfl
def enc (n:Nat):List UInt8 :=
  if n<128 then [UInt8.ofNat n]
  else if n<2048 then [UInt8.ofNat (192+n / 64),UInt8.ofNat (128+n % 64)]
  else if n<65536 then [UInt8.ofNat (224+n / 4096),UInt8.ofNat (128+n / 64 % 64),UInt8.ofNat (128+n % 64)]
  else [UInt8.ofNat (240+n / 262144),UInt8.ofNat (128+n / 4096 % 64),UInt8.ofNat (128+n / 64 % 64),UInt8.ofNat (128+n % 64)]
theorem enc_len (n:Nat):(enc n).length<=4:=by
  unfold enc
  split
  · exact Nat.le_of_ble_eq_true rfl
  split
  · exact Nat.le_of_ble_eq_true rfl
  split
  · exact Nat.le_of_ble_eq_true rfl
  · exact Nat.le_of_ble_eq_true rfl
theorem w8 (k:Nat):IntKind.u8.wrap (k:Int)=((UInt8.ofNat k).toNat:Int):=by
  have e1:(UInt8.ofNat k).toNat=k % 256:=UInt8.toNat_ofNat'
  rw [e1]
  show (k:Int) % 256=_
  omega
theorem bRows_all (l:List UInt8):∀ r∈bRows l,r.length=1/\∀ c∈r,c.lt 0:=by
  intro r hr
  obtain ⟨x,_,rfl⟩:=List.mem_map.1 hr
  exact ⟨rfl,fun c hc=>by rw [List.mem_singleton.1 hc];trivial⟩
set_option maxRecDepth 100000 in
set_option maxHeartbeats 1000000 in
theorem rbytes_c (σ:Snap) (n:Nat) (hn:n<1114112) :
    PureS Tryz.prog 208 [.a (.v (.int .i64 n))] σ (fun v σ'=>∃ ao cap,v=.slice ao (enc n).length cap/\SlAt σ' ao (enc n).length cap 1 (bRows (enc n))):=by
  have q1:∀ a:Nat,((a:Int)).tdiv 64=((a / 64:Nat):Int):=fun _=>rfl
  have q2:((n:Int)).tdiv 4096=((n / 4096:Nat):Int):=rfl
  have q3:((n:Int)).tdiv 262144=((n / 262144:Nat):Int):=rfl
  have q4:∀ a:Nat,((a:Int)).tmod 64=((a % 64:Nat):Int):=fun _=>rfl
  unfold enc
  refine enter_s Tryz.func208 rfl rfl (by (repeat' (first | exact trivial | constructor))) fun w=>?_
  (repeat (first | refine cj_seq ?_ | refine cjr TT rfl ?_ | refine oj_then ?_ | refine cj_block ?_))
  refine cj_if rfl (fun h=>?_) (fun h=>?_)
  · have h:n<128:=by have:=of_decide_eq_true h;omega
    rw [if_pos h]
    refine cj_seq ?_
    refine cj_region ?_
    refine oj_run TT rfl ?_
    refine oj_conv TT ((UInt8.ofNat n).toNat:Int) rfl rfl rfl rfl rfl rfl rfl rfl (w8 n) (oj_run TT rfl ?_)
    (repeat (first | refine oj_then ?_ | refine cj_ret ?_ | refine nj_then_ret ?_ | refine nj_block_ret ?_))
    refine nj_own 0 1 1 rfl (by (repeat' (first | exact trivial | refine AllLt.of ?_ | constructor))) rfl (by decide) fun g=>?_
    refine nj_seal 0 rfl rfl fun σ' hle hS=>?_
    refine nj_ret TT rfl fun β w' _ _=>?_
    exact ⟨_,_,rfl,hS.sl (rows:=bRows [UInt8.ofNat n]) rfl (bRows_all _) rfl rfl (Nat.le_refl _)⟩
  have h:¬ n<128:=by have:=of_decide_eq_false h;omega
  rw [if_neg h]
  (repeat (first | refine cj_seq ?_ | refine cjr TT rfl ?_ | refine oj_then ?_))
  refine cj_if rfl (fun h2=>?_) (fun h2=>?_)
  · have h2:n<2048:=by have:=of_decide_eq_true h2;omega
    rw [if_pos h2]
    refine cj_seq ?_
    refine cj_region ?_
    refine oj_run TT rfl ?_
    refine oj_quo rfl rfl rfl rfl rfl rfl (by decide) (by rw [q1];omega) ?_
    rw [q1]
    refine oj_run TT rfl ?_
    refine oj_add rfl rfl rfl rfl rfl rfl (by omega) (oj_run TT rfl ?_)
    refine oj_conv TT ((UInt8.ofNat (192+n / 64)).toNat:Int) rfl rfl rfl rfl rfl rfl rfl rfl (w8 _) (oj_run TT rfl ?_)
    refine oj_rem rfl rfl rfl rfl rfl rfl (by decide) ?_
    rw [q4]
    refine oj_run TT rfl ?_
    refine oj_add rfl rfl rfl rfl rfl rfl (by omega) (oj_run TT rfl ?_)
    refine oj_conv TT ((UInt8.ofNat (128+n % 64)).toNat:Int) rfl rfl rfl rfl rfl rfl rfl rfl (w8 _) (oj_run TT rfl ?_)
    (repeat (first | refine oj_then ?_ | refine cj_ret ?_ | refine nj_then_ret ?_ | refine nj_block_ret ?_))
    refine nj_own 0 2 1 rfl (by (repeat' (first | exact trivial | refine AllLt.of ?_ | constructor))) rfl (by decide) fun g=>?_
    refine nj_seal 0 rfl rfl fun σ' hle hS=>?_
    refine nj_ret TT rfl fun β w' _ _=>?_
    exact ⟨_,_,rfl,hS.sl (rows:=bRows [UInt8.ofNat (192+n / 64),UInt8.ofNat (128+n % 64)]) rfl (bRows_all _) rfl rfl (Nat.le_refl _)⟩
  have h2:¬ n<2048:=by have:=of_decide_eq_false h2;omega
  rw [if_neg h2]
  (repeat (first | refine cj_seq ?_ | refine cjr TT rfl ?_ | refine oj_then ?_))
  refine cj_if rfl (fun h3=>?_) (fun h3=>?_)
  · have h3:n<65536:=by have:=of_decide_eq_true h3;omega
    rw [if_pos h3]
    refine cj_seq ?_
    refine cj_region ?_
    refine oj_run TT rfl ?_
    refine oj_quo rfl rfl rfl rfl rfl rfl (by decide) (by rw [q2];omega) ?_
    rw [q2]
    refine oj_run TT rfl ?_
    refine oj_add rfl rfl rfl rfl rfl rfl (by omega) (oj_run TT rfl ?_)
    refine oj_conv TT ((UInt8.ofNat (224+n / 4096)).toNat:Int) rfl rfl rfl rfl rfl rfl rfl rfl (w8 _) (oj_run TT rfl ?_)
    refine oj_quo rfl rfl rfl rfl rfl rfl (by decide) (by rw [q1];omega) ?_
    rw [q1]
    refine oj_run TT rfl ?_
    refine oj_rem rfl rfl rfl rfl rfl rfl (by decide) ?_
    rw [q4]
    refine oj_run TT rfl ?_
    refine oj_add rfl rfl rfl rfl rfl rfl (by omega) (oj_run TT rfl ?_)
    refine oj_conv TT ((UInt8.ofNat (128+n / 64 % 64)).toNat:Int) rfl rfl rfl rfl rfl rfl rfl rfl (w8 _) (oj_run TT rfl ?_)
    refine oj_rem rfl rfl rfl rfl rfl rfl (by decide) ?_
    rw [q4]
    refine oj_run TT rfl ?_
    refine oj_add rfl rfl rfl rfl rfl rfl (by omega) (oj_run TT rfl ?_)
    refine oj_conv TT ((UInt8.ofNat (128+n % 64)).toNat:Int) rfl rfl rfl rfl rfl rfl rfl rfl (w8 _) (oj_run TT rfl ?_)
    (repeat (first | refine oj_then ?_ | refine cj_ret ?_ | refine nj_then_ret ?_ | refine nj_block_ret ?_))
    refine nj_own 0 3 1 rfl (by (repeat' (first | exact trivial | refine AllLt.of ?_ | constructor))) rfl (by decide) fun g=>?_
    refine nj_seal 0 rfl rfl fun σ' hle hS=>?_
    refine nj_ret TT rfl fun β w' _ _=>?_
    exact ⟨_,_,rfl,hS.sl (rows:=bRows [UInt8.ofNat (224+n / 4096),UInt8.ofNat (128+n / 64 % 64),UInt8.ofNat (128+n % 64)]) rfl (bRows_all _) rfl rfl (Nat.le_refl _)⟩
  have h3:¬ n<65536:=by have:=of_decide_eq_false h3;omega
  rw [if_neg h3]
  (repeat (first | refine cj_seq ?_ | refine cjr TT rfl ?_ | refine cj_skip ?_ | refine nj_then ?_ | refine nj_block ?_))
  refine oj_quo rfl rfl rfl rfl rfl rfl (by decide) (by rw [q3];omega) ?_
  rw [q3]
  refine oj_run TT rfl ?_
  refine oj_add rfl rfl rfl rfl rfl rfl (by omega) (oj_run TT rfl ?_)
  refine oj_conv TT ((UInt8.ofNat (240+n / 262144)).toNat:Int) rfl rfl rfl rfl rfl rfl rfl rfl (w8 _) (oj_run TT rfl ?_)
  refine oj_quo rfl rfl rfl rfl rfl rfl (by decide) (by rw [q2];omega) ?_
  rw [q2]
  refine oj_run TT rfl ?_
  refine oj_rem rfl rfl rfl rfl rfl rfl (by decide) ?_
  rw [q4]
  refine oj_run TT rfl ?_
  refine oj_add rfl rfl rfl rfl rfl rfl (by omega) (oj_run TT rfl ?_)
  refine oj_conv TT ((UInt8.ofNat (128+n / 4096 % 64)).toNat:Int) rfl rfl rfl rfl rfl rfl rfl rfl (w8 _) (oj_run TT rfl ?_)
  refine oj_quo rfl rfl rfl rfl rfl rfl (by decide) (by rw [q1];omega) ?_
  rw [q1]
  refine oj_run TT rfl ?_
  refine oj_rem rfl rfl rfl rfl rfl rfl (by decide) ?_
  rw [q4]
  refine oj_run TT rfl ?_
  refine oj_add rfl rfl rfl rfl rfl rfl (by omega) (oj_run TT rfl ?_)
  refine oj_conv TT ((UInt8.ofNat (128+n / 64 % 64)).toNat:Int) rfl rfl rfl rfl rfl rfl rfl rfl (w8 _) (oj_run TT rfl ?_)
  refine oj_rem rfl rfl rfl rfl rfl rfl (by decide) ?_
  rw [q4]
  refine oj_run TT rfl ?_
  refine oj_add rfl rfl rfl rfl rfl rfl (by omega) (oj_run TT rfl ?_)
  refine oj_conv TT ((UInt8.ofNat (128+n % 64)).toNat:Int) rfl rfl rfl rfl rfl rfl rfl rfl (w8 _) (oj_run TT rfl ?_)
  (repeat (first | refine oj_then ?_ | refine cj_ret ?_))
  refine nj_own 0 4 1 rfl (by (repeat' (first | exact trivial | refine AllLt.of ?_ | constructor))) rfl (by decide) fun g=>?_
  refine nj_seal 0 rfl rfl fun σ' hle hS=>?_
  refine nj_ret TT rfl fun β w' _ _=>?_
  exact ⟨_,_,rfl,hS.sl (rows:=bRows [UInt8.ofNat (240+n / 262144),UInt8.ofNat (128+n / 4096 % 64),UInt8.ofNat (128+n / 64 % 64),UInt8.ofNat (128+n % 64)]) rfl (bRows_all _) rfl rfl (Nat.le_refl _)⟩
def begB:List UInt8->List UInt8->Bool
  | _,[]=>true
  | [],_::_=>false
  | x::a,y::b=>decide (x=y)&&begB a b
theorem begB_short:∀ {a b:List UInt8},a.length<b.length->begB a b=false
  | [],[],h=>by simp at h
  | _::_,[],h=>by simp at h
  | [],_::_,_=>rfl
  | x::a,y::b,h=>by rw [begB,begB_short (a:=a) (b:=b) (by simpa using h),Bool.and_false]
set_option maxRecDepth 100000 in
set_option maxHeartbeats 1000000 in
theorem begins_c (σ:Snap) (a b:List UInt8) (ao bo:Option Addr) (ac bc:Nat) (HA:SlAt σ ao a.length ac 1 (bRows a)) (HB:SlAt σ bo b.length bc 1 (bRows b)) (hb:b.length<=mostLen) :
    PlainS Tryz.prog 207 [.a (.v (.slice ao a.length ac)),.a (.v (.slice bo b.length bc))] σ (fun v=>v=.bool (begB a b)):=by
  simp only [mostLen] at hb
  refine enter_p Tryz.func207 rfl rfl (by (repeat' (first | exact trivial | constructor))) fun w=>?_
  (repeat (first | refine cj_seq ?_ | refine cjr TT rfl ?_ | refine oj_then ?_))
  refine cj_if rfl (fun h=>?_) (fun h=>?_)
  · have h:(a.length:Int)<b.length:=of_decide_eq_true h
    rw [begB_short (by omega)]
    (repeat (first | refine cj_seq ?_ | refine cjr TT rfl ?_ | refine oj_then ?_ | refine cj_ret ?_ | refine nj_then_ret ?_))
    refine nj_ret TT rfl fun β w' _ _=>?_
    rfl
  have hle:b.length<=a.length:=by have:=of_decide_eq_false h;omega
  (repeat (first | refine cj_seq ?_ | refine cjr TT rfl ?_ | refine oj_then ?_ | refine cj_skip ?_ | refine cj_block ?_ | refine nj_then ?_))
  refine cj_loop (fun (_:Nat)=>σ) (fun k=>[(0,.a (.v (.slice ao a.length ac))),(1,.a (.v (.slice bo b.length bc))),(5,.a (.v (.int .i64 k)))]) (fun _=>[]) (fun _=>[]) 0
    (fun k=>k<=b.length/\begB (a.drop k) (b.drop k)=begB a b) (fun k=>b.length - k) 0 ⟨Nat.zero_le _,rfl⟩ rfl (by (repeat first | exact trivial | refine ⟨rfl,?_⟩)) (by (repeat first | exact trivial | refine ⟨rfl,?_⟩)) rfl (by (repeat' (first | exact trivial | constructor))) (by (repeat' exact trivial)) fun k ⟨hk,hp⟩=>?_
  (repeat (first | refine cj_seq ?_ | refine cjr TT rfl ?_ | refine oj_then ?_))
  refine cj_if rfl (fun h=>?_) (fun h=>?_)
  rotate_left
  · have hk0:k=b.length:=by have:=of_decide_eq_false h;omega
    subst hk0
    rw [List.drop_length,begB] at hp
    (repeat (first | refine cj_seq ?_ | refine cjr TT rfl ?_ | refine oj_then ?_ | refine cj_exit ?_ | refine cj_ret ?_ | refine nj_then ?_ | refine nj_then_exit ?_ | refine nj_block_out ?_))
    refine nj_ret TT rfl fun β w' _ _=>?_
    rw [<-hp]
    rfl
  have hkb:k<b.length:=by have:=of_decide_eq_true h;omega
  have hka:k<a.length:=by omega
  have hra:=bRows_get (List.getElem?_eq_getElem hka)
  have hrb:=bRows_get (List.getElem?_eq_getElem hkb)
  rw [List.drop_eq_getElem_cons hka,List.drop_eq_getElem_cons hkb,begB] at hp
  generalize a[k]=x at *
  generalize b[k]=y at *
  (repeat (first | refine cj_seq ?_ | refine cj_skip ?_ | refine cj_block ?_ | refine nj_then ?_))
  refine cj_draw [(0,.pure),(1,.pure),(2,.pure),(3,.quiet),(4,.pure),(5,.pure),(6,.pure),(7,.quiet),(8,.pure)] mixed (by kernel_rfl) (oj_run TT rfl ?_)
  refine oj_idx TT rfl rfl rfl rfl rfl rfl rfl rfl rfl HA (by omega) hra (oj_run TT rfl ?_)
  refine oj_idx TT rfl rfl rfl rfl rfl rfl rfl rfl rfl HB (by omega) hrb (oj_run TT rfl ?_)
  (repeat refine oj_then ?_)
  refine cj_if rfl (fun h=>?_) (fun h=>?_)
  · have h:¬ x=y:=by
      have h:(!decide ((x.toNat:Int)=y.toNat))=true:=h
      intro e
      subst e
      simp at h
    rw [decide_eq_false h,Bool.false_and] at hp
    (repeat (first | refine cj_seq ?_ | refine cjr TT rfl ?_ | refine oj_then ?_ | refine cj_ret ?_ | refine nj_then_ret ?_ | refine nj_block_ret ?_))
    refine nj_ret TT rfl fun β w' _ _=>?_
    rw [<-hp]
    rfl
  · have h:x=y:=by
      have h:(!decide ((x.toNat:Int)=y.toNat))=false:=h
      exact UInt8.toNat_inj.1 (by have:(x.toNat:Int)=y.toNat:=by simpa using h
                                  omega)
    rw [decide_eq_true h,Bool.true_and] at hp
    (repeat (first | refine cjr TT rfl ?_ | refine oj_nil ?_ | refine cj_skip ?_ | refine nj_then ?_ | refine nj_block ?_ | (refine oj_add rfl rfl rfl rfl rfl rfl (by omega) ?_;refine oj_run TT rfl ?_)))
    refine nj_again (k+1) ⟨hkb,hp⟩ (by omega) rfl (by (repeat first | exact trivial | refine ⟨rfl,?_⟩)) (by (repeat first | exact trivial | refine ⟨rfl,?_⟩)) rfl (by (repeat' (first | exact trivial | constructor))) (by (repeat' exact trivial))
end Go.Sy
namespace Go.Sy
open Go.Proofs
def rLead (b:Nat):Nat×Nat:=if 240<=b then (b % 8,4) else if 224<=b then (b % 16,3) else if 192<=b then (b % 32,2) else (b,1)
theorem rLead_bd (b:Nat) (h:b<256):(rLead b).1<256/\1<=(rLead b).2/\(rLead b).2<=4:=by
  unfold rLead
  split
  · dsimp only;omega
  split
  · dsimp only;omega
  split
  · dsimp only;omega
  · dsimp only;omega
def rTail:Nat->List UInt8->Nat
  | r,[]=>r
  | r,c::l=>rTail (r*64+c.toNat % 64) l
def rNextAt (l:List UInt8) (L:Nat×Nat):Int×Int :=
  if l.length<L.2 then (0,0)
  else if soundR (rTail L.1 ((l.take L.2).drop 1))=true/\begB l (enc (rTail L.1 ((l.take L.2).drop 1)))=true/\(enc (rTail L.1 ((l.take L.2).drop 1))).length=L.2
  then (IntKind.i32.wrap (rTail L.1 ((l.take L.2).drop 1)),L.2) else (0,0)
def rNext (l:List UInt8):Int×Int :=
  match l with
  | []=>(0,0)
  | u::_=>rNextAt l (rLead u.toNat)
theorem w64 (k:Nat) (h:k<9223372036854775808):IntKind.i64.wrap (k:Int)=k:=by
  unfold IntKind.wrap
  show (if (true&&decide ((k:Int) % 18446744073709551616≥9223372036854775808))=true then _ else (k:Int) % 18446744073709551616)=_
  have e:(k:Int) % 18446744073709551616=k:=by omega
  rw [e,if_neg (by simp;omega)]
set_option maxRecDepth 100000 in
set_option maxHeartbeats 1000000 in
theorem rNext_c (σ:Snap) (ao:Option Addr) (cap:Nat) (l:List UInt8) (H:SlAt σ ao l.length cap 1 (bRows l)) (hl:l.length<=mostLen) :
    PlainS Tryz.prog 147 [.a (.v (.slice ao l.length cap))] σ (fun v=>v=(SV.tup [.a (.v (.int .i32 (rNext l).1)),.a (.v (.int .i64 (rNext l).2))]).den β0):=by
  simp only [mostLen] at hl
  refine enter_p Tryz.func147 rfl rfl (by (repeat' (first | exact trivial | constructor))) fun w=>?_
  (repeat (first | refine cj_seq ?_ | refine cjr TT rfl ?_ | refine oj_then ?_))
  refine cj_if rfl (fun h=>?_) (fun h=>?_)
  · have h:l.length=0:=by have:=of_decide_eq_true h;omega
    rw [List.length_eq_zero_iff.1 h]
    (repeat (first | refine cj_seq ?_ | refine cjr TT rfl ?_ | refine oj_then ?_ | refine cj_ret ?_ | refine nj_then_ret ?_))
    refine nj_ret TT rfl fun β w' _ _=>?_
    rfl
  have h0:0<l.length:=by
    have h:¬ (l.length:Int)=0:=of_decide_eq_false h
    omega
  have hu:l[0]?=some l[0]:=List.getElem?_eq_getElem h0
  have hnx:rNext l=rNextAt l (rLead l[0].toNat):=by
    cases l with
    | nil=>simp at h0
    | cons u l=>rfl
  rw [hnx]
  have hub:l[0].toNat<256:=l[0].toNat_lt
  have hlb:=rLead_bd l[0].toNat hub
  have hld:rLead l[0].toNat=if 240<=l[0].toNat then (l[0].toNat % 8,4) else if 224<=l[0].toNat then (l[0].toNat % 16,3) else if 192<=l[0].toNat then (l[0].toNat % 32,2) else (l[0].toNat,1):=rfl
  have hr0:=bRows_get hu
  generalize l[0]=u at *
  generalize rLead u.toNat=L at *
  clear hnx hu
  (repeat (first | refine cj_seq ?_ | refine cjr TT rfl ?_ | refine cj_skip ?_ | refine nj_then ?_))
  refine oj_idx TT rfl rfl rfl rfl rfl rfl rfl rfl rfl H (by omega) hr0 (oj_run TT rfl ?_)
  refine oj_conv TT ((u.toNat:Nat):Int) rfl rfl rfl rfl rfl rfl rfl rfl (w64 _ (by omega)) (oj_run TT rfl ?_)
  (repeat (first | refine cj_seq ?_ | refine cjr TT rfl ?_ | refine oj_then ?_ | refine cj_block ?_))
  refine cj_cutB (fun (_:Unit)=>σ) (fun _=>[(0,.a (.v (.slice ao l.length cap))),(4,.a (.v (.int .i64 L.1))),(5,.a (.v (.int .i64 L.2)))]) (fun _=>[]) (fun _=>[]) 0 (fun _=>True) ?_ (fun _ _=>?_)
  · refine cj_if rfl (fun h=>?_) (fun h=>?_)
    · have h:240<=u.toNat:=by have:=of_decide_eq_true h;omega
      rw [if_pos h] at hld
      refine cj_seq ?_
      refine cj_region ?_
      refine oj_run TT rfl ?_
      refine oj_rem rfl rfl rfl rfl rfl rfl (by decide) ?_
      refine oj_run TT rfl ?_
      (repeat (first | refine cjr TT rfl ?_ | refine oj_then ?_ | refine oj_nil ?_ | refine nj_block ?_))
      rw [hld]
      refine nj_again () trivial Nat.zero_lt_one rfl (by (repeat first | exact trivial | refine ⟨rfl,?_⟩)) (by (repeat first | exact trivial | refine ⟨rfl,?_⟩)) rfl (by (repeat' (first | exact trivial | constructor))) (by (repeat' exact trivial))
    have h:¬ 240<=u.toNat:=by have:=of_decide_eq_false h;omega
    rw [if_neg h] at hld
    (repeat (first | refine cj_seq ?_ | refine cjr TT rfl ?_ | refine oj_then ?_))
    refine cj_if rfl (fun h2=>?_) (fun h2=>?_)
    · have h2:224<=u.toNat:=by have:=of_decide_eq_true h2;omega
      rw [if_pos h2] at hld
      refine cj_seq ?_
      refine cj_region ?_
      refine oj_run TT rfl ?_
      refine oj_rem rfl rfl rfl rfl rfl rfl (by decide) ?_
      refine oj_run TT rfl ?_
      (repeat (first | refine cjr TT rfl ?_ | refine oj_then ?_ | refine oj_nil ?_ | refine nj_block ?_))
      rw [hld]
      refine nj_again () trivial Nat.zero_lt_one rfl (by (repeat first | exact trivial | refine ⟨rfl,?_⟩)) (by (repeat first | exact trivial | refine ⟨rfl,?_⟩)) rfl (by (repeat' (first | exact trivial | constructor))) (by (repeat' exact trivial))
    have h2:¬ 224<=u.toNat:=by have:=of_decide_eq_false h2;omega
    rw [if_neg h2] at hld
    (repeat (first | refine cj_seq ?_ | refine cjr TT rfl ?_ | refine oj_then ?_))
    refine cj_if rfl (fun h3=>?_) (fun h3=>?_)
    · have h3:192<=u.toNat:=by have:=of_decide_eq_true h3;omega
      rw [if_pos h3] at hld
      refine cj_seq ?_
      refine cj_region ?_
      refine oj_run TT rfl ?_
      refine oj_rem rfl rfl rfl rfl rfl rfl (by decide) ?_
      refine oj_run TT rfl ?_
      (repeat (first | refine cjr TT rfl ?_ | refine oj_then ?_ | refine oj_nil ?_ | refine nj_block ?_))
      rw [hld]
      refine nj_again () trivial Nat.zero_lt_one rfl (by (repeat first | exact trivial | refine ⟨rfl,?_⟩)) (by (repeat first | exact trivial | refine ⟨rfl,?_⟩)) rfl (by (repeat' (first | exact trivial | constructor))) (by (repeat' exact trivial))
    have h3:¬ 192<=u.toNat:=by have:=of_decide_eq_false h3;omega
    rw [if_neg h3] at hld
    (repeat (first | refine cj_skip ?_ | refine nj_block ?_))
    rw [hld]
    refine nj_again () trivial Nat.zero_lt_one rfl (by (repeat first | exact trivial | refine ⟨rfl,?_⟩)) (by (repeat first | exact trivial | refine ⟨rfl,?_⟩)) rfl (by (repeat' (first | exact trivial | constructor))) (by (repeat' exact trivial))
  clear hld hr0 hub
  unfold rNextAt
  obtain ⟨L1,L2⟩:=L
  dsimp only at hlb ⊢
  (repeat (first | refine cj_seq ?_ | refine cjr TT rfl ?_ | refine oj_then ?_))
  refine cj_if rfl (fun h=>?_) (fun h=>?_)
  · have h:l.length<L2:=by have:=of_decide_eq_true h;omega
    rw [if_pos h]
    (repeat (first | refine cj_seq ?_ | refine cjr TT rfl ?_ | refine oj_then ?_ | refine cj_ret ?_ | refine nj_then_ret ?_))
    refine nj_ret TT rfl fun β w' _ _=>?_
    rfl
  have hle:L2<=l.length:=by have:=of_decide_eq_false h;omega
  rw [if_neg (by omega)]
  (repeat (first | refine cj_seq ?_ | refine cjr TT rfl ?_ | refine oj_then ?_ | refine cj_skip ?_ | refine cj_block ?_ | refine nj_then ?_))
  refine cj_loop2 (fun _ _=>σ) (fun (k r:Nat)=>[(0,.a (.v (.slice ao l.length cap))),(4,.a (.v (.int .i64 r))),(5,.a (.v (.int .i64 L2))),(6,.a (.v (.int .i64 k)))]) (fun _ _=>[]) (fun _ _=>[]) 0
    (fun k r=>1<=k/\k<=L2/\r<4*64 ^ k/\rTail r ((l.take L2).drop k)=rTail L1 ((l.take L2).drop 1)) (fun k _=>L2 - k) 1 L1 ⟨Nat.le_refl _,hlb.2.1,by omega,rfl⟩ rfl (by (repeat first | exact trivial | refine ⟨rfl,?_⟩)) (by (repeat first | exact trivial | refine ⟨rfl,?_⟩)) rfl (by (repeat' (first | exact trivial | constructor))) (by (repeat' exact trivial)) fun k r ⟨hk1,hk2,hr,hp⟩=>?_
  have hpw:64 ^ k<=64 ^ 4:=Nat.pow_le_pow_right (by decide) (by omega)
  have hpw':64 ^ (k+1)=64 ^ k*64:=Nat.pow_succ ..
  have hpw4:64 ^ 4=16777216:=by decide
  (repeat (first | refine cj_seq ?_ | refine cjr TT rfl ?_ | refine oj_then ?_))
  refine cj_if rfl (fun h=>?_) (fun h=>?_)
  · have hkl:k<L2:=by have:=of_decide_eq_true h;omega
    have hkt:k<(l.take L2).length:=by rw [List.length_take];omega
    have hkl':k<l.length:=by omega
    have hrow:=bRows_get (List.getElem?_eq_getElem hkl')
    rw [List.drop_eq_getElem_cons hkt,List.getElem_take,rTail] at hp
    generalize l[k]=c at *
    have hc:c.toNat<256:=c.toNat_lt
    have q1:∀ a:Nat,((a:Int)).tmod 64=((a % 64:Nat):Int):=fun _=>rfl
    (repeat (first | refine cj_seq ?_ | refine cjr TT rfl ?_ | refine cj_skip ?_ | refine cj_block ?_ | refine nj_then ?_))
    refine oj_mul rfl rfl rfl rfl rfl rfl (by omega) (oj_run TT rfl ?_)
    refine oj_idx TT rfl rfl rfl rfl rfl rfl rfl rfl rfl H (by omega) hrow (oj_run TT rfl ?_)
    refine oj_conv TT ((c.toNat:Nat):Int) rfl rfl rfl rfl rfl rfl rfl rfl (w64 _ (by omega)) (oj_run TT rfl ?_)
    refine oj_rem rfl rfl rfl rfl rfl rfl (by decide) ?_
    rw [q1]
    refine oj_run TT rfl ?_
    refine oj_add rfl rfl rfl rfl rfl rfl (by omega) (oj_run TT rfl ?_)
    (repeat (first | refine cjr TT rfl ?_ | refine oj_nil ?_ | refine nj_then ?_ | refine nj_block ?_ | (refine oj_add rfl rfl rfl rfl rfl rfl (by omega) ?_;refine oj_run TT rfl ?_)))
    refine nj_again (k+1,r*64+c.toNat % 64) ⟨by dsimp only;omega,hkl,by dsimp only;omega,hp⟩ (by dsimp only;omega) rfl (by (repeat first | exact trivial | refine ⟨rfl,?_⟩)) (by (repeat first | exact trivial | refine ⟨rfl,?_⟩)) rfl (by (repeat' (first | exact trivial | constructor))) (by (repeat' exact trivial))
  have hk:k=L2:=by have:=of_decide_eq_false h;omega
  rw [List.drop_of_length_le (by rw [List.length_take];omega),rTail] at hp
  rw [<-hp]
  (repeat (first | refine cj_seq ?_ | refine cjr TT rfl ?_ | refine cj_exit ?_ | refine nj_then ?_ | refine nj_then_exit ?_ | refine nj_block_out ?_))
  refine oj_callP rfl rfl rfl rfl rfl Tryz.call206 (by (repeat' (first | exact trivial | constructor))) (rvalid_c σ r) fun v hv=>⟨.a (.b (soundR r)),trivial,hv.symm,?_⟩
  refine oj_run TT rfl ?_
  refine oj_split 50 rfl (fun h=>?_) (fun h=>?_)
  · have h:soundR r=false:=by simpa using h
    rw [if_neg (by simp [h])]
    refine oj_run TT rfl ?_
    (repeat (first | refine cj_seq ?_ | refine cjr TT rfl ?_ | refine oj_then ?_ | refine cj_if_t rfl ?_ | refine cj_ret ?_ | refine nj_then_ret ?_))
    refine nj_ret TT rfl fun β w' _ _=>?_
    rfl
  have h:soundR r=true:=by simpa using h
  have hrb:r<1114112:=by
    unfold soundR at h
    simp only [Bool.or_eq_true,Bool.and_eq_true,decide_eq_true_eq] at h
    omega
  refine oj_run TT rfl ?_
  refine oj_callS rfl rfl rfl rfl rfl Tryz.call208 (by (repeat' (first | exact trivial | constructor))) (rbytes_c σ r hrb) fun v σ2 hle2 ⟨ao2,cap2,hv,H2⟩=>⟨.a (.v (.slice ao2 (enc r).length cap2)),trivial,hv.symm,?_⟩
  refine oj_run TT rfl ?_
  refine oj_callP rfl rfl rfl rfl rfl Tryz.call207 (by (repeat' (first | exact trivial | constructor))) (begins_c σ2 l (enc r) ao ao2 cap cap2 (H.mono hle2) H2 (by have:=enc_len r;simp only [mostLen];omega)) fun v hv=>⟨.a (.b (begB l (enc r))),trivial,hv.symm,?_⟩
  refine oj_run TT rfl ?_
  refine oj_split 57 rfl (fun h2=>?_) (fun h2=>?_)
  · have h2:begB l (enc r)=false:=by simpa using h2
    rw [if_neg (by simp [h2])]
    refine oj_run TT rfl ?_
    (repeat (first | refine cj_seq ?_ | refine cjr TT rfl ?_ | refine oj_then ?_ | refine cj_if_t rfl ?_ | refine cj_ret ?_ | refine nj_then_ret ?_))
    refine nj_ret TT rfl fun β w' _ _=>?_
    rfl
  have h2:begB l (enc r)=true:=by simpa using h2
  refine oj_run TT rfl ?_
  refine oj_callS rfl rfl rfl rfl rfl Tryz.call208 (by (repeat' (first | exact trivial | constructor))) (rbytes_c σ2 r hrb) fun v σ3 hle3 ⟨ao3,cap3,hv,H3⟩=>⟨.a (.v (.slice ao3 (enc r).length cap3)),trivial,hv.symm,?_⟩
  refine oj_run TT rfl ?_
  (repeat refine oj_then ?_)
  refine cj_if rfl (fun h3=>?_) (fun h3=>?_)
  · have h3:¬ (enc r).length=L2:=by
      have h3:(!decide (((enc r).length:Int)=L2))=true:=h3
      intro e
      rw [e] at h3
      simp at h3
    rw [if_neg (by simp [h3])]
    (repeat (first | refine cj_seq ?_ | refine cjr TT rfl ?_ | refine oj_then ?_ | refine cj_ret ?_ | refine nj_then_ret ?_))
    refine nj_ret TT rfl fun β w' _ _=>?_
    rfl
  · have h3:(enc r).length=L2:=by
      have h3:(!decide (((enc r).length:Int)=L2))=false:=h3
      have:((enc r).length:Int)=L2:=by simpa using h3
      omega
    rw [if_pos ⟨h,h2,h3⟩]
    (repeat (first | refine cj_seq ?_ | refine cjr TT rfl ?_ | refine oj_then ?_ | refine cj_skip ?_ | refine cj_ret ?_ | refine nj_then ?_ | (refine oj_conv TT _ rfl rfl rfl rfl rfl rfl rfl rfl rfl ?_;refine oj_run TT rfl ?_)))
    refine nj_ret TT rfl fun β w' _ _=>?_
    rfl
end Go.Sy
/- The reference's characters are the program's. No program in sight. -/
namespace Go.Sy
open Go.Proofs
theorem cont_iff:∀ n:Fin 256,(bAnd .u8 (n.val:Int) 192=128↔128<=n.val/\n.val<192)/\bAnd .u8 (n.val:Int) 63=((n.val % 64:Nat):Int):=by decide +kernel
theorem lead_iff:∀ n:Fin 256,(bAnd .u8 (n.val:Int) 128=0↔n.val<128)/\(bAnd .u8 (n.val:Int) 224=192↔192<=n.val/\n.val<224)/\(bAnd .u8 (n.val:Int) 240=224↔224<=n.val/\n.val<240)/\(bAnd .u8 (n.val:Int) 248=240↔240<=n.val/\n.val<248):=by decide +kernel
theorem strip_iff:∀ n:Fin 256,(n.val<128->bAndNot .u8 (n.val:Int) 128=(n.val:Int))/\bAndNot .u8 (n.val:Int) 224=((n.val % 32:Nat):Int)/\bAndNot .u8 (n.val:Int) 240=((n.val % 16:Nat):Int)/\bAndNot .u8 (n.val:Int) 248=((n.val % 8:Nat):Int):=by decide +kernel
theorem eqB (x:UInt8) (k:Nat) (h:k<256):x=UInt8.ofNat k↔x.toNat=k:=by
  have e1:(UInt8.ofNat k).toNat=k % 256:=UInt8.toNat_ofNat'
  rw [<-UInt8.toNat_inj,e1]
  omega
theorem w32 (k:Nat) (h:k<2147483648):IntKind.i32.wrap (k:Int)=k:=by
  unfold IntKind.wrap
  show (if (true&&decide ((k:Int) % 4294967296≥2147483648))=true then _ else (k:Int) % 4294967296)=_
  have e:(k:Int) % 4294967296=k:=by omega
  rw [e,if_neg (by simp;omega)]
theorem bOr6 (r c:Nat) (hr:r<16777216) (hc:c<64):bOr .i32 (bShl .i32 (r:Int) 6) (IntKind.i32.wrap (c:Int))=((r*64+c:Nat):Int):=by
  have e1:bShl .i32 (r:Int) 6=((r*64:Nat):Int):=by
    unfold bShl
    show IntKind.i32.wrap ((r:Int)*64)=_
    exact w32 (r*64) (by omega)
  rw [e1,w32 c (by omega)]
  unfold bOr
  have e2:∀ k:Nat,k<4294967296->(BitVec.ofInt 32 (k:Int)).toNat=k:=by
    intro k hk
    rw [BitVec.toNat_ofInt]
    show ((k:Int) % 4294967296).toNat=k
    omega
  have e3:((BitVec.ofInt 32 ((r*64:Nat):Int)) ||| (BitVec.ofInt 32 (c:Int))).toNat=r*64+c:=by
    rw [BitVec.toNat_or,e2 _ (by omega),e2 _ (by omega)]
    have h:=Nat.shiftLeft_add_eq_or_of_lt (i:=6) (b:=c) (by omega) r
    rw [Nat.shiftLeft_eq] at h
    have h:r*64+c=r*64 ||| c:=h
    rw [<-h]
  show IntKind.i32.wrap (((BitVec.ofInt 32 ((r*64:Nat):Int)) ||| (BitVec.ofInt 32 (c:Int))).toNat:Nat)=_
  rw [e3]
  exact w32 _ (by omega)
theorem utf_cases (u:UInt8) (t:List UInt8):utfNext (u::t)=if u.toNat<128 then nextAt (u::t) 0 u else if (192<=u.toNat/\u.toNat<224)/\1<(u::t).length then nextAt (u::t) 1 u
    else if (224<=u.toNat/\u.toNat<240)/\2<(u::t).length then nextAt (u::t) 2 u else if (240<=u.toNat/\u.toNat<248)/\3<(u::t).length then nextAt (u::t) 3 u else (0,0):=by
  obtain ⟨h0,h1,h2,h3⟩:=lead_iff ⟨u.toNat,u.toNat_lt⟩
  dsimp only at h0 h1 h2 h3
  have A0:((u::t).length<=0\/bAnd .u8 u.toNat (spanAt 0).1≠(spanAt 0).2.1)↔¬ u.toNat<128:=by
    rw [<-h0];simp [spanAt]
  have A1:((u::t).length<=1\/bAnd .u8 u.toNat (spanAt 1).1≠(spanAt 1).2.1)↔¬ ((192<=u.toNat/\u.toNat<224)/\1<(u::t).length):=by
    rw [<-h1]
    show ((u::t).length<=1\/¬ _)↔_
    rw [<-Nat.not_lt,Classical.not_and_iff_not_or_not,Or.comm];rfl
  have A2:((u::t).length<=2\/bAnd .u8 u.toNat (spanAt 2).1≠(spanAt 2).2.1)↔¬ ((224<=u.toNat/\u.toNat<240)/\2<(u::t).length):=by
    rw [<-h2]
    show ((u::t).length<=2\/¬ _)↔_
    rw [<-Nat.not_lt,Classical.not_and_iff_not_or_not,Or.comm];rfl
  have A3:((u::t).length<=3\/bAnd .u8 u.toNat (spanAt 3).1≠(spanAt 3).2.1)↔¬ ((240<=u.toNat/\u.toNat<248)/\3<(u::t).length):=by
    rw [<-h3]
    show ((u::t).length<=3\/¬ _)↔_
    rw [<-Nat.not_lt,Classical.not_and_iff_not_or_not,Or.comm];rfl
  unfold utfNext
  rw [show nextFrom (u::t) 4 0=(if (u::t).length<=0\/bAnd .u8 u.toNat (spanAt 0).1≠(spanAt 0).2.1 then (if (u::t).length<=1\/bAnd .u8 u.toNat (spanAt 1).1≠(spanAt 1).2.1 then
    (if (u::t).length<=2\/bAnd .u8 u.toNat (spanAt 2).1≠(spanAt 2).2.1 then (if (u::t).length<=3\/bAnd .u8 u.toNat (spanAt 3).1≠(spanAt 3).2.1 then (0,0) else nextAt (u::t) 3 u) else nextAt (u::t) 2 u) else nextAt (u::t) 1 u) else nextAt (u::t) 0 u) from rfl]
  simp only [A0,A1,A2,A3,ite_not]
def okB (c:UInt8):Prop:=128<=c.toNat/\c.toNat<192
theorem tailR_eq:∀ (l:List UInt8) (r:Nat),(r+1)*64 ^ l.length<=16777216->((∀ c∈l,okB c)->tailR (r:Int) l=some ((rTail r l:Nat):Int))/\((¬ ∀ c∈l,okB c)->tailR (r:Int) l=none)
  | [],r,_=>⟨fun _=>rfl,fun h=>absurd (fun c hc=>by cases hc) h⟩
  | c::l,r,hb=>by
    obtain ⟨h1,h2⟩:=cont_iff ⟨c.toNat,c.toNat_lt⟩
    dsimp only at h1 h2
    have hp:0<64 ^ l.length:=Nat.pow_pos (by decide)
    have hb1:(r+1)*64*64 ^ l.length<=16777216:=by
      rw [List.length_cons,Nat.pow_succ,Nat.mul_comm (64 ^ l.length) 64,<-Nat.mul_assoc] at hb;exact hb
    have hr:(r+1)*64<=16777216:=Nat.le_trans (Nat.le_mul_of_pos_right _ hp) hb1
    have hcm:c.toNat % 64<64:=Nat.mod_lt _ (by decide)
    have ih:=tailR_eq l (r*64+c.toNat % 64) (Nat.le_trans (Nat.mul_le_mul_right _ (by omega)) hb1)
    have e:=bOr6 r (c.toNat % 64) (by omega) hcm
    rw [tailR,h2,e,rTail]
    by_cases hc:okB c
    · rw [if_pos (h1.2 hc)]
      exact ⟨fun h=>ih.1 fun x hx=>h x (List.mem_cons_of_mem _ hx),fun h=>ih.2 fun hl=>h fun x hx=>by
        rcases List.mem_cons.1 hx with rfl | hx
        · exact hc
        · exact hl x hx⟩
    · rw [if_neg (fun h=>hc (h1.1 h))]
      exact ⟨fun h=>absurd (h c List.mem_cons_self) hc,fun _=>rfl⟩
theorem nextAt_eq (u:UInt8) (t:List UInt8) (k r0:Nat) (hr:(r0+1)*64 ^ k<=16777216) (h0:IntKind.i32.wrap (bAndNot .u8 u.toNat (spanAt k).1)=(r0:Int)) (ht:k<=t.length) :
    ((∀ c∈t.take k,okB c)/\¬ (((rTail r0 (t.take k):Nat):Int)<(spanAt k).2.2)/\soundR (rTail r0 (t.take k))=true->(nextAt (u::t) k u).2=k+1) /\
    (¬ ((∀ c∈t.take k,okB c)/\¬ (((rTail r0 (t.take k):Nat):Int)<(spanAt k).2.2)/\soundR (rTail r0 (t.take k))=true)->(nextAt (u::t) k u).2=0):=by
  have hl:(t.take k).length=k:=by rw [List.length_take];omega
  have hb:(r0+1)*64 ^ (t.take k).length<=16777216:=by
    rw [hl]
    exact hr
  obtain ⟨h1,h2⟩:=tailR_eq (t.take k) r0 hb
  have hs:((u::t).take (k+1)).drop 1=t.take k:=by simp
  unfold nextAt
  rw [hs,h0]
  by_cases h:∀ c∈t.take k,okB c
  · rw [h1 h]
    dsimp only
    constructor
    · intro ⟨_,h3,h4⟩
      rw [if_neg (by simp [h3,h4])]
    · intro h5
      rw [if_pos]
      by_cases h3:((rTail r0 (t.take k):Nat):Int)<(spanAt k).2.2
      · exact .inl h3
      · refine .inr ?_
        by_cases h4:soundR (rTail r0 (t.take k))=true
        · exact absurd ⟨h,h3,h4⟩ h5
        · simpa using h4
  · rw [h2 h]
    exact ⟨fun h3=>absurd h3.1 h,fun _=>rfl⟩
theorem rNextAt_snd (l:List UInt8) (L:Nat×Nat) :
    (L.2<=l.length/\soundR (rTail L.1 ((l.take L.2).drop 1))=true/\begB l (enc (rTail L.1 ((l.take L.2).drop 1)))=true/\(enc (rTail L.1 ((l.take L.2).drop 1))).length=L.2->(rNextAt l L).2=L.2) /\
    (¬ (L.2<=l.length/\soundR (rTail L.1 ((l.take L.2).drop 1))=true/\begB l (enc (rTail L.1 ((l.take L.2).drop 1)))=true/\(enc (rTail L.1 ((l.take L.2).drop 1))).length=L.2)->(rNextAt l L).2=0):=by
  unfold rNextAt
  constructor
  · intro ⟨h1,h2⟩
    rw [if_neg (by omega),if_pos h2]
  · intro h
    by_cases h1:l.length<L.2
    · rw [if_pos h1]
    · rw [if_neg h1,if_neg fun h2=>h ⟨by omega,h2⟩]
theorem begB_nil (t:List UInt8):begB t []=true:=by cases t<;>rfl
theorem enc1 (u c:UInt8) (t:List UInt8) (r:Nat) (hu:192<=u.toNat/\u.toNat<224) (hr:r=(u.toNat % 32)*64+c.toNat % 64) :
    (begB (u::c::t) (enc r)=true/\(enc r).length=2)↔(okB c/\128<=r):=by
  unfold enc okB
  have hc:=c.toNat_lt
  by_cases h:r<128
  · rw [if_pos h]
    simp
    omega
  · rw [if_neg h,if_pos (by omega)]
    simp only [begB,begB_nil,Bool.and_true,Bool.and_eq_true,decide_eq_true_eq,eqB u _ (by omega:192+r / 64<256),eqB c _ (by omega:128+r % 64<256),List.length_cons,List.length_nil,Nat.zero_add,Nat.reduceAdd,and_true]
    omega
theorem enc2 (u c d:UInt8) (t:List UInt8) (r:Nat) (hu:224<=u.toNat/\u.toNat<240) (hr:r=((u.toNat % 16)*64+c.toNat % 64)*64+d.toNat % 64) :
    (begB (u::c::d::t) (enc r)=true/\(enc r).length=3)↔((okB c/\okB d)/\2048<=r):=by
  unfold enc okB
  have hc:=c.toNat_lt
  have hd:=d.toNat_lt
  by_cases h:r<128
  · rw [if_pos h]
    simp
    omega
  by_cases h2:r<2048
  · rw [if_neg h,if_pos h2]
    simp
    omega
  · rw [if_neg h,if_neg h2,if_pos (by omega)]
    simp only [begB,begB_nil,Bool.and_true,Bool.and_eq_true,decide_eq_true_eq,eqB u _ (by omega:224+r / 4096<256),eqB c _ (by omega:128+r / 64 % 64<256),eqB d _ (by omega:128+r % 64<256),List.length_cons,List.length_nil,Nat.zero_add,Nat.reduceAdd,and_true]
    omega
theorem enc3 (u c d e:UInt8) (t:List UInt8) (r:Nat) (hu:240<=u.toNat) (hr:r=(((u.toNat % 8)*64+c.toNat % 64)*64+d.toNat % 64)*64+e.toNat % 64) :
    (begB (u::c::d::e::t) (enc r)=true/\(enc r).length=4)↔((okB c/\okB d/\okB e)/\65536<=r/\u.toNat<248):=by
  unfold enc okB
  have hu2:=u.toNat_lt
  have hc:=c.toNat_lt
  have hd:=d.toNat_lt
  have he:=e.toNat_lt
  by_cases h:r<128
  · rw [if_pos h]
    simp
    omega
  by_cases h2:r<2048
  · rw [if_neg h,if_pos h2]
    simp
    omega
  by_cases h3:r<65536
  · rw [if_neg h,if_neg h2,if_pos h3]
    simp
    omega
  · rw [if_neg h,if_neg h2,if_neg h3]
    simp only [begB,begB_nil,Bool.and_true,Bool.and_eq_true,decide_eq_true_eq,eqB u _ (by omega:240+r / 262144<256),eqB c _ (by omega:128+r / 4096 % 64<256),eqB d _ (by omega:128+r / 64 % 64<256),eqB e _ (by omega:128+r % 64<256),List.length_cons,List.length_nil,Nat.zero_add,Nat.reduceAdd,and_true]
    omega
theorem all1 (c:UInt8):(∀ x∈[c],okB x)↔okB c:=by simp
theorem all2 (c d:UInt8):(∀ x∈[c,d],okB x)↔okB c/\okB d:=by simp
theorem all3 (c d e:UInt8):(∀ x∈[c,d,e],okB x)↔okB c/\okB d/\okB e:=by simp
theorem rnext_eq (l:List UInt8):(rNext l).2=(utfNext l).2:=by
  cases l with
  | nil=>rfl
  | cons u t =>
  show (rNextAt (u::t) (rLead u.toNat)).2=_
  rw [utf_cases]
  have hu:=u.toNat_lt
  obtain ⟨s0,s1,s2,s3⟩:=strip_iff ⟨u.toNat,u.toNat_lt⟩
  dsimp only at s0 s1 s2 s3
  by_cases c0:u.toNat<128
  · rw [if_pos c0]
    have hL:rLead u.toNat=(u.toNat,1):=by unfold rLead;rw [if_neg (by omega),if_neg (by omega),if_neg (by omega)]
    have hs:soundR (u.toNat:Int)=true:=by
      unfold soundR
      rw [decide_eq_true (show (0:Int)<=u.toNat by omega),decide_eq_true (show (u.toNat:Int)<55296 by omega)]
      rfl
    have hE:enc u.toNat=[UInt8.ofNat u.toNat]:=by unfold enc;rw [if_pos c0]
    have hB:begB (u::t) (enc u.toNat)=true:=by
      rw [hE,begB,begB_nil,decide_eq_true ((eqB u _ hu).2 rfl)]
      rfl
    rw [hL,(nextAt_eq u t 0 u.toNat (by show (u.toNat+1)*1<=_;omega) (by show IntKind.i32.wrap (bAndNot .u8 u.toNat 128)=_;rw [s0 c0];exact w32 _ (by omega)) (Nat.zero_le _)).1 ⟨fun c hc=>by simp at hc,by show ¬ ((u.toNat:Int)<0);omega,hs⟩,
      (rNextAt_snd (u::t) (u.toNat,1)).1 ⟨by simp,hs,hB,by show (enc u.toNat).length=1;rw [hE];rfl⟩]
    rfl
  rw [if_neg c0]
  by_cases c1:192<=u.toNat/\u.toNat<224
  · have hL:rLead u.toNat=(u.toNat % 32,2):=by unfold rLead;rw [if_neg (by omega),if_neg (by omega),if_pos (by omega)]
    rw [hL]
    cases t with
    | nil =>
      rw [if_neg (by simp),if_neg (by omega),if_neg (by omega)]
      exact (rNextAt_snd [u] (u.toNat % 32,2)).2 fun h=>by have:=h.1;simp at this
    | cons c t =>
      rw [if_pos ⟨c1,by simp⟩]
      have hn:=nextAt_eq u (c::t) 1 (u.toNat % 32) (by show (u.toNat % 32+1)*64<=_;omega) (by show IntKind.i32.wrap (bAndNot .u8 u.toNat 224)=_;rw [s1];exact w32 _ (by omega)) (by simp)
      have hr:=rNextAt_snd (u::c::t) (u.toNat % 32,2)
      have he:=enc1 u c t (u.toNat % 32*64+c.toNat % 64) c1 rfl
      simp only [List.take_succ_cons,List.take_zero,rTail,all1,List.drop_succ_cons,List.drop_zero,List.length_cons] at hn hr
      rw [show (spanAt 1).2.2=128 from rfl] at hn
      generalize u.toNat % 32*64+c.toNat % 64=r at *
      by_cases H:soundR r=true/\begB (u::c::t) (enc r)=true/\(enc r).length=2
      · rw [hr.1 ⟨by omega,H⟩,hn.1 ⟨(he.1 H.2).1,by have:=(he.1 H.2).2;omega,H.1⟩]
        rfl
      · rw [hr.2 fun h=>H h.2,hn.2 fun h=>H ⟨h.2.2,he.2 ⟨h.1,by omega⟩⟩]
  rw [if_neg fun h=>c1 h.1]
  by_cases c2:224<=u.toNat/\u.toNat<240
  · have hL:rLead u.toNat=(u.toNat % 16,3):=by unfold rLead;rw [if_neg (by omega),if_pos (by omega)]
    rw [hL]
    match t with
    | [] =>
      rw [if_neg (by simp),if_neg (by omega)]
      exact (rNextAt_snd [u] (u.toNat % 16,3)).2 fun h=>by have:=h.1;simp at this
    | [c] =>
      rw [if_neg (by simp),if_neg (by omega)]
      exact (rNextAt_snd [u,c] (u.toNat % 16,3)).2 fun h=>by have:=h.1;simp at this
    | c::d::t =>
      rw [if_pos ⟨c2,by simp⟩]
      have hn:=nextAt_eq u (c::d::t) 2 (u.toNat % 16) (by show (u.toNat % 16+1)*4096<=_;omega) (by show IntKind.i32.wrap (bAndNot .u8 u.toNat 240)=_;rw [s2];exact w32 _ (by omega)) (by simp)
      have hr:=rNextAt_snd (u::c::d::t) (u.toNat % 16,3)
      have he:=enc2 u c d t ((u.toNat % 16*64+c.toNat % 64)*64+d.toNat % 64) c2 rfl
      simp only [List.take_succ_cons,List.take_zero,rTail,all2,List.drop_succ_cons,List.drop_zero,List.length_cons] at hn hr
      rw [show (spanAt 2).2.2=2048 from rfl] at hn
      generalize (u.toNat % 16*64+c.toNat % 64)*64+d.toNat % 64=r at *
      by_cases H:soundR r=true/\begB (u::c::d::t) (enc r)=true/\(enc r).length=3
      · rw [hr.1 ⟨by omega,H⟩,hn.1 ⟨(he.1 H.2).1,by have:=(he.1 H.2).2;omega,H.1⟩]
        rfl
      · rw [hr.2 fun h=>H h.2,hn.2 fun h=>H ⟨h.2.2,he.2 ⟨h.1,by omega⟩⟩]
  rw [if_neg fun h=>c2 h.1]
  by_cases c3:240<=u.toNat
  · have hL:rLead u.toNat=(u.toNat % 8,4):=by unfold rLead;rw [if_pos c3]
    rw [hL]
    match t with
    | [] =>
      rw [if_neg (by simp)]
      exact (rNextAt_snd [u] (u.toNat % 8,4)).2 fun h=>by have:=h.1;simp at this
    | [c] =>
      rw [if_neg (by simp)]
      exact (rNextAt_snd [u,c] (u.toNat % 8,4)).2 fun h=>by have:=h.1;simp at this
    | [c,d] =>
      rw [if_neg (by simp)]
      exact (rNextAt_snd [u,c,d] (u.toNat % 8,4)).2 fun h=>by have:=h.1;simp at this
    | c::d::e::t =>
      have hn:=nextAt_eq u (c::d::e::t) 3 (u.toNat % 8) (by show (u.toNat % 8+1)*262144<=_;omega) (by show IntKind.i32.wrap (bAndNot .u8 u.toNat 248)=_;rw [s3];exact w32 _ (by omega)) (by simp)
      have hr:=rNextAt_snd (u::c::d::e::t) (u.toNat % 8,4)
      have he:=enc3 u c d e t (((u.toNat % 8*64+c.toNat % 64)*64+d.toNat % 64)*64+e.toNat % 64) c3 rfl
      simp only [List.take_succ_cons,List.take_zero,rTail,all3,List.drop_succ_cons,List.drop_zero,List.length_cons] at hn hr
      rw [show (spanAt 3).2.2=65536 from rfl] at hn
      generalize ((u.toNat % 8*64+c.toNat % 64)*64+d.toNat % 64)*64+e.toNat % 64=r at *
      by_cases c4:u.toNat<248
      · rw [if_pos ⟨⟨c3,c4⟩,by simp⟩]
        by_cases H:soundR r=true/\begB (u::c::d::e::t) (enc r)=true/\(enc r).length=4
        · rw [hr.1 ⟨by omega,H⟩,hn.1 ⟨(he.1 H.2).1,by have:=(he.1 H.2).2;omega,H.1⟩]
          rfl
        · rw [hr.2 fun h=>H h.2,hn.2 fun h=>H ⟨h.2.2,he.2 ⟨h.1,by omega,c4⟩⟩]
      · rw [if_neg fun h=>c4 h.1.2]
        exact hr.2 fun h=>c4 (he.1 h.2.2).2.2
  · have hL:rLead u.toNat=(u.toNat,1):=by unfold rLead;rw [if_neg (by omega),if_neg (by omega),if_neg (by omega)]
    rw [hL,if_neg fun h=>c3 h.1.1]
    refine (rNextAt_snd (u::t) (u.toNat,1)).2 fun h=>?_
    have h2:(enc u.toNat).length=1:=h.2.2.2
    unfold enc at h2
    rw [if_neg c0,if_pos (by omega)] at h2
    simp at h2
end Go.Sy
