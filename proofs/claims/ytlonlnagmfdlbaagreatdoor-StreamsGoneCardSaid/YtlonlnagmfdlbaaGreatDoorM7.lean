/- Parts of the proof of CStreamsGone: F7, F8, Vb, F9, F10, Vc, F11, F12, F13. No conditions. -/
import Derived.Test.YtlonlnagmfdlbaaGreatDoorM6
namespace Go.Sy
open Go.Proofs
theorem VAt.monoC {σ σ':Snap} {g:GVal} {la:Option Addr} {lc:Nat} {lrows:List (List AT)} {ma:Option Addr} {mc:Nat} {vrows:List (List AT)} (h:VAt σ g la lc lrows ma mc vrows) (hc:σ.cle σ'):VAt σ' g la lc lrows ma mc vrows :=
  ⟨h.L.monoC hc,RepL.monoC hc h.l,h.kv,h.M.monoC hc,RepL.monoC hc h.v,h.dg,h.s,h.ll,h.kl,h.kk⟩
def hasKey:List ByteArray->ByteArray->Bool
  | [],_=>false
  | x::l,k=>decide (x=k)||hasKey l k
theorem hasKey_iff:∀ {l:List ByteArray} {k:ByteArray},hasKey l k=true↔k∈l
  | [],k=>by simp [hasKey]
  | x::l,k=>by
    simp only [hasKey,Bool.or_eq_true,decide_eq_true_eq,hasKey_iff (l:=l),List.mem_cons]
    exact ⟨fun h=>h.imp Eq.symm id,fun h=>h.imp Eq.symm id⟩
def twiceFrom (met:List ByteArray):List ByteArray->Bool
  | []=>false
  | k::ks=>if hasKey met k then true else twiceFrom (met++[k]) ks
def twiceG (ks:List ByteArray):Bool:=twiceFrom [] ks
def trueMap (l:List ByteArray):List (ByteArray×Value):=l.map fun k=>(k,Value.bool true)
theorem mix_true:∀ (l:List ByteArray) (k:ByteArray) (i:Nat),(mix (trueMap l) k i).map (·.2)=if hasKey l k then some (Value.bool true) else none
  | [],k,i=>by simp [trueMap,mix,hasKey]
  | x::l,k,i=>by
    have ih:=mix_true l k (i+1)
    simp only [trueMap,List.map_cons,mix,hasKey] at ih ⊢
    by_cases h:x=k
    · simp [h]
    · rw [if_neg h,ih]
      simp [h]
theorem mlook_true (l:List ByteArray) (k:ByteArray):mlook (trueMap l) k=if hasKey l k then some (Value.bool true) else none:=mix_true l k 0
theorem mput_true {l:List ByteArray} {k:ByteArray} (h:hasKey l k=false):mput (trueMap l) k (.bool true)=trueMap (l++[k]):=by
  rw [mput_new]
  · simp [trueMap]
  · intro p hp
    obtain ⟨x,hx,rfl⟩:=List.mem_map.1 hp
    intro e
    have e:x=k:=e
    rw [e] at hx
    rw [hasKey_iff.2 hx] at h
    cases h
theorem und193:Tryz.prog.underlying 334=some (.map 9 4):=by kernel_rfl
theorem run_zeroI {P:Program} {t:TypeId} {z:Value} (h:(P.info? t).map (·.zero)=some (some z)) (w:World):(zeroValue t).run P w=.ok z w:=by
  cases hi:P.info? t with
  | none=>rw [hi] at h;cases h
  | some i =>
    rw [hi] at h
    injection h with h
    exact run_zero hi h w
theorem zero4 (w:World):(zeroValue 4).run Tryz.prog w=.ok (.bool false) w:=run_zeroI (by kernel_rfl) w
theorem RepL.rows {σ:Snap}:∀ {gs:List GVal} {rs:List (List AT)},RepL σ gs rs->∀ r∈rs,r.length=8/\(∀ c∈r,c.lt 0)/\r.all AT.one=true
  | [],rs,h,r,hr=>by simp only [RepL] at h;subst h;cases hr
  | g::gs,rs,h,r,hr=>by
    simp only [RepL] at h
    obtain ⟨r0,rs',rfl,h2,h3⟩:=h
    rcases List.mem_cons.1 hr with rfl | hr
    · exact ⟨h2.len,h2.clo,h2.one⟩
    · exact RepL.rows h3 r hr
set_option maxRecDepth 100000 in
set_option maxHeartbeats 1000000 in
theorem twice_c (σ:Snap) (g:GVal) (la:Option Addr) (lc:Nat) (lrows:List (List AT)) (ma:Option Addr) (mc:Nat) (vrows:List (List AT)) (V:VAt σ g la lc lrows ma mc vrows) :
    PlainS Tryz.prog 198 [.a (.v (.slice ma g.ks.length mc))] σ (fun v=>v=.bool (twiceG g.ks)):=by
  have hkl:=V.kl
  simp only [mostLen] at hkl
  refine enter_p Tryz.func198 rfl rfl (by (repeat' (first | exact trivial | constructor))) fun w=>?_
  (repeat (first | refine cj_seq ?_ | refine cjr TT rfl ?_ | refine oj_then ?_))
  refine oj_makeMap Value.string rfl rfl rfl rfl rfl fun b σ1 hb hle hM=>oj_run TT rfl ?_
  (repeat (first | refine cj_seq ?_ | refine cjr TT rfl ?_ | refine oj_then ?_ | refine cj_block ?_))
  refine cj_loop2 (fun (s:Snap) (_:Nat)=>s) (fun _ (k:Nat)=>[(3,.a (.v (.map (some b)))),(7,.a (.v (.slice ma g.ks.length mc))),(8,.a (.v (.int .i64 g.ks.length))),(9,.a (.v (.int .i64 k)))]) (fun _ _=>[]) (fun _ _=>[]) 0
    (fun s k=>k<=g.ks.length/\σ.cle s/\MapAt Value.string s b (trueMap (g.ks.take k))/\twiceFrom (g.ks.take k) (g.ks.drop k)=twiceG g.ks) (fun _ k=>g.ks.length - k) σ1 0 ⟨Nat.zero_le _,hle.cle,hM,rfl⟩ rfl (by (repeat first | exact trivial | refine ⟨rfl,?_⟩)) (by (repeat first | exact trivial | refine ⟨rfl,?_⟩)) rfl (by (repeat' (first | exact trivial | constructor))) (by (repeat' exact trivial)) fun s k ⟨hk,hs,hM,htw⟩=>?_
  (repeat (first | refine cj_seq ?_ | refine cjr TT rfl ?_ | refine oj_then ?_))
  refine cj_if rfl (fun h=>?_) (fun h=>?_)
  · have hkl':k<g.ks.length:=by simpa using h
    have V:=V.monoC hs
    obtain ⟨r,hr1,hr2⟩:=V.v.get (List.getElem?_eq_getElem (l:=g.vs) (i:=k) (by have:=V.kv;omega))
    have hrow:=keyRows_get (List.getElem?_eq_getElem hkl') hr1
    obtain ⟨la',lc',lrows',ma',mc',vrows',rfl,V'⟩:=hr2.open
    rw [List.drop_eq_getElem_cons hkl',twiceFrom] at htw
    (repeat (first | refine cj_seq ?_ | refine cjr TT rfl ?_ | refine cj_skip ?_ | refine cj_block ?_ | refine nj_then ?_))
    refine oj_idx TT rfl rfl rfl rfl rfl rfl rfl rfl rfl V.M (by omega) hrow (oj_run TT rfl ?_)
    (repeat (first | refine cj_seq ?_ | refine cjr TT rfl ?_ | refine oj_then ?_))
    refine oj_lookup (y:=.a (.b (hasKey (g.ks.take k) g.ks[k]))) (kk:=g.ks[k]) (z:=.bool false) (string_key rfl) und193 und9 zero4 rfl rfl rfl rfl rfl rfl ⟨_,rfl,fun _=>rfl⟩ hM trivial ?_ (oj_run TT rfl ?_)
    · rw [mlook_true]
      cases hasKey (g.ks.take k) g.ks[k]<;>rfl
    (repeat refine oj_then ?_)
    refine cj_if rfl (fun h=>?_) (fun h=>?_)
    · (repeat (first | refine cj_seq ?_ | refine cjr TT rfl ?_ | refine oj_then ?_ | refine cj_ret ?_ | refine nj_then_ret ?_ | refine nj_block_ret ?_))
      refine nj_ret TT rfl fun β w' _ _=>?_
      rw [if_pos h] at htw
      rw [<-htw]
      rfl
    · have hm:hasKey (g.ks.take k) g.ks[k]=false:=h
      rw [if_neg (by simp [hm])] at htw
      (repeat (first | refine cjr TT rfl ?_ | refine cj_skip ?_ | refine nj_then ?_))
      refine oj_mapUpdate (kk:=g.ks[k]) (vv:=.bool true) (string_key rfl) und193 und9 rfl rfl rfl rfl rfl ⟨_,rfl,fun _=>rfl⟩ ⟨_,rfl,fun _=>rfl⟩ hM (Snap.none_of_le (Snap.le_refl _) hb) fun s' hs' _ hM'=>oj_run TT rfl ?_
      (repeat (first | refine cjr TT rfl ?_ | refine oj_nil ?_ | refine nj_then ?_ | refine nj_block ?_ | (refine oj_add rfl rfl rfl rfl rfl rfl (by omega) ?_;refine oj_run TT rfl ?_)))
      rw [mput_true hm] at hM'
      refine nj_again (s',k+1) ⟨hkl',Snap.cle_trans hs hs',?_,?_⟩ (by dsimp only;omega) rfl (by (repeat first | exact trivial | refine ⟨rfl,?_⟩)) (by (repeat first | exact trivial | refine ⟨rfl,?_⟩)) rfl (by (repeat' (first | exact trivial | constructor))) (by (repeat' exact trivial))
      · rw [List.take_succ_eq_append_getElem hkl'];exact hM'
      · rw [List.take_succ_eq_append_getElem hkl'];exact htw
  · have hk0:k=g.ks.length:=by simp at h;omega
    subst hk0
    rw [List.drop_length] at htw
    (repeat (first | refine cj_seq ?_ | refine cjr TT rfl ?_ | refine oj_then ?_ | refine cj_exit ?_ | refine cj_ret ?_ | refine nj_then ?_ | refine nj_then_exit ?_ | refine nj_block_out ?_))
    refine nj_ret TT rfl fun β w' _ _=>?_
    rw [<-htw]
    rfl
set_option maxRecDepth 100000 in
set_option maxHeartbeats 1000000 in
theorem cloneV_c (σ:Snap) (ao:Option Addr) (n cap:Nat) (rows:List (List AT)) (H:SlAt σ ao n cap 8 rows) (hn:n<=1000000) (hone:∀ r∈rows,r.all AT.one=true) :
    FnS Tryz.prog 178 [.a (.v (.slice ao n cap))] σ [] (fun v _ A'=>∃ ao' cap',v=.slice ao' n cap'/\n<=cap'/\A'=[⟨ao',n,cap',28,8,rows.flatten.map AT.val⟩]):=by
  refine enter_f Tryz.func178 rfl rfl (by (repeat' (first | exact trivial | constructor))) fun w=>?_
  (repeat (first | refine cj_seq ?_ | refine cjr TT rfl ?_ | refine oj_then ?_ | (refine oj_slnil TT rfl rfl rfl rfl rfl rfl rfl rfl ?_;refine oj_run TT rfl ?_)))
  refine cj_if rfl (fun h=>?_) (fun h=>?_)
  · have h0:ao=none:=by simpa using h
    have hn0:n=0:=by
      rcases H.at_ with h1 | ⟨ad,h1,_⟩
      · exact h1
      · rw [h0] at h1;cases h1
    subst hn0
    have hr:rows=[]:=by have:=H.len;exact List.eq_nil_of_length_eq_zero this
    subst hr
    (repeat (first | refine cj_seq ?_ | refine cjr TT rfl ?_ | refine oj_then ?_ | refine cj_ret ?_ | refine nj_then_ret ?_))
    refine nj_nilarr 28 8 ?_
    refine nj_fret TT rfl fun β w' _ _=>?_
    exact ⟨none,0,rfl,Nat.le_refl _,rfl⟩
  (repeat (first | refine cj_seq ?_ | refine cjr TT rfl ?_ | refine cj_skip ?_ | refine nj_then ?_))
  refine oj_own 0 0 8 rfl (by (repeat' (first | exact trivial | refine AllLt.of ?_))) rfl (by decide) fun gb=>?_
  refine oj_append_sl TT 0 rfl rfl rfl rfl rfl rfl rfl H rfl rfl rfl rfl rfl rfl rfl rfl rfl hone (by omega) (by show (0+n)*112<=_;omega) fun ao' cap' hcap'=>oj_run TT rfl ?_
  (repeat (first | refine oj_then ?_ | refine cj_ret ?_))
  refine nj_fret TT rfl fun β w' _ _=>?_
  refine ⟨ao',cap',by show Value.slice ao' (0+n) cap'=_;rw [Nat.zero_add],by omega,?_⟩
  show [_]=[_]
  rw [Nat.zero_add]
  rfl
set_option maxRecDepth 100000 in
set_option maxHeartbeats 1000000 in
theorem inside_c (σ:Snap) (g:GVal) (la:Option Addr) (lc:Nat) (lrows:List (List AT)) (ma:Option Addr) (mc:Nat) (vrows:List (List AT)) (V:VAt σ g la lc lrows ma mc vrows) (hn:g.l.length+g.ks.length<=1000000) :
    PureS Tryz.prog 115 [.agg (vCells g la lc ma mc)] σ (fun v σ'=>∃ ao cap,v=.slice ao (g.l.length+g.ks.length) cap/\SlAt σ' ao (g.l.length+g.ks.length) cap 8 (lrows++vrows)):=by
  have hll:=V.l.len
  have hvl:=V.vlen
  refine enter_s Tryz.func115 rfl rfl (by (repeat' (first | exact trivial | exact vCells_lt _ _ _ _ _ _ | constructor))) fun w=>?_
  (repeat (first | refine cj_seq ?_ | refine cjr TT rfl ?_ | refine oj_then ?_))
  refine oj_callF [] (A0:=[]) (Ar:=[]) rfl rfl rfl rfl rfl rfl rfl Tryz.call178 (by (repeat' (first | exact trivial | constructor))) (cloneV_c σ la g.l.length lc lrows V.L (by omega) fun r hr=>(V.l.rows r hr).2.2) fun v σ1 A1 hle ⟨ao,cap,hv,hcap,hA⟩=>⟨.a (.v (.slice ao g.l.length cap)),trivial,hv.symm,?_⟩
  subst hA
  have V:=V.monoC hle.cle
  refine oj_run TT rfl ?_
  (repeat (first | refine cj_seq ?_ | refine cjr TT rfl ?_ | refine oj_then ?_ | refine cj_block ?_))
  refine cj_loop2 (fun _ _=>σ1) (fun (k:Nat) (p:Option Addr×Nat)=>[(3,.a (.v (.slice p.1 (g.l.length+k) p.2))),(10,.a (.v (.slice ma g.ks.length mc))),(11,.a (.v (.int .i64 g.ks.length))),(12,.a (.v (.int .i64 k)))]) (fun _ _=>[])
    (fun k p=>[⟨p.1,g.l.length+k,p.2,28,8,(lrows++vrows.take k).flatten.map AT.val⟩]) 0
    (fun k p=>k<=g.ks.length/\g.l.length+k<=p.2) (fun k _=>g.ks.length - k) 0 (ao,cap) ⟨Nat.zero_le _,hcap⟩ rfl (by (repeat first | exact trivial | refine ⟨rfl,?_⟩)) (by (repeat first | exact trivial | refine ⟨rfl,?_⟩)) (by simp) (by (repeat' (first | exact trivial | constructor))) (by (repeat' exact trivial)) fun k p ⟨hk,hkc⟩=>?_
  (repeat (first | refine cj_seq ?_ | refine cjr TT rfl ?_ | refine oj_then ?_))
  refine cj_if rfl (fun h=>?_) (fun h=>?_)
  · have hkl':k<g.ks.length:=by simpa using h
    obtain ⟨r,hr1,hr2⟩:=V.v.get (List.getElem?_eq_getElem (l:=g.vs) (i:=k) (by have:=V.kv;omega))
    have hrow:=keyRows_get (List.getElem?_eq_getElem hkl') hr1
    obtain ⟨la',lc',lrows',ma',mc',vrows',rfl,V'⟩:=hr2.open
    (repeat (first | refine cj_seq ?_ | refine cjr TT rfl ?_ | refine cj_skip ?_ | refine cj_block ?_ | refine nj_then ?_))
    refine oj_idx TT rfl rfl rfl rfl rfl rfl rfl rfl rfl V.M (by omega) hrow (oj_run TT rfl ?_)
    (repeat (first | refine cjr TT rfl ?_ | refine oj_then ?_))
    refine oj_append_lit TT 0 rfl rfl rfl rfl rfl rfl rfl rfl rfl rfl rfl rfl rfl rfl rfl rfl rfl rfl (by (repeat' exact vCells_lt _ _ _ _ _ _)) rfl (by omega) (by show (g.l.length+k+1)*112<=_;omega) fun ao' cap' hcap'=>oj_run TT rfl ?_
    (repeat (first | refine cjr TT rfl ?_ | refine oj_nil ?_ | refine nj_then ?_ | refine nj_block ?_ | (refine oj_add rfl rfl rfl rfl rfl rfl (by omega) ?_;refine oj_run TT rfl ?_)))
    refine nj_again (k+1,ao',cap') ⟨hkl',hcap'⟩ (by dsimp only;omega) rfl (by (repeat first | exact trivial | refine ⟨rfl,?_⟩)) (by (repeat first | exact trivial | refine ⟨rfl,?_⟩)) ?_ (by (repeat' (first | exact trivial | constructor))) (by (repeat' exact trivial))
    show [_]=[_]
    have e:vrows.take (k+1)=vrows.take k++[vCells (g.vs[k]'(by have:=V.kv;omega)) la' lc' ma' mc']:=by
      rw [List.take_succ_eq_append_getElem (by omega)]
      congr 2
      exact (List.getElem?_eq_some_iff.1 hr1).2
    rw [e]
    simp only [List.flatten_append,List.map_append,List.flatten_cons,List.flatten_nil,List.append_nil,List.append_assoc]
    rfl
  · have hk0:k=g.ks.length:=by simp at h;omega
    subst hk0
    (repeat (first | refine cj_seq ?_ | refine cjr TT rfl ?_ | refine oj_then ?_ | refine cj_exit ?_ | refine cj_ret ?_ | refine nj_then ?_ | refine nj_then_exit ?_ | refine nj_block_out ?_))
    refine nj_seal 0 rfl rfl fun σ' hle' hS=>?_
    refine nj_ret TT rfl fun β w' _ _=>?_
    refine ⟨p.1,p.2,rfl,?_⟩
    refine hS.sl (rows:=lrows++vrows) ?_ (fun r hr=>?_) (by rw [List.length_append];omega) rfl hkc
    · rw [<-hvl,List.take_length]
    · rcases List.mem_append.1 hr with hr | hr
      · exact ⟨(V.l.rows r hr).1,(V.l.rows r hr).2.1⟩
      · exact ⟨(V.v.rows r hr).1,(V.v.rows r hr).2.1⟩
end Go.Sy
namespace Go.Sy
open Go.Proofs
mutual
def saneG:GVal->Int->Int->Int×Int
  | .mk k b n s l ks vs,deep,c =>
    if fieldsG (.mk k b n s l ks vs)=false then (1,c+1)
    else if twiceG ks=true then (7,c+1)
    else if 4<=k/\64<=deep then (3,c+1)
    else if 4096<c+1 then (4,c+1)
    else if (saneL l deep (c+1)).1≠0 then saneL l deep (c+1) else saneL vs deep (saneL l deep (c+1)).2
def saneL:List GVal->Int->Int->Int×Int
  | [],_,c=>(0,c)
  | g::gs,deep,c=>if (saneG g (deep+1) c).1≠0 then saneG g (deep+1) c else saneL gs deep (saneG g (deep+1) c).2
end
theorem saneL_append:∀ (a b:List GVal) (deep c:Int),saneL (a++b) deep c=if (saneL a deep c).1≠0 then saneL a deep c else saneL b deep (saneL a deep c).2
  | [],b,deep,c=>by simp [saneL]
  | g::a,b,deep,c=>by
    simp only [List.cons_append,saneL]
    by_cases h:(saneG g (deep+1) c).1≠0
    · simp only [if_pos h]
    · simp only [if_neg h,saneL_append a b]
theorem saneG_eq (g:GVal) (deep c:Int):saneG g deep c=if fieldsG g=false then (1,c+1) else if twiceG g.ks=true then (7,c+1) else if 4<=g.kind/\64<=deep then (3,c+1)
    else if 4096<c+1 then (4,c+1) else saneL (g.l++g.vs) deep (c+1):=by
  cases g
  simp only [saneG,GVal.kind,GVal.ks,GVal.l,GVal.vs,saneL_append]
mutual
theorem saneG_bd:∀ (g:GVal) (deep c:Int),c<=4096->c<=(saneG g deep c).2/\(saneG g deep c).2<=4097/\((saneG g deep c).1=0->(saneG g deep c).2<=4096)
  | .mk k b n s l ks vs,deep,c,hc=>by
    simp only [saneG]
    split
    · simp;omega
    split
    · simp;omega
    split
    · simp;omega
    split
    · simp;omega
    have h1:=saneL_bd l deep (c+1) (by omega)
    split
    · rename_i h;exact ⟨by omega,h1.2.1,fun h0=>absurd h0 h⟩
    · rename_i h
      have h0:(saneL l deep (c+1)).1=0:=by omega
      have h2:=saneL_bd vs deep (saneL l deep (c+1)).2 (h1.2.2 h0)
      exact ⟨by omega,h2.2.1,h2.2.2⟩
theorem saneL_bd:∀ (gs:List GVal) (deep c:Int),c<=4096->c<=(saneL gs deep c).2/\(saneL gs deep c).2<=4097/\((saneL gs deep c).1=0->(saneL gs deep c).2<=4096)
  | [],deep,c,hc=>by simp [saneL];omega
  | g::gs,deep,c,hc=>by
    simp only [saneL]
    have h1:=saneG_bd g (deep+1) c hc
    split
    · rename_i h;exact ⟨h1.1,h1.2.1,fun h0=>absurd h0 h⟩
    · rename_i h
      have h0:(saneG g (deep+1) c).1=0:=by omega
      have h2:=saneL_bd gs deep (saneG g (deep+1) c).2 (h1.2.2 h0)
      exact ⟨by omega,h2.2.1,h2.2.2⟩
end
def cE (gc:Nat) (c:Int):AE:=⟨some ⟨gc,0,none⟩,1,1,241,1,[.int .i64 c]⟩
theorem in_len (g:GVal):g.l.length+g.vs.length<=g.weight:=by
  have:=g.weight_eq
  have:=weights_len g.l
  have:=weights_len g.vs
  omega
theorem in_weight {g x:GVal} (h:x∈g.l++g.vs):x.weight<g.weight:=by
  rcases List.mem_append.1 h with h | h
  · exact weight_l h
  · exact weight_v h
set_option maxRecDepth 100000 in
set_option maxHeartbeats 1000000 in
theorem sane_c (g:GVal):∀ (σ:Snap) (r:List AT) (deep c:Int) (gc:Nat),RepV σ g r->0<=deep->deep+g.weight<=1099511627776->g.weight<=1000000->0<=c->c<=4096 ->
    FnS Tryz.prog 138 [.a (.v (.pointer (some ⟨gc,0,none⟩))),.agg r,.a (.v (.int .i64 deep))] σ [cE gc c] (fun v _ A'=>v=.int .i64 (saneG g deep c).1/\A'=[cE gc (saneG g deep c).2]):=by
  induction g using GVal.byWeight with | _ g ih=>?_
  intro σ r deep c gc hr hd1 hd2 hw hc1 hc2
  obtain ⟨la,lc,lrows,ma,mc,vrows,rfl,V⟩:=hr.open
  have hil:=in_len g
  have hkv:=V.kv
  have hbd:=saneG_eq g deep c
  refine enter_f Tryz.func138 rfl rfl (by (repeat' (first | exact trivial | exact vCells_lt _ _ _ _ _ _ | constructor))) fun w=>?_
  (repeat (first | refine cj_seq ?_ | refine cjr TT rfl ?_ | refine oj_then ?_))
  refine oj_ldA 0 (c:=.v (.int .i64 c)) TT rfl rfl rfl rfl rfl rfl rfl rfl rfl rfl rfl trivial (oj_run TT rfl ?_)
  (repeat (refine oj_add rfl rfl rfl rfl rfl rfl (by omega) ?_;refine oj_run TT rfl ?_))
  refine oj_stA 0 (A':=[cE gc (c+1)]) TT rfl rfl rfl rfl rfl rfl rfl rfl rfl rfl Nat.zero_lt_one trivial rfl rfl (oj_run TT rfl ?_)
  (repeat (first | refine cj_seq ?_ | refine cjr TT rfl ?_ | refine oj_then ?_ | refine cj_block ?_))
  refine oj_callP rfl rfl rfl rfl rfl Tryz.call197 (by (repeat' (first | exact trivial | exact vCells_lt _ _ _ _ _ _ | constructor))) (fields_c σ g _ hr) fun v hv=>⟨.a (.b (fieldsG g)),trivial,hv.symm,?_⟩
  refine oj_run TT rfl ?_
  (repeat refine oj_then ?_)
  refine cj_if rfl (fun h=>?_) (fun h=>?_)
  · have h:fieldsG g=false:=by simpa using h
    rw [if_pos h] at hbd
    (repeat (first | refine cj_seq ?_ | refine cjr TT rfl ?_ | refine oj_then ?_ | refine cj_ret ?_ | refine nj_then_ret ?_ | refine nj_block_ret ?_))
    refine nj_fret TT rfl fun β w' _ _=>?_
    rw [hbd]
    exact ⟨rfl,rfl⟩
  have h:fieldsG g=true:=by simpa using h
  rw [if_neg (by simp [h])] at hbd
  (repeat (first | refine cj_seq ?_ | refine cjr TT rfl ?_))
  refine oj_callP rfl rfl rfl rfl rfl Tryz.call198 (by (repeat' (first | exact trivial | constructor))) (twice_c σ g la lc lrows ma mc vrows V) fun v hv=>⟨.a (.b (twiceG g.ks)),trivial,hv.symm,?_⟩
  refine oj_run TT rfl ?_
  (repeat refine oj_then ?_)
  refine cj_if rfl (fun h=>?_) (fun h=>?_)
  · rw [if_pos h] at hbd
    (repeat (first | refine cj_seq ?_ | refine cjr TT rfl ?_ | refine oj_then ?_ | refine cj_ret ?_ | refine nj_then_ret ?_ | refine nj_block_ret ?_))
    refine nj_fret TT rfl fun β w' _ _=>?_
    rw [hbd]
    exact ⟨rfl,rfl⟩
  rw [if_neg (by simp [h])] at hbd
  refine cj_cutB (α:=Unit) (fun _=>σ) (fun _=>[(0,.a (.v (.pointer (some ⟨gc,0,none⟩)))),(2,.a (.v (.int .i64 deep))),(4,.a (.p 0 0))]) (fun _=>[(0,.loc 28,vCells g la lc ma mc)]) (fun _=>[cE gc (c+1)]) 1
    (fun _=>¬ (4<=g.kind/\64<=deep)/\¬ 4096<c+1) ?_ (fun _ ⟨hx1,hx2⟩=>?_)
  · have tail:∀ {env:Env} {hp:HP} {nh:Nat} {Q:Exit->Act->World->Prop},True->True:=fun _=>trivial
    (repeat (first | refine cj_seq ?_ | refine cjr TT rfl ?_))
    refine oj_split 29 rfl (fun h=>?_) (fun h=>?_)
    · have h4:4<=g.kind:=of_decide_eq_true h
      refine oj_run TT rfl ?_
      (repeat refine oj_then ?_)
      refine cj_if rfl (fun h=>?_) (fun h=>?_)
      · have h64:64<=deep:=of_decide_eq_true h
        rw [if_pos ⟨h4,h64⟩] at hbd
        (repeat (first | refine cj_seq ?_ | refine cjr TT rfl ?_ | refine oj_then ?_ | refine cj_ret ?_ | refine nj_then_ret ?_ | refine nj_block_ret ?_))
        refine nj_fret TT rfl fun β w' _ _=>?_
        rw [hbd]
        exact ⟨rfl,rfl⟩
      have h64:¬ 64<=deep:=of_decide_eq_false h
      have hn:¬ (4<=g.kind/\64<=deep):=fun h=>h64 h.2
      rw [if_neg hn] at hbd
      (repeat (first | refine cj_seq ?_ | refine cjr TT rfl ?_))
      refine oj_ldA 0 (c:=.v (.int .i64 (c+1))) TT rfl rfl rfl rfl rfl rfl rfl rfl rfl rfl rfl trivial (oj_run TT rfl ?_)
      (repeat refine oj_then ?_)
      refine cj_if rfl (fun h=>?_) (fun h=>?_)
      · have h:4096<c+1:=of_decide_eq_true h
        rw [if_pos h] at hbd
        (repeat (first | refine cj_seq ?_ | refine cjr TT rfl ?_ | refine oj_then ?_ | refine cj_ret ?_ | refine nj_then_ret ?_ | refine nj_block_ret ?_))
        refine nj_fret TT rfl fun β w' _ _=>?_
        rw [hbd]
        exact ⟨rfl,rfl⟩
      have h:¬ 4096<c+1:=of_decide_eq_false h
      (repeat (first | refine cj_skip ?_ | refine nj_block ?_))
      refine nj_again () ⟨hn,h⟩ Nat.zero_lt_one rfl (by (repeat first | exact trivial | refine ⟨rfl,?_⟩)) (by (repeat first | exact trivial | refine ⟨rfl,?_⟩)) rfl (by (repeat' (first | exact trivial | exact Nat.le_of_ble_eq_true rfl | constructor))) (by (repeat' (first | exact trivial | exact Nat.le_of_ble_eq_true rfl | exact vCells_lt _ _ _ _ _ _ | constructor)))
    · have h4:¬ 4<=g.kind:=of_decide_eq_false h
      have hn:¬ (4<=g.kind/\64<=deep):=fun h=>h4 h.1
      rw [if_neg hn] at hbd
      refine oj_run TT rfl ?_
      (repeat (first | refine cj_seq ?_ | refine cjr TT rfl ?_ | refine oj_then ?_ | refine cj_if_f rfl ?_))
      refine oj_ldA 0 (c:=.v (.int .i64 (c+1))) TT rfl rfl rfl rfl rfl rfl rfl rfl rfl rfl rfl trivial (oj_run TT rfl ?_)
      (repeat refine oj_then ?_)
      refine cj_if rfl (fun h=>?_) (fun h=>?_)
      · have h:4096<c+1:=of_decide_eq_true h
        rw [if_pos h] at hbd
        (repeat (first | refine cj_seq ?_ | refine cjr TT rfl ?_ | refine oj_then ?_ | refine cj_ret ?_ | refine nj_then_ret ?_ | refine nj_block_ret ?_))
        refine nj_fret TT rfl fun β w' _ _=>?_
        rw [hbd]
        exact ⟨rfl,rfl⟩
      have h:¬ 4096<c+1:=of_decide_eq_false h
      (repeat (first | refine cj_skip ?_ | refine nj_block ?_))
      refine nj_again () ⟨hn,h⟩ Nat.zero_lt_one rfl (by (repeat first | exact trivial | refine ⟨rfl,?_⟩)) (by (repeat first | exact trivial | refine ⟨rfl,?_⟩)) rfl (by (repeat' (first | exact trivial | exact Nat.le_of_ble_eq_true rfl | constructor))) (by (repeat' (first | exact trivial | exact Nat.le_of_ble_eq_true rfl | exact vCells_lt _ _ _ _ _ _ | constructor)))
  rw [if_neg hx1,if_neg hx2] at hbd
  (repeat (first | refine cj_seq ?_ | refine cjr TT rfl ?_))
  refine oj_callS rfl rfl rfl rfl rfl Tryz.call115 (by (repeat' (first | exact trivial | exact vCells_lt _ _ _ _ _ _ | constructor))) (inside_c σ g la lc lrows ma mc vrows V (by omega)) fun v σ' hle ⟨ao,cap,hv,H⟩=>⟨.a (.v (.slice ao (g.l.length+g.ks.length) cap)),trivial,hv.symm,?_⟩
  have R:RepL σ' (g.l++g.vs) (lrows++vrows):=RepL.append (V.l.mono hle) (V.v.mono hle)
  have hlen:(g.l++g.vs).length=g.l.length+g.ks.length:=by rw [List.length_append,hkv]
  refine oj_run TT rfl ?_
  (repeat (first | refine oj_then ?_ | refine cj_block ?_))
  refine cj_loop2 (fun (s:Snap) (_:Nat×Int)=>s) (fun _ p=>[(0,.a (.v (.pointer (some ⟨gc,0,none⟩)))),(2,.a (.v (.int .i64 deep))),(40,.a (.v (.slice ao (g.l.length+g.ks.length) cap))),(41,.a (.v (.int .i64 (g.l.length+g.ks.length:Nat)))),(42,.a (.v (.int .i64 p.1)))])
    (fun _ _=>[]) (fun _ p=>[cE gc p.2]) 0
    (fun s p=>p.1<=g.l.length+g.ks.length/\σ'.le s/\0<=p.2/\p.2<=4096/\saneL ((g.l++g.vs).drop p.1) deep p.2=saneG g deep c) (fun _ p=>g.l.length+g.ks.length - p.1) σ' (0,c+1)
    ⟨Nat.zero_le _,Snap.le_refl _,by dsimp only;omega,by dsimp only;omega,hbd.symm⟩ rfl (by (repeat first | exact trivial | refine ⟨rfl,?_⟩)) (by (repeat first | exact trivial | refine ⟨rfl,?_⟩)) rfl (by (repeat' (first | exact trivial | constructor))) (by (repeat' exact trivial)) fun s ⟨k,c'⟩ ⟨hk,hs,hc1',hc2',hbd'⟩=>?_
  dsimp only at hk hc1' hc2' hbd' ⊢
  (repeat (first | refine cj_seq ?_ | refine cjr TT rfl ?_ | refine oj_then ?_))
  refine cj_if rfl (fun h=>?_) (fun h=>?_)
  · have hkl:k<g.l.length+g.ks.length:=by have:=of_decide_eq_true h;omega
    have hkl':k<(g.l++g.vs).length:=by omega
    obtain ⟨r,hr1,hr2⟩:=(R.mono hs).get (List.getElem?_eq_getElem hkl')
    obtain ⟨la',lc',lrows',ma',mc',vrows',rfl,V'⟩:=hr2.open
    have hwx:=in_weight (List.getElem_mem hkl')
    have hb:=saneG_bd (g.l++g.vs)[k] (deep+1) c' hc2'
    rw [List.drop_eq_getElem_cons hkl',saneL] at hbd'
    (repeat (first | refine cj_seq ?_ | refine cjr TT rfl ?_ | refine cj_skip ?_ | refine cj_block ?_ | refine nj_then ?_))
    refine oj_idx TT rfl rfl rfl rfl rfl rfl rfl rfl rfl (H.mono hs) (by omega) hr1 (oj_run TT rfl ?_)
    (repeat (first | refine cj_seq ?_ | refine cjr TT rfl ?_ | refine oj_then ?_ | (refine oj_add rfl rfl rfl rfl rfl rfl (by omega) ?_;refine oj_run TT rfl ?_)))
    refine oj_callF [0] (A0:=[cE gc c']) (Ar:=[]) rfl rfl rfl rfl rfl rfl rfl Tryz.call138 (by (repeat' (first | exact trivial | exact vCells_lt _ _ _ _ _ _ | constructor))) (ih _ hwx s _ (deep+1) c' gc V'.rep (by omega) (by omega) (by omega) hc1' hc2') fun v σ2 A2 hle2 ⟨hv,hA⟩=>⟨.a (.v (.int .i64 (saneG (g.l++g.vs)[k] (deep+1) c').1)),trivial,hv.symm,?_⟩
    subst hA
    refine oj_run TT rfl ?_
    (repeat (first | refine cj_seq ?_ | refine cjr TT rfl ?_ | refine oj_then ?_))
    refine cj_if rfl (fun h=>?_) (fun h=>?_)
    · have h:(saneG (g.l++g.vs)[k] (deep+1) c').1≠0:=by simpa using h
      rw [if_pos h] at hbd'
      (repeat (first | refine cj_seq ?_ | refine cjr TT rfl ?_ | refine oj_then ?_ | refine cj_ret ?_ | refine nj_then_ret ?_ | refine nj_block_ret ?_))
      refine nj_fret TT rfl fun β w' _ _=>?_
      rw [<-hbd']
      exact ⟨rfl,rfl⟩
    · have h:(saneG (g.l++g.vs)[k] (deep+1) c').1=0:=by simpa using h
      rw [if_neg (by simp [h])] at hbd'
      (repeat (first | refine cjr TT rfl ?_ | refine oj_nil ?_ | refine cj_skip ?_ | refine nj_then ?_ | refine nj_block ?_ | (refine oj_add rfl rfl rfl rfl rfl rfl (by omega) ?_;refine oj_run TT rfl ?_)))
      refine nj_again (σ2,k+1,(saneG (g.l++g.vs)[k] (deep+1) c').2) ⟨hkl,Snap.le_trans hs hle2,by dsimp only;omega,hb.2.2 h,hbd'⟩ (by dsimp only;omega) rfl (by (repeat first | exact trivial | refine ⟨rfl,?_⟩)) (by (repeat first | exact trivial | refine ⟨rfl,?_⟩)) rfl (by (repeat' (first | exact trivial | constructor))) (by (repeat' exact trivial))
  · have hk0:k=(g.l++g.vs).length:=by simp at h;omega
    subst hk0
    rw [List.drop_length,saneL] at hbd'
    (repeat (first | refine cj_seq ?_ | refine cjr TT rfl ?_ | refine oj_then ?_ | refine cj_exit ?_ | refine cj_ret ?_ | refine nj_then ?_ | refine nj_then_exit ?_ | refine nj_block_out ?_))
    refine nj_fret TT rfl fun β w' _ _=>?_
    rw [<-hbd']
    exact ⟨rfl,rfl⟩
def sane (g:GVal):Int:=(saneG g 0 0).1
set_option maxRecDepth 100000 in
set_option maxHeartbeats 1000000 in
theorem Sane_c (σ:Snap) (g:GVal) (r:List AT) (hr:RepV σ g r) (hw:g.weight<=1000000):PlainS Tryz.prog 60 [.agg r] σ (fun v=>v=.int .i64 (sane g)):=by
  obtain ⟨la,lc,lrows,ma,mc,vrows,rfl,V⟩:=hr.open
  refine enter_p Tryz.func60 rfl rfl (by (repeat' (first | exact trivial | exact vCells_lt _ _ _ _ _ _ | constructor))) fun w=>?_
  (repeat (first | refine cj_seq ?_ | refine cjr TT rfl ?_ | refine oj_then ?_))
  refine oj_own 1 1 1 rfl (by (repeat' (first | exact trivial | refine AllLt.of ?_ | constructor))) rfl (by decide) fun gc=>?_
  refine oj_callF [0] (A0:=[cE gc 0]) (Ar:=[]) rfl rfl rfl rfl rfl rfl rfl Tryz.call138 (by (repeat' (first | exact trivial | exact vCells_lt _ _ _ _ _ _ | constructor))) (sane_c g σ _ 0 0 gc V.rep (by omega) (by omega) hw (by omega) (by omega)) fun v σ2 A2 hle2 ⟨hv,hA⟩=>⟨.a (.v (.int .i64 (sane g))),trivial,hv.symm,?_⟩
  refine oj_run TT rfl ?_
  (repeat (first | refine oj_then ?_ | refine cj_ret ?_))
  refine nj_ret TT rfl fun β w' _ _=>?_
  rfl
end Go.Sy
/- Records, and a value's records. No program in sight. -/
namespace Go.Sy
structure GRec where
  st:Int
  en:Int
  lv:Int
  kd:Int
  nm:Bool
  name:ByteArray
  b:Bool
  n:GDec
  s:ByteArray
deriving DecidableEq
def recCells (r:GRec):List AT:=[.v (.int .i64 r.st),.v (.int .i64 r.en),.v (.int .i64 r.lv),.v (.int .i64 r.kd),.b r.nm,.v (.string r.name),.b r.b,.b r.n.neg,.v (.string r.n.dg),.v (.int .i64 r.n.ex),.v (.string r.s)]
theorem recCells_lt (n:Nat) (r:GRec):∀ c∈recCells r,c.lt n:=by simp [recCells,AT.lt]
def recRows (l:List GRec):List (List AT):=l.map recCells
theorem recRows_get {l:List GRec} {i:Nat} {r:GRec} (h:l[i]?=some r):(recRows l)[i]?=some (recCells r):=by simp [recRows,h]
theorem recRows_append (a b:List GRec):recRows (a++b)=recRows a++recRows b:=by simp [recRows]
theorem recRows_len (a:List GRec):(recRows a).length=a.length:=by simp [recRows]
theorem recRows_all (a:List GRec):∀ r∈recRows a,r.length=11/\(∀ c∈r,c.lt 0)/\r.all AT.one=true:=by
  intro r hr
  obtain ⟨x,_,rfl⟩:=List.mem_map.1 hr
  exact ⟨rfl,recCells_lt 0 x,rfl⟩
def recXs (l:List GRec):List Value:=(recRows l).flatten.map AT.val
theorem recXs_append (a b:List GRec):recXs (a++b)=recXs a++recXs b:=by simp [recXs,recRows_append]
theorem recXs_len (a:List GRec):(recXs a).length=a.length*11:=by
  unfold recXs
  rw [List.length_map,flat_len (sz:=11) (fun r hr=>(recRows_all a r hr).1),recRows_len]
theorem recXs_get {l:List GRec} {i j:Nat} {r:GRec} {c:AT} (h:l[i]?=some r) (hj:(recCells r)[j]?=some c):(recXs l)[i*11+j]?=some c.val:=by
  unfold recXs
  rw [List.getElem?_map,flat_get (sz:=11) (fun r hr=>(recRows_all l r hr).1) (recRows_get h) hj]
  rfl
theorem recXs_set {l:List GRec} {i j:Nat} {r r':GRec} (c:AT) (h:l[i]?=some r) (hj:j<11) (hr:(recCells r).set j c=recCells r'):(recXs l).set (i*11+j) c.val=recXs (l.set i r'):=by
  unfold recXs
  rw [<-List.map_set,flat_set (sz:=11) (fun r hr=>(recRows_all l r hr).1) c (recRows_get h) hj,hr]
  congr 2
  unfold recRows
  rw [List.map_set]
mutual
def shredV (gap:Int):GVal->Int->Bool->ByteArray->Int->List GRec×Int
  | .mk k b n s l ks vs,lv,nm,name,now =>
    let p:=shredL gap l (lv+1) (now+gap)
    let q:=shredM gap vs ks (lv+1) p.2
    (⟨now+gap,q.2+gap,lv,k,nm,name,b,n,s⟩::(p.1++q.1),q.2+gap)
def shredL (gap:Int):List GVal->Int->Int->List GRec×Int
  | [],_,now=>([],now)
  | g::gs,lv,now =>
    let p:=shredV gap g lv false ⟨#[]⟩ now
    let q:=shredL gap gs lv p.2
    (p.1++q.1,q.2)
def shredM (gap:Int):List GVal->List ByteArray->Int->Int->List GRec×Int
  | [],_,_,now=>([],now)
  | _::_,[],_,now=>([],now)
  | g::gs,k::ks,lv,now =>
    let p:=shredV gap g lv true k now
    let q:=shredM gap gs ks lv p.2
    (p.1++q.1,q.2)
end
theorem shredV_eq (gap:Int) (g:GVal) (lv:Int) (nm:Bool) (name:ByteArray) (now:Int) :
    shredV gap g lv nm name now=(⟨now+gap,(shredM gap g.vs g.ks (lv+1) (shredL gap g.l (lv+1) (now+gap)).2).2+gap,lv,g.kind,nm,name,g.b,g.n,g.s⟩ ::
      ((shredL gap g.l (lv+1) (now+gap)).1++(shredM gap g.vs g.ks (lv+1) (shredL gap g.l (lv+1) (now+gap)).2).1),
      (shredM gap g.vs g.ks (lv+1) (shredL gap g.l (lv+1) (now+gap)).2).2+gap):=by
  cases g;rfl
mutual
theorem shredV_len (gap:Int):∀ (g:GVal) (lv:Int) (nm:Bool) (name:ByteArray) (now:Int),(shredV gap g lv nm name now).1.length<=g.weight/\(shredV gap g lv nm name now).2=now+2*gap*(shredV gap g lv nm name now).1.length
  | .mk k b n s l ks vs,lv,nm,name,now=>by
    simp only [shredV,List.length_cons,List.length_append,GVal.weight]
    obtain ⟨h1,h2⟩:=shredL_len gap l (lv+1) (now+gap)
    obtain ⟨h3,h4⟩:=shredM_len gap vs ks (lv+1) (shredL gap l (lv+1) (now+gap)).2
    refine ⟨by omega,?_⟩
    rw [h4,h2]
    simp only [Int.natCast_add,Int.mul_add]
    omega
theorem shredL_len (gap:Int):∀ (gs:List GVal) (lv now:Int),(shredL gap gs lv now).1.length<=GVal.weights gs/\(shredL gap gs lv now).2=now+2*gap*(shredL gap gs lv now).1.length
  | [],lv,now=>by simp [shredL,GVal.weights]
  | g::gs,lv,now=>by
    simp only [shredL,List.length_append,GVal.weights]
    obtain ⟨h1,h2⟩:=shredV_len gap g lv false ⟨#[]⟩ now
    obtain ⟨h3,h4⟩:=shredL_len gap gs lv (shredV gap g lv false ⟨#[]⟩ now).2
    refine ⟨by omega,?_⟩
    rw [h4,h2]
    simp only [Int.natCast_add,Int.mul_add]
    omega
theorem shredM_len (gap:Int):∀ (gs:List GVal) (ks:List ByteArray) (lv now:Int),(shredM gap gs ks lv now).1.length<=GVal.weights gs/\(shredM gap gs ks lv now).2=now+2*gap*(shredM gap gs ks lv now).1.length
  | [],ks,lv,now=>by simp [shredM]
  | g::gs,[],lv,now=>by simp [shredM]
  | g::gs,k::ks,lv,now=>by
    simp only [shredM,List.length_append,GVal.weights]
    obtain ⟨h1,h2⟩:=shredV_len gap g lv true k now
    obtain ⟨h3,h4⟩:=shredM_len gap gs ks lv (shredV gap g lv true k now).2
    refine ⟨by omega,?_⟩
    rw [h4,h2]
    simp only [Int.natCast_add,Int.mul_add]
    omega
end
theorem shredV_now {gap:Int} (g:GVal) (lv:Int) (nm:Bool) (name:ByteArray) (now:Int) (h0:0<=gap) (h1:gap<=1000):now<=(shredV gap g lv nm name now).2/\(shredV gap g lv nm name now).2<=now+2000*g.weight:=by
  obtain ⟨h2,h3⟩:=shredV_len gap g lv nm name now
  generalize (shredV gap g lv nm name now).1.length=m at *
  have e1:0<=2*gap*(m:Int):=Int.mul_nonneg (by omega) (by omega)
  have e2:2*gap*(m:Int)<=2000*(m:Int):=Int.mul_le_mul_of_nonneg_right (by omega) (by omega)
  have e3:2000*(m:Int)<=2000*(g.weight:Int):=Int.mul_le_mul_of_nonneg_left (by omega) (by omega)
  omega
theorem shredL_now {gap:Int} (gs:List GVal) (lv:Int) (now:Int) (h0:0<=gap) (h1:gap<=1000):now<=(shredL gap gs lv now).2/\(shredL gap gs lv now).2<=now+2000*GVal.weights gs:=by
  obtain ⟨h2,h3⟩:=shredL_len gap gs lv now
  generalize (shredL gap gs lv now).1.length=m at *
  have e1:0<=2*gap*(m:Int):=Int.mul_nonneg (by omega) (by omega)
  have e2:2*gap*(m:Int)<=2000*(m:Int):=Int.mul_le_mul_of_nonneg_right (by omega) (by omega)
  have e3:2000*(m:Int)<=2000*(GVal.weights gs:Int):=Int.mul_le_mul_of_nonneg_left (by omega) (by omega)
  omega
theorem shredM_now {gap:Int} (gs:List GVal) (ks:List ByteArray) (lv:Int) (now:Int) (h0:0<=gap) (h1:gap<=1000):now<=(shredM gap gs ks lv now).2/\(shredM gap gs ks lv now).2<=now+2000*GVal.weights gs:=by
  obtain ⟨h2,h3⟩:=shredM_len gap gs ks lv now
  generalize (shredM gap gs ks lv now).1.length=m at *
  have e1:0<=2*gap*(m:Int):=Int.mul_nonneg (by omega) (by omega)
  have e2:2*gap*(m:Int)<=2000*(m:Int):=Int.mul_le_mul_of_nonneg_right (by omega) (by omega)
  have e3:2000*(m:Int)<=2000*(GVal.weights gs:Int):=Int.mul_le_mul_of_nonneg_left (by omega) (by omega)
  omega
mutual
def GVal.wf:GVal->Prop
  | .mk _ _ _ _ l ks vs=>ks.length=vs.length/\GVal.wfs l/\GVal.wfs vs
def GVal.wfs:List GVal->Prop
  | []=>True
  | g::gs=>g.wf/\GVal.wfs gs
end
mutual
theorem RepV.wf {σ:Snap}:∀ {g:GVal} {r:List AT},RepV σ g r->g.wf
  | .mk k b n s l ks vs,r,h=>by
    simp only [RepV] at h
    obtain ⟨_,_,_,_,_,_,_,_,h3,h4,_,h6,_⟩:=h
    exact ⟨h4,RepL.wfs h3,RepL.wfs h6⟩
theorem RepL.wfs {σ:Snap}:∀ {gs:List GVal} {rs:List (List AT)},RepL σ gs rs->GVal.wfs gs
  | [],_,_=>trivial
  | g::gs,rs,h=>by
    simp only [RepL] at h
    obtain ⟨r,rs',_,h2,h3⟩:=h
    exact ⟨RepV.wf h2,RepL.wfs h3⟩
end
end Go.Sy
namespace Go.Sy
open Go.Proofs
theorem ow_ld1 {cf:Cf} {Q:Exit->Act->World->Prop} {W:(Nat->Addr)->World->Prop} {σ:Snap} {env:Env} {hp:HP} {A:List AE} {nh:Nat} {it:Item} {rest:List Item} {d t:Nat} {x:Operand} {T:List (Nat×TI)} (hT:TTok cf.P T) {ti:TI} {g off:Nat} (c:AT)
    (hq:(match it.tag with | .quiet=>true | _=>false)=true) (hop:it.o.op=.load t x) (hd:it.o.dst=some d) (hg:guardVal it.guard env=some true) (hN:Nat.blt d cf.N=true)
    (hx:evalO env x=some (.a (.v (.pointer (some ⟨g,off,none⟩))))) (ht:tget T t=some ti) (hag:ti.agg=false)
    (hv:∀ β w,W β w->w.cell? ⟨g,off,none⟩=some c.val) (hc:c.lt 0) (k:OW cf rest Q W σ ((d,.a c)::env) hp A nh):OW cf (it::rest) Q W σ env hp A nh:=by
  refine ow_val (.a c) hd hg hN (AT.lt_mono (Nat.zero_le _) hc) (fun _ a β ha=>?_) k
  cases htag:it.tag with
  | quiet =>
    intro w hw
    obtain ⟨inf,d',z,hs⟩:=tiOf_spec (hT _ _ ht)
    have hcell:=hv β w hw
    have hx':a.eval x=.pointer (some ⟨g,off,none⟩):=evalO_eval ha hx
    have hload:(load ⟨g,off,none⟩).run cf.P w=.ok c.val w:=by rw [run_load,hcell]
    simp only [execOp,hop,Instr.loadAt,hx',Instr.sureAddr,loadVar,Sem.run_bind,Sem.run_pure,Result.andThen_ok,run_isAgg hs.und,hs.agg,hag,Bool.false_eq_true,if_false,hload]
    simp only [SV.den,AT.den_val hc β]
  | _=>rw [htag] at hq;cases hq
def sE (gs:Nat) (ao:Option Addr) (n cap:Nat) (now gap:Int):AE:=⟨some ⟨gs,0,none⟩,1,1,193,3,[.slice ao n cap,.int .i64 now,.int .i64 gap]⟩
def rE (ao:Option Addr) (n cap:Nat) (l:List GRec):AE:=⟨ao,n,cap,130,11,recXs l⟩
def shA (gs:Nat) (ao:Option Addr) (cap:Nat) (now gap:Int) (l:List GRec):List AE:=[sE gs ao l.length cap now gap,rE ao l.length cap l]
set_option maxRecDepth 100000 in
set_option maxHeartbeats 1000000 in
theorem number_c (σ:Snap) (gs:Nat) (ao:Option Addr) (n cap:Nat) (now gap:Int) (h1:0<=now) (h2:now<=1125899906842624) (h3:0<=gap) (h4:gap<=1000) :
    FnS Tryz.prog 169 [.a (.v (.pointer (some ⟨gs,0,none⟩)))] σ [sE gs ao n cap now gap] (fun v _ A'=>v=.int .i64 (now+gap)/\A'=[sE gs ao n cap (now+gap) gap]):=by
  refine enter_f Tryz.func169 rfl rfl (by (repeat' (first | exact trivial | constructor))) fun w=>?_
  (repeat (first | refine cj_seq ?_ | refine cjr TT rfl ?_ | refine oj_then ?_))
  refine cj_draw [(0,.pure),(1,.pure),(2,.pure),(3,.quiet),(4,.pure),(5,.pure),(6,.pure),(7,.quiet),(8,.pure),(9,.pure),(10,.pure),(11,.sink)] mixed (by kernel_rfl) (oj_run TT rfl ?_)
  refine oj_ldA 0 (c:=.v (.int .i64 now)) TT rfl rfl rfl rfl rfl rfl rfl rfl rfl rfl rfl trivial (oj_run TT rfl ?_)
  refine oj_ldA 0 (c:=.v (.int .i64 gap)) TT rfl rfl rfl rfl rfl rfl rfl rfl rfl rfl rfl trivial (oj_run TT rfl ?_)
  refine oj_add rfl rfl rfl rfl rfl rfl (by omega) (oj_run TT rfl ?_)
  refine oj_stA 0 (A':=[sE gs ao n cap (now+gap) gap]) TT rfl rfl rfl rfl rfl rfl rfl rfl rfl rfl (by show 1<1*3;omega) trivial rfl rfl (oj_run TT rfl ?_)
  (repeat (first | refine cj_seq ?_ | refine cjr TT rfl ?_ | refine oj_then ?_))
  refine oj_ldA 0 (c:=.v (.int .i64 (now+gap))) TT rfl rfl rfl rfl rfl rfl rfl rfl rfl rfl rfl trivial (oj_run TT rfl ?_)
  (repeat (first | refine oj_then ?_ | refine cj_ret ?_))
  refine nj_fret TT rfl fun β w' _ _=>?_
  exact ⟨rfl,rfl⟩
def ord71_1:List (Nat×Tag):=[(0,.pure),(1,.quiet),(2,.pure),(3,.quiet),(4,.pure),(5,.quiet),(6,.pure),(7,.quiet),(8,.pure),(9,.keep),(10,.pure),(11,.keep),(12,.pure),(13,.keep),(14,.pure),(15,.keep)]
def ord71_15:List (Nat×Tag):=[(0,.pure),(1,.pure),(2,.pure),(3,.quiet),(4,.pure),(5,.pure),(6,.keep),(7,.pure),(8,.pure),(9,.sink)]
structure ShS where
  σ:Snap
  k:Nat
  ao:Option Addr
  cap:Nat
  now:Int
  P:List GRec
theorem weights_drop {l:List GVal} {i:Nat} {g:GVal} (h:l[i]?=some g):GVal.weights (l.drop i)=g.weight+GVal.weights (l.drop (i+1)):=by
  have hlt:=(List.getElem?_eq_some_iff.1 h).1
  rw [List.drop_eq_getElem_cons hlt,GVal.weights,(List.getElem?_eq_some_iff.1 h).2]
theorem recXs_push (L:List GRec) (x:GRec):recXs L++(recCells x).map AT.val=recXs (L++[x]):=by
  rw [recXs_append]
  simp [recXs,recRows]
def rec0 (lv:Int) (nm:Bool) (name:ByteArray):GRec:=⟨0,0,lv,0,nm,name,false,dec0,emptyS⟩
set_option maxRecDepth 100000 in
set_option maxHeartbeats 4000000 in
theorem shredder_c (g:GVal):∀ (σ:Snap) (r:List AT) (x:GRec) (gs:Nat) (ao:Option Addr) (cap:Nat) (now gap:Int) (L:List GRec),RepV σ g r->0<=now->now+2000*g.weight<=1125899906842624->0<=gap->gap<=1000 ->
    L.length+g.weight<=1000000->0<=x.lv->x.lv+g.weight<=1099511627776->L.length<=cap ->
    FnS Tryz.prog 104 [.a (.v (.pointer (some ⟨gs,0,none⟩))),.agg r,.agg (recCells x)] σ (shA gs ao cap now gap L) (fun v _ A'=>v=.tuple #[]/\∃ ao' cap',(L++(shredV gap g x.lv x.nm x.name now).1).length<=cap' /\
      A'=shA gs ao' cap' (shredV gap g x.lv x.nm x.name now).2 gap (L++(shredV gap g x.lv x.nm x.name now).1)):=by
  induction g using GVal.byWeight with | _ g ih=>?_
  intro σ r x gs ao cap now gap L hr hn1 hn2 hg1 hg2 hnw hlv1 hlv2 hncap
  obtain ⟨la,lc,lrows,ma,mc,vrows,rfl,V⟩:=hr.open
  have hwg:=g.weight_eq
  have hwl:=weights_len g.l
  have hwv:=weights_len g.vs
  have hkv:=V.kv
  have hsl:=shredL_now g.l (x.lv+1) (now+gap) hg1 hg2
  have hsm:=shredM_now (gap:=gap) g.vs g.ks (x.lv+1) (shredL gap g.l (x.lv+1) (now+gap)).2 hg1 hg2
  have hll:=(shredL_len gap g.l (x.lv+1) (now+gap)).1
  have hlm:=(shredM_len gap g.vs g.ks (x.lv+1) (shredL gap g.l (x.lv+1) (now+gap)).2).1
  rw [shredV_eq]
  refine enter_f Tryz.func104 rfl rfl (by (repeat' (first | exact trivial | exact vCells_lt _ _ _ _ _ _ | refine AllLt.of ?_ | constructor))) fun w=>?_
  (repeat (first | refine cj_seq ?_ | refine cjr TT rfl ?_ | refine oj_then ?_))
  refine cj_drawW ord71_1 (fun β w=>StW _ σ [(0,.loc 28,vCells g la lc ma mc)] _ β w) (fun β w h=>h.sub (subH_of ⟨rfl,trivial⟩)) mixed (by kernel_rfl) ?_
  refine ow_pure TT rfl rfl rfl rfl rfl rfl ?_
  refine ow_load TT [(0,.loc 28,vCells g la lc ma mc)] _ (subH_of ⟨rfl,trivial⟩) (fun _ _ h=>h) rfl rfl rfl rfl rfl ?_
  refine ow_pure TT rfl rfl rfl rfl rfl rfl ?_
  refine ow_load TT [(0,.loc 28,vCells g la lc ma mc)] _ (subH_of ⟨rfl,trivial⟩) (fun _ _ h=>h) rfl rfl rfl rfl rfl ?_
  refine ow_pure TT rfl rfl rfl rfl rfl rfl ?_
  refine ow_load TT [(0,.loc 28,vCells g la lc ma mc)] _ (subH_of ⟨rfl,trivial⟩) (fun _ _ h=>h) rfl rfl rfl rfl rfl ?_
  refine ow_pure TT rfl rfl rfl rfl rfl rfl ?_
  refine ow_load TT [(0,.loc 28,vCells g la lc ma mc)] _ (subH_of ⟨rfl,trivial⟩) (fun _ _ h=>h) rfl rfl rfl rfl rfl ?_
  refine ow_pure TT rfl rfl rfl rfl rfl rfl ?_
  refine ow_put TT rfl rfl rfl rfl (fun _ _ h=>h.sub (subH_of ⟨rfl,trivial⟩)) ?_
  refine ow_pure TT rfl rfl rfl rfl rfl rfl ?_
  refine ow_put TT rfl rfl rfl rfl (fun _ _ h=>h.sub (subH_of ⟨rfl,trivial⟩)) ?_
  refine ow_pure TT rfl rfl rfl rfl rfl rfl ?_
  refine ow_put TT rfl rfl rfl rfl (fun _ _ h=>h.sub (subH_of ⟨rfl,trivial⟩)) ?_
  refine ow_pure TT rfl rfl rfl rfl rfl rfl ?_
  refine ow_put TT rfl rfl rfl rfl (fun _ _ h=>h.sub (subH_of ⟨rfl,trivial⟩)) ?_
  refine ow_end rfl (fun _ _ h=>h.sub (subH_of ⟨rfl,trivial⟩)) (oj_nil ?_)
  (repeat (first | refine cj_seq ?_ | refine cjr TT rfl ?_ | refine nj_then ?_))
  refine oj_callF [0,1] (A0:=[sE gs ao L.length cap now gap]) (Ar:=[rE ao L.length cap L]) rfl rfl rfl rfl rfl rfl rfl Tryz.call169 (by (repeat' (first | exact trivial | constructor))) (number_c σ gs ao L.length cap now gap hn1 (by omega) hg1 hg2) fun v σ1 A1 hle1 ⟨hv,hA⟩=>⟨.a (.v (.int .i64 (now+gap))),trivial,hv.symm,?_⟩
  subst hA
  refine oj_run TT rfl ?_
  (repeat (first | refine cj_seq ?_ | refine cjr TT rfl ?_ | refine oj_then ?_))
  refine oj_ldA 0 (c:=.v (.slice ao L.length cap)) TT rfl rfl rfl rfl rfl rfl rfl rfl rfl rfl rfl trivial (oj_run TT rfl ?_)
  (repeat (first | refine cj_seq ?_ | refine oj_then ?_))
  let x1:GRec:=⟨now+gap,x.en,x.lv,g.kind,x.nm,x.name,g.b,g.n,g.s⟩
  refine cj_sub (env':=[(0,.a (.v (.pointer (some ⟨gs,0,none⟩)))),(4,.a (.p 0 0)),(5,.a (.p 1 0)),(6,.a (.v (.int .i64 L.length)))]) (hp':=[(0,.loc 28,vCells g la lc ma mc),(1,.loc 130,recCells x1)]) (subE_of (by (repeat first | exact trivial | refine ⟨rfl,?_⟩))) (subH_of (by (repeat first | exact trivial | refine ⟨rfl,?_⟩))) ?_
  refine cj_draw [(0,.pure),(1,.pure),(2,.pure),(3,.pure),(4,.quiet),(5,.quiet),(6,.keep),(7,.sink),(8,.pure),(9,.pure),(10,.sink)] mixed (by kernel_rfl) (oj_run TT rfl ?_)
  refine oj_ldA 0 (c:=.v (.slice ao L.length cap)) TT rfl rfl rfl rfl rfl rfl rfl rfl rfl rfl rfl trivial (oj_run TT rfl ?_)
  refine oj_append_lit TT 1 rfl rfl rfl rfl rfl rfl rfl rfl rfl rfl rfl rfl rfl rfl rfl rfl rfl rfl (by (repeat' (first | exact trivial | refine AllLt.of ?_ | constructor))) rfl (by omega) (by show (L.length+1)*112<=_;omega) fun ao1 cap1 hcap1=>oj_run TT rfl ?_
  refine oj_stA 0 (A':=[sE gs ao1 (L.length+1) cap1 (now+gap) gap,⟨ao1,L.length+1,cap1,130,11,recXs L++(recCells x1).map AT.val⟩]) TT rfl rfl rfl rfl rfl rfl rfl rfl rfl rfl (by show 0<1*3;omega) trivial rfl rfl (oj_run TT rfl ?_)
  rw [recXs_push]
  (repeat (first | refine cj_seq ?_ | refine cjr TT rfl ?_ | refine oj_then ?_ | refine cj_block ?_))
  refine cj_cutB (fun (s:ShS)=>s.σ) (fun _=>[(0,.a (.v (.pointer (some ⟨gs,0,none⟩)))),(4,.a (.p 0 0)),(5,.a (.p 1 0)),(6,.a (.v (.int .i64 L.length)))])
    (fun _=>[(0,.loc 28,vCells g la lc ma mc),(1,.loc 130,recCells x1)]) (fun s=>shA gs s.ao s.cap s.now gap (L++x1::s.P)) 2
    (fun s=>σ1.le s.σ/\s.P=(shredL gap g.l (x.lv+1) (now+gap)).1/\s.now=(shredL gap g.l (x.lv+1) (now+gap)).2/\(L++x1::s.P).length<=s.cap) ?_ (fun s ⟨hs,hsP,hsn,hscap⟩=>?_)
  · refine cj_loop (fun (s:ShS)=>s.σ) (fun s=>[(0,.a (.v (.pointer (some ⟨gs,0,none⟩)))),(4,.a (.p 0 0)),(5,.a (.p 1 0)),(6,.a (.v (.int .i64 L.length))),(42,.a (.v (.slice la g.l.length lc))),(43,.a (.v (.int .i64 g.l.length))),(44,.a (.v (.int .i64 s.k)))])
      (fun _=>[(0,.loc 28,vCells g la lc ma mc),(1,.loc 130,recCells x1)]) (fun s=>shA gs s.ao s.cap s.now gap (L++x1::s.P)) 2
      (fun s=>s.k<=g.l.length/\σ1.le s.σ/\s.P++(shredL gap (g.l.drop s.k) (x.lv+1) s.now).1=(shredL gap g.l (x.lv+1) (now+gap)).1/\(shredL gap (g.l.drop s.k) (x.lv+1) s.now).2=(shredL gap g.l (x.lv+1) (now+gap)).2 /\
        0<=s.now/\s.now+2000*GVal.weights (g.l.drop s.k)<=now+gap+2000*GVal.weights g.l/\s.P.length+GVal.weights (g.l.drop s.k)<=GVal.weights g.l/\(L++x1::s.P).length<=s.cap)
      (fun s=>g.l.length - s.k) ⟨σ1,0,ao1,cap1,now+gap,[]⟩ ⟨Nat.zero_le _,Snap.le_refl _,rfl,rfl,by dsimp only;omega,by dsimp only;rw [List.drop_zero];omega,by dsimp only;rw [List.drop_zero];simp,by dsimp only;simp;omega⟩
      rfl (by (repeat first | exact trivial | refine ⟨rfl,?_⟩)) (by (repeat first | exact trivial | refine ⟨rfl,?_⟩)) (by unfold shA;simp only [List.length_append];rfl) (by (repeat' (first | exact trivial | exact Nat.le_of_ble_eq_true rfl | constructor))) (by (repeat' (first | exact trivial | exact Nat.le_of_ble_eq_true rfl | exact vCells_lt _ _ _ _ _ _ | refine AllLt.of ?_ | constructor))) fun ⟨s,k,ao,cap,nw,P⟩ ⟨hk,hs,hP1,hP2,hnw1,hnw2,hPw,hcp⟩=>?_
    dsimp only at hk hs hP1 hP2 hnw1 hnw2 hPw hcp ⊢
    (repeat (first | refine cj_seq ?_ | refine cjr TT rfl ?_ | refine oj_then ?_))
    refine cj_if rfl (fun h=>?_) (fun h=>?_)
    · have hkl:k<g.l.length:=by simpa using h
      obtain ⟨rr,hr1,hr2⟩:=(V.l.mono (Snap.le_trans hle1 hs)).get (List.getElem?_eq_getElem hkl)
      obtain ⟨la',lc',lrows',ma',mc',vrows',rfl,V'⟩:=hr2.open
      have hwx:=weight_l (List.getElem_mem hkl)
      have hwd:=weights_drop (List.getElem?_eq_getElem hkl)
      rw [List.drop_eq_getElem_cons hkl,shredL] at hP1 hP2
      have hnx:=shredV_now (gap:=gap) g.l[k] (x.lv+1) false emptyS nw hg1 hg2
      have hlx:=(shredV_len gap g.l[k] (x.lv+1) false emptyS nw).1
      have hlen:(L++x1::P).length=L.length+1+P.length:=by simp;omega
      (repeat (first | refine cj_seq ?_ | refine cjr TT rfl ?_ | refine cj_skip ?_ | refine cj_block ?_ | refine nj_then ?_))
      refine oj_idx TT rfl rfl rfl rfl rfl rfl rfl rfl rfl ((V.L.mono hle1).mono hs) (by omega) hr1 (oj_run TT rfl ?_)
      (repeat (first | refine cjr TT rfl ?_ | refine oj_then ?_))
      refine oj_add rfl rfl rfl rfl rfl rfl (by show -9223372036854775808<=x.lv+1/\x.lv+1<=9223372036854775807;omega) (oj_run TT rfl ?_)
      refine oj_set 53 (.agg (recCells (rec0 (x.lv+1) false emptyS))) rfl (recCells_lt _ _) (fun _=>rfl) ?_
      refine oj_callF [0,1] (A0:=shA gs ao cap nw gap (L++x1::P)) (Ar:=[]) rfl rfl rfl rfl rfl rfl rfl Tryz.call104 (by (repeat' (first | exact trivial | exact vCells_lt _ _ _ _ _ _ | refine AllLt.of ?_ | constructor))) (ih _ hwx s _ (rec0 (x.lv+1) false emptyS) gs ao cap nw gap (L++x1::P) V'.rep hnw1 (by omega) hg1 hg2 (by omega) (by show 0<=x.lv+1;omega) (by show x.lv+1+_<=_;omega) hcp) fun v σ2 A2 hle2 ⟨hv,ao',cap',hcp',hA⟩=>⟨.tup [],(by (repeat' (first | exact trivial | refine SV.lt_tup ?_))),hv.symm,?_⟩
      subst hA
      refine oj_run TT rfl ?_
      (repeat (first | refine cjr TT rfl ?_ | refine oj_nil ?_ | refine nj_then ?_ | refine nj_block ?_ | (refine oj_add rfl rfl rfl rfl rfl rfl (by omega) ?_;refine oj_run TT rfl ?_)))
      refine nj_again ⟨σ2,k+1,ao',cap',(shredV gap g.l[k] (x.lv+1) false emptyS nw).2,P++(shredV gap g.l[k] (x.lv+1) false emptyS nw).1⟩
        ⟨hkl,Snap.le_trans hs hle2,by rw [List.append_assoc];exact hP1,hP2,by dsimp only;omega,by dsimp only;omega,by dsimp only;rw [List.length_append];omega,?_⟩ (by dsimp only;omega) rfl (by (repeat first | exact trivial | refine ⟨rfl,?_⟩)) (by (repeat first | exact trivial | refine ⟨rfl,?_⟩)) ?_ (by (repeat' (first | exact trivial | exact Nat.le_of_ble_eq_true rfl | constructor))) (by (repeat' (first | exact trivial | exact Nat.le_of_ble_eq_true rfl | exact vCells_lt _ _ _ _ _ _ | refine AllLt.of ?_ | constructor)))
      · have e:L++x1::(P++(shredV gap g.l[k] (x.lv+1) false emptyS nw).1)=L++x1::P++(shredV gap g.l[k] (x.lv+1) false emptyS nw).1:=by simp
        dsimp only
        rw [e];exact hcp'
      · have e:L++x1::(P++(shredV gap g.l[k] (x.lv+1) false emptyS nw).1)=L++x1::P++(shredV gap g.l[k] (x.lv+1) false emptyS nw).1:=by simp
        dsimp only
        rw [e,List.append_nil]
        rfl
    · have hk0:k=g.l.length:=by simp at h;omega
      subst hk0
      rw [List.drop_length,shredL] at hP1 hP2
      rw [List.append_nil] at hP1
      (repeat (first | refine cj_exit ?_ | refine nj_then_exit ?_ | refine nj_block_out ?_))
      refine nj_again ⟨s,g.l.length,ao,cap,nw,P⟩ ⟨hs,hP1,hP2,hcp⟩ Nat.zero_lt_one rfl (by (repeat first | exact trivial | refine ⟨rfl,?_⟩)) (by (repeat first | exact trivial | refine ⟨rfl,?_⟩)) rfl (by (repeat' (first | exact trivial | exact Nat.le_of_ble_eq_true rfl | constructor))) (by (repeat' (first | exact trivial | exact Nat.le_of_ble_eq_true rfl | exact vCells_lt _ _ _ _ _ _ | refine AllLt.of ?_ | constructor)))
  obtain ⟨s,k0,ao,cap,nw0,P0⟩:=s
  dsimp only at hs hsP hsn hscap ⊢
  have hlP:P0.length<=GVal.weights g.l:=by rw [hsP];exact hll
  have hn0:nw0<=now+gap+2000*GVal.weights g.l:=by rw [hsn];exact hsl.2
  have hn0':now+gap<=nw0:=by rw [hsn];exact hsl.1
  rw [<-hsn] at hlm hsm
  rw [<-hsn,<-hsP]
  clear hsn hsP
  (repeat (first | refine cj_seq ?_ | refine cjr TT rfl ?_ | refine oj_then ?_ | refine cj_block ?_))
  refine cj_cutB (fun (s:ShS)=>s.σ) (fun _=>[(0,.a (.v (.pointer (some ⟨gs,0,none⟩)))),(6,.a (.v (.int .i64 L.length)))])
    (fun _=>[]) (fun s=>shA gs s.ao s.cap s.now gap (L++x1::P0++s.P)) 0
    (fun s=>σ1.le s.σ/\s.P=(shredM gap g.vs g.ks (x.lv+1) nw0).1/\s.now=(shredM gap g.vs g.ks (x.lv+1) nw0).2/\(L++x1::P0++s.P).length<=s.cap) ?_ (fun s ⟨hs,hsP,hsn,hscap⟩=>?_)
  · refine cj_loop (fun (s:ShS)=>s.σ) (fun s=>[(0,.a (.v (.pointer (some ⟨gs,0,none⟩)))),(4,.a (.p 0 0)),(5,.a (.p 1 0)),(6,.a (.v (.int .i64 L.length))),(57,.a (.v (.slice ma g.ks.length mc))),(58,.a (.v (.int .i64 g.ks.length))),(59,.a (.v (.int .i64 s.k)))])
      (fun _=>[(0,.loc 28,vCells g la lc ma mc),(1,.loc 130,recCells x1)]) (fun s=>shA gs s.ao s.cap s.now gap (L++x1::P0++s.P)) 2
      (fun s=>s.k<=g.ks.length/\σ1.le s.σ/\s.P++(shredM gap (g.vs.drop s.k) (g.ks.drop s.k) (x.lv+1) s.now).1=(shredM gap g.vs g.ks (x.lv+1) nw0).1/\(shredM gap (g.vs.drop s.k) (g.ks.drop s.k) (x.lv+1) s.now).2=(shredM gap g.vs g.ks (x.lv+1) nw0).2 /\
        0<=s.now/\s.now+2000*GVal.weights (g.vs.drop s.k)<=nw0+2000*GVal.weights g.vs/\s.P.length+GVal.weights (g.vs.drop s.k)<=GVal.weights g.vs/\(L++x1::P0++s.P).length<=s.cap)
      (fun s=>g.ks.length - s.k) ⟨s,0,ao,cap,nw0,[]⟩ ⟨Nat.zero_le _,hs,rfl,rfl,by dsimp only;omega,by dsimp only;rw [List.drop_zero];omega,by dsimp only;rw [List.drop_zero];simp,by dsimp only;rw [List.append_nil];exact hscap⟩
      rfl (by (repeat first | exact trivial | refine ⟨rfl,?_⟩)) (by (repeat first | exact trivial | refine ⟨rfl,?_⟩)) (by rw [List.append_nil]) (by (repeat' (first | exact trivial | exact Nat.le_of_ble_eq_true rfl | constructor))) (by (repeat' (first | exact trivial | exact Nat.le_of_ble_eq_true rfl | exact vCells_lt _ _ _ _ _ _ | refine AllLt.of ?_ | constructor))) fun ⟨s,k,ao,cap,nw,P⟩ ⟨hk,hs,hP1,hP2,hnw1,hnw2,hPw,hcp⟩=>?_
    dsimp only at hk hs hP1 hP2 hnw1 hnw2 hPw hcp ⊢
    (repeat (first | refine cj_seq ?_ | refine cjr TT rfl ?_ | refine oj_then ?_))
    refine cj_if rfl (fun h=>?_) (fun h=>?_)
    · have hkl:k<g.ks.length:=by simpa using h
      have hkv':k<g.vs.length:=by omega
      obtain ⟨rr,hr1,hr2⟩:=(V.v.mono (Snap.le_trans hle1 hs)).get (List.getElem?_eq_getElem hkv')
      have hrow:=keyRows_get (List.getElem?_eq_getElem hkl) hr1
      obtain ⟨la',lc',lrows',ma',mc',vrows',rfl,V'⟩:=hr2.open
      have hwx:=weight_v (List.getElem_mem hkv')
      have hwd:=weights_drop (List.getElem?_eq_getElem hkv')
      rw [List.drop_eq_getElem_cons hkv',List.drop_eq_getElem_cons hkl,shredM] at hP1 hP2
      have hnx:=shredV_now (gap:=gap) g.vs[k] (x.lv+1) true g.ks[k] nw hg1 hg2
      have hlx:=(shredV_len gap g.vs[k] (x.lv+1) true g.ks[k] nw).1
      have hlen:(L++x1::P0++P).length=L.length+1+P0.length+P.length:=by simp;omega
      (repeat (first | refine cj_seq ?_ | refine cjr TT rfl ?_ | refine cj_skip ?_ | refine cj_block ?_ | refine nj_then ?_))
      refine oj_idx TT rfl rfl rfl rfl rfl rfl rfl rfl rfl ((V.M.mono hle1).mono hs) (by omega) hrow (oj_run TT rfl ?_)
      (repeat (first | refine cjr TT rfl ?_ | refine oj_then ?_))
      refine oj_add rfl rfl rfl rfl rfl rfl (by show -9223372036854775808<=x.lv+1/\x.lv+1<=9223372036854775807;omega) (oj_run TT rfl ?_)
      refine oj_set 71 (.agg (recCells (rec0 (x.lv+1) true g.ks[k]))) rfl (recCells_lt _ _) (fun _=>rfl) ?_
      refine oj_callF [0,1] (A0:=shA gs ao cap nw gap (L++x1::P0++P)) (Ar:=[]) rfl rfl rfl rfl rfl rfl rfl Tryz.call104 (by (repeat' (first | exact trivial | exact vCells_lt _ _ _ _ _ _ | refine AllLt.of ?_ | constructor))) (ih _ hwx s _ (rec0 (x.lv+1) true g.ks[k]) gs ao cap nw gap (L++x1::P0++P) V'.rep hnw1 (by omega) hg1 hg2 (by omega) (by show 0<=x.lv+1;omega) (by show x.lv+1+_<=_;omega) hcp) fun v σ2 A2 hle2 ⟨hv,ao',cap',hcp',hA⟩=>⟨.tup [],(by (repeat' (first | exact trivial | refine SV.lt_tup ?_))),hv.symm,?_⟩
      subst hA
      refine oj_run TT rfl ?_
      (repeat (first | refine cjr TT rfl ?_ | refine oj_nil ?_ | refine nj_then ?_ | refine nj_block ?_ | (refine oj_add rfl rfl rfl rfl rfl rfl (by omega) ?_;refine oj_run TT rfl ?_)))
      refine nj_again ⟨σ2,k+1,ao',cap',(shredV gap g.vs[k] (x.lv+1) true g.ks[k] nw).2,P++(shredV gap g.vs[k] (x.lv+1) true g.ks[k] nw).1⟩
        ⟨hkl,Snap.le_trans hs hle2,by rw [List.append_assoc];exact hP1,hP2,by dsimp only;omega,by dsimp only;omega,by dsimp only;rw [List.length_append];omega,?_⟩ (by dsimp only;omega) rfl (by (repeat first | exact trivial | refine ⟨rfl,?_⟩)) (by (repeat first | exact trivial | refine ⟨rfl,?_⟩)) ?_ (by (repeat' (first | exact trivial | exact Nat.le_of_ble_eq_true rfl | constructor))) (by (repeat' (first | exact trivial | exact Nat.le_of_ble_eq_true rfl | exact vCells_lt _ _ _ _ _ _ | refine AllLt.of ?_ | constructor)))
      · dsimp only
        rw [<-List.append_assoc];exact hcp'
      · dsimp only
        rw [<-List.append_assoc,List.append_nil]
        rfl
    · have hk0:k=g.ks.length:=by simp at h;omega
      subst hk0
      rw [List.drop_length,List.drop_of_length_le (by omega),shredM] at hP1 hP2
      rw [List.append_nil] at hP1
      (repeat (first | refine cj_exit ?_ | refine nj_then_exit ?_ | refine nj_block_out ?_))
      refine nj_again ⟨s,g.ks.length,ao,cap,nw,P⟩ ⟨hs,hP1,hP2,hcp⟩ Nat.zero_lt_one rfl (by (repeat first | exact trivial | refine ⟨rfl,?_⟩)) (by (repeat first | exact trivial | refine ⟨rfl,?_⟩)) rfl (by (repeat' (first | exact trivial | constructor))) (by (repeat' exact trivial))
  obtain ⟨s,k0,ao,cap,nw1,P1⟩:=s
  dsimp only at hs hsP hsn hscap ⊢
  have hn1':nw1<=nw0+2000*GVal.weights g.vs:=by rw [hsn];exact hsm.2
  have hn1'':nw0<=nw1:=by rw [hsn];exact hsm.1
  rw [<-hsn,<-hsP]
  clear hsn hsP
  have hM:(L++x1::P0++P1)[L.length]?=some x1:=by simp
  have hMl:L.length<(L++x1::P0++P1).length:=(List.getElem?_eq_some_iff.1 hM).1
  have hMs:(L++x1::P0++P1).set L.length ⟨now+gap,nw1+gap,x.lv,g.kind,x.nm,x.name,g.b,g.n,g.s⟩=L++⟨now+gap,nw1+gap,x.lv,g.kind,x.nm,x.name,g.b,g.n,g.s⟩::(P0++P1):=by simp
  have hMn:(L++⟨now+gap,nw1+gap,x.lv,g.kind,x.nm,x.name,g.b,g.n,g.s⟩::(P0++P1)).length=(L++x1::P0++P1).length:=by simp
  generalize hMM:L++x1::P0++P1=M at *
  refine cj_arrAt 1 (E:=rE ao M.length cap M) rfl (by show 0<M.length;omega) fun g1 hg1'=>?_
  have hg1':ao=some ⟨g1,0,none⟩:=hg1'
  subst hg1'
  refine cj_drawW ord71_15 (fun β w=>w.cell? ⟨gs,0,none⟩=some (.slice (some ⟨g1,0,none⟩) M.length cap)) (fun β w h=>(h.arr 0 (sE gs (some ⟨g1,0,none⟩) M.length cap nw1 gap) rfl).cell rfl rfl) mixed (by kernel_rfl) ?_
  refine ow_pure TT rfl rfl rfl rfl rfl rfl ?_
  refine ow_pure TT rfl rfl rfl rfl rfl rfl ?_
  refine ow_pure TT rfl rfl rfl rfl rfl rfl ?_
  refine ow_ld1 TT (.v (.slice (some ⟨g1,0,none⟩) M.length cap)) rfl rfl rfl rfl rfl rfl rfl rfl (fun _ _ h=>h) trivial ?_
  refine ow_pure TT rfl rfl rfl rfl rfl rfl ?_
  refine ow_pure TT rfl rfl rfl rfl rfl rfl ?_
  refine ow_call [0,1] (A0:=[sE gs (some ⟨g1,0,none⟩) M.length cap nw1 gap]) (Ar:=[rE (some ⟨g1,0,none⟩) M.length cap M]) rfl rfl rfl rfl rfl rfl rfl Tryz.call169 (by (repeat' (first | exact trivial | constructor))) (number_c s gs (some ⟨g1,0,none⟩) M.length cap nw1 gap (by omega) (by omega) hg1 hg2) fun v σ2 A2 hle2 ⟨hv,hA⟩=>?_
  subst hA
  refine ⟨fun β w h=>(h.arr 0 (sE gs (some ⟨g1,0,none⟩) M.length cap (nw1+gap) gap) rfl).cell rfl rfl,.a (.v (.int .i64 (nw1+gap))),trivial,hv.symm,?_⟩
  refine ow_end rfl (fun β w h=>(h.arr 0 (sE gs (some ⟨g1,0,none⟩) M.length cap (nw1+gap) gap) rfl).cell rfl rfl) (oj_run TT rfl ?_)
  refine oj_indexAddr TT rfl rfl rfl rfl rfl rfl rfl rfl rfl ⟨by omega,by omega⟩ (oj_run TT rfl ?_)
  have hoff:L.length*11+1<M.length*11:=by omega
  refine oj_stA 1 (A':=shA gs (some ⟨g1,0,none⟩) cap (nw1+gap) gap (L++⟨now+gap,nw1+gap,x.lv,g.kind,x.nm,x.name,g.b,g.n,g.s⟩::(P0++P1))) (off:=L.length*11+1) TT rfl rfl rfl rfl ?_ rfl rfl rfl rfl rfl hoff trivial rfl ?_ (oj_run TT rfl ?_)
  · show some (SV.a (AT.v (.pointer (some (Addr.add (Addr.add ⟨g1,0,none⟩ ((L.length:Int).toNat*11)) 1)))))=_
    rw [add0,Addr.add_lit]
    rfl
  · unfold shA
    rw [hMn]
    show [_,_]=[_,_]
    congr 1
    congr 1
    unfold rE
    congr 1
    show (recXs M).set (L.length*11+1) (AT.v (.int .i64 (nw1+gap))).val=_
    rw [recXs_set (r':=⟨now+gap,nw1+gap,x.lv,g.kind,x.nm,x.name,g.b,g.n,g.s⟩) _ hM (by omega) rfl,hMs]
  (repeat refine oj_nil ?_)
  refine nj_fend TT rfl fun β w' _ _=>?_
  refine ⟨rfl,_,cap,?_,rfl⟩
  rw [hMn];exact hscap
end Go.Sy
namespace Go.Sy
open Go.Proofs
theorem FnS.seal1 {P:Program} {f:FuncId} {svs:List SV} {σ:Snap} {Φ:Value->Snap->AE->Prop} {Ψ:Value->Snap->Prop} (h:FnS P f svs σ [] (fun v σ' A'=>∃ E,A'=[E]/\Φ v σ' E))
    (hi:∀ v σ' σ'' E,Φ v σ' E->σ'.le σ''->ArrSealed σ'' E->Ψ v σ''):PureS P f svs σ Ψ:=by
  intro w hs
  have:=h w (StW.start hs β0)
  rw [blks_nil] at this
  refine Calls.mono this fun _ _ ⟨v,σ',h1,h2,h3,h4,A',⟨E,hE,h5⟩,h6⟩=>?_
  subst hE
  obtain ⟨σ'',h7,h8,h9⟩:=h6.sealArr (i:=0) rfl
  rw [blks_nil] at h9
  exact ⟨v,σ'',h1,h2,SGrow.of h9,h9.sealed,hi v σ' σ'' E h5 h7 h8⟩
theorem rE_sealed {σ:Snap} {ao:Option Addr} {cap:Nat} {l:List GRec} (h:ArrSealed σ (rE ao l.length cap l)) (hc:l.length<=cap):SlAt σ ao l.length cap 11 (recRows l) :=
  h.sl (E:=rE ao l.length cap l) rfl (fun r hr=>⟨(recRows_all l r hr).1,(recRows_all l r hr).2.1⟩) (recRows_len l) rfl hc
def shredG (g:GVal) (gap:Int):List GRec×Int :=
  if gap<1\/1000<gap then ([],1)
  else if sane g≠0 then ([],sane g)
  else ((shredV gap g 0 false emptyS 0).1,0)
set_option maxRecDepth 100000 in
set_option maxHeartbeats 1000000 in
theorem Shred_f (σ:Snap) (g:GVal) (r:List AT) (gap:Int) (hr:RepV σ g r) (hw:g.weight<=100000) :
    FnS Tryz.prog 39 [.agg r,.a (.v (.int .i64 gap))] σ [] (fun v _ A'=>∃ E,A'=[E]/\∃ ao cap,(shredG g gap).1.length<=cap/\E=rE ao (shredG g gap).1.length cap (shredG g gap).1/\v=.tuple #[.slice ao (shredG g gap).1.length cap,.int .i64 (shredG g gap).2]):=by
  obtain ⟨la,lc,lrows,ma,mc,vrows,rfl,V⟩:=hr.open
  refine enter_f Tryz.func39 rfl rfl (by (repeat' (first | exact trivial | exact vCells_lt _ _ _ _ _ _ | constructor))) fun w=>?_
  have bad:(gap<1\/1000<gap)->shredG g gap=([],1):=fun h=>by unfold shredG;rw [if_pos h]
  (repeat (first | refine cj_seq ?_ | refine cjr TT rfl ?_ | refine oj_then ?_))
  refine oj_split 10 rfl (fun h=>?_) (fun h=>?_)
  · have h1:gap<1:=of_decide_eq_true h
    rw [bad (.inl h1)]
    refine oj_run TT rfl ?_
    (repeat (first | refine cj_seq ?_ | refine cjr TT rfl ?_ | refine oj_then ?_ | refine cj_if_t rfl ?_ | refine cj_ret ?_ | refine nj_then_ret ?_))
    refine nj_nilarr 130 11 ?_
    refine nj_fret TT rfl fun β w' _ _=>?_
    exact ⟨_,rfl,none,0,Nat.le_refl _,rfl,rfl⟩
  have h1:¬ gap<1:=of_decide_eq_false h
  refine oj_run TT rfl ?_
  (repeat refine oj_then ?_)
  refine cj_if rfl (fun h=>?_) (fun h=>?_)
  · have h2:1000<gap:=of_decide_eq_true h
    rw [bad (.inr h2)]
    (repeat (first | refine cj_seq ?_ | refine cjr TT rfl ?_ | refine oj_then ?_ | refine cj_ret ?_ | refine nj_then_ret ?_))
    refine nj_nilarr 130 11 ?_
    refine nj_fret TT rfl fun β w' _ _=>?_
    exact ⟨_,rfl,none,0,Nat.le_refl _,rfl,rfl⟩
  have h2:¬ 1000<gap:=of_decide_eq_false h
  have e1:shredG g gap=if sane g≠0 then ([],sane g) else ((shredV gap g 0 false emptyS 0).1,0):=by unfold shredG;rw [if_neg (by omega)]
  rw [e1]
  (repeat (first | refine cj_seq ?_ | refine cjr TT rfl ?_ | refine cj_skip ?_ | refine nj_then ?_))
  refine oj_callP rfl rfl rfl rfl rfl Tryz.call60 (by (repeat' (first | exact trivial | exact vCells_lt _ _ _ _ _ _ | constructor))) (Sane_c σ g _ hr (by omega)) fun v hv=>⟨.a (.v (.int .i64 (sane g))),trivial,hv.symm,?_⟩
  refine oj_run TT rfl ?_
  (repeat (first | refine cj_seq ?_ | refine cjr TT rfl ?_ | refine oj_then ?_))
  refine cj_if rfl (fun h=>?_) (fun h=>?_)
  · have h3:sane g≠0:=by simpa using h
    rw [if_pos h3]
    (repeat (first | refine cj_seq ?_ | refine cjr TT rfl ?_ | refine oj_then ?_ | refine cj_ret ?_ | refine nj_then_ret ?_))
    refine nj_nilarr 130 11 ?_
    refine nj_fret TT rfl fun β w' _ _=>?_
    exact ⟨_,rfl,none,0,Nat.le_refl _,rfl,rfl⟩
  have h3:sane g=0:=by simpa using h
  rw [if_neg (by simp [h3])]
  (repeat (first | refine cj_seq ?_ | refine cjr TT rfl ?_ | refine oj_then ?_ | refine cj_skip ?_ | refine nj_then ?_))
  refine oj_own 1 1 3 rfl (by (repeat' (first | exact trivial | refine AllLt.of ?_ | constructor))) rfl (by decide) fun gs=>?_
  refine oj_nilarr 130 11 ?_
  refine oj_set 24 (.agg (recCells (rec0 0 false emptyS))) rfl (recCells_lt _ _) (fun _=>rfl) ?_
  refine oj_callF [0,1] (A0:=shA gs none 0 0 gap []) (Ar:=[]) rfl rfl rfl rfl rfl rfl rfl Tryz.call104 (by (repeat' (first | exact trivial | exact vCells_lt _ _ _ _ _ _ | refine AllLt.of ?_ | constructor))) (shredder_c g σ _ (rec0 0 false emptyS) gs none 0 0 gap [] V.rep (by omega) (by omega) (by omega) (by omega) (by simp;omega) (Int.le_refl _) (by show (0:Int)+_<=_;omega) (Nat.le_refl _)) fun v σ2 A2 hle2 ⟨hv,ao',cap',hcp',hA⟩=>⟨.tup [],(by (repeat' (first | exact trivial | refine SV.lt_tup ?_))),hv.symm,?_⟩
  subst hA
  rw [List.nil_append] at hcp' ⊢
  refine oj_run TT rfl ?_
  (repeat (first | refine cj_seq ?_ | refine cjr TT rfl ?_ | refine oj_then ?_))
  refine oj_ldA 0 (c:=.v (.slice ao' (shredV gap g 0 false emptyS 0).1.length cap')) TT rfl rfl rfl rfl rfl rfl rfl rfl rfl rfl rfl trivial (oj_run TT rfl ?_)
  (repeat (first | refine oj_then ?_ | refine cj_ret ?_))
  refine nj_re [1] rfl rfl ?_
  refine nj_fret TT rfl fun β w' _ _=>?_
  exact ⟨_,rfl,ao',cap',hcp',rfl,rfl⟩
theorem Shred_s (σ:Snap) (g:GVal) (r:List AT) (gap:Int) (hr:RepV σ g r) (hw:g.weight<=100000) :
    PureS Tryz.prog 39 [.agg r,.a (.v (.int .i64 gap))] σ (fun v σ'=>∃ ao cap,v=.tuple #[.slice ao (shredG g gap).1.length cap,.int .i64 (shredG g gap).2]/\SlAt σ' ao (shredG g gap).1.length cap 11 (recRows (shredG g gap).1)) :=
  (Shred_f σ g r gap hr hw).seal1 fun v _ _ E ⟨ao,cap,hc,hE,hv⟩ _ hS=>⟨ao,cap,hv,rE_sealed (by rw [<-hE];exact hS) hc⟩
end Go.Sy
/- What the program computes of records: nested, named, build. No program in sight. -/
namespace Go.Sy
def closeTo (lv:Int):List GRec->Int->Option (List GRec×Int)
  | [],last=>some ([],last)
  | t::ro,last=>if lv<(ro.length:Int)+1 then (if t.en<=last then none else closeTo lv ro t.en) else some (t::ro,last)
def closeAll:List GRec->Int->Bool
  | [],_=>true
  | t::ro,last=>if t.en<=last then false else closeAll ro t.en
def nestFrom:Nat->List GRec->Int->List GRec->Bool
  | _,ro,last,[]=>closeAll ro last
  | k,ro,last,r::l =>
    if r.lv<0\/(ro.length:Int)<r.lv\/(decide (r.lv=0) != decide ((k:Int)=0))=true then false
    else match closeTo r.lv ro last with
      | none=>false
      | some p=>if r.st<=p.2 then false else nestFrom (k+1) (r::p.1) r.st l
def nestedG (l:List GRec):Bool:=nestFrom 0 [] (-1) l&&decide (0<(l.length:Int))
def namedFrom:List Int->List GRec->Bool
  | _,[]=>true
  | op,r::l =>
    let o:=op.take r.lv.toNat
    if (r.nm != (o.getLast? == some 5))||(!r.nm&&!decide (r.name=⟨#[]⟩)) then false else namedFrom (o++[r.kd]) l
def namedG (l:List GRec):Bool:=namedFrom [] l
def levelsOk:Nat->List GRec->Prop
  | _,[]=>True
  | m,r::l=>0<=r.lv/\r.lv<=m/\levelsOk (r.lv.toNat+1) l
theorem closeTo_len:∀ (lv:Int) (ro:List GRec) (last:Int) (p:List GRec×Int),closeTo lv ro last=some p->0<=lv->lv<=ro.length->(p.1.length:Int)=lv
  | lv,[],last,p,h,h0,h1=>by
    simp only [closeTo,Option.some.injEq] at h
    subst h
    simp at h1 ⊢
    omega
  | lv,t::ro,last,p,h,h0,h1=>by
    simp only [closeTo] at h
    simp only [List.length_cons] at h1
    split at h
    · split at h
      · cases h
      · exact closeTo_len lv ro t.en p h h0 (by omega)
    · simp only [Option.some.injEq] at h
      subst h
      simp only [List.length_cons]
      omega
theorem nest_levels:∀ (l:List GRec) (k:Nat) (ro:List GRec) (last:Int),nestFrom k ro last l=true->levelsOk ro.length l
  | [],_,_,_,_=>trivial
  | r::l,k,ro,last,h=>by
    simp only [nestFrom] at h
    split at h
    · cases h
    · rename_i hc
      have h1:0<=r.lv/\r.lv<=ro.length:=by
        refine ⟨?_,?_⟩
        · exact Int.not_lt.1 fun hc'=>hc (.inl hc')
        · exact Int.not_lt.1 fun hc'=>hc (.inr (.inl hc'))
      split at h
      · cases h
      · rename_i p hp
        split at h
        · cases h
        · have:=nest_levels l _ _ _ h
          have hlen:=closeTo_len _ _ _ _ hp h1.1 h1.2
          refine ⟨h1.1,h1.2,?_⟩
          rw [show r.lv.toNat+1=(r::p.1).length by simp only [List.length_cons];omega]
          exact this
structure Kids where
  ls:List GVal
  ks:List ByteArray
  vs:List GVal
  rest:List GRec
def gval0:GVal:=.mk 0 false ⟨false,⟨#[]⟩,0⟩ ⟨#[]⟩ [] [] []
mutual
def buildN:Nat->List GRec->GVal×List GRec
  | 0,l=>(gval0,l)
  | _+1,[]=>(gval0,[])
  | n+1,r::l=>(.mk r.kd r.b r.n r.s (kidsN n r.lv l).ls (kidsN n r.lv l).ks (kidsN n r.lv l).vs,(kidsN n r.lv l).rest)
def kidsN:Nat->Int->List GRec->Kids
  | 0,_,l=>⟨[],[],[],l⟩
  | _+1,_,[]=>⟨[],[],[],[]⟩
  | n+1,lv,k::l =>
    if lv<k.lv then
      if k.nm then ⟨(kidsN n lv (buildN n (k::l)).2).ls,k.name::(kidsN n lv (buildN n (k::l)).2).ks,(buildN n (k::l)).1::(kidsN n lv (buildN n (k::l)).2).vs,(kidsN n lv (buildN n (k::l)).2).rest⟩
      else ⟨(buildN n (k::l)).1::(kidsN n lv (buildN n (k::l)).2).ls,(kidsN n lv (buildN n (k::l)).2).ks,(kidsN n lv (buildN n (k::l)).2).vs,(kidsN n lv (buildN n (k::l)).2).rest⟩
    else ⟨[],[],[],k::l⟩
end
def enough (l:List GRec):Nat:=2*l.length+2
def buildG (l:List GRec):GVal×List GRec:=buildN (enough l) l
mutual
theorem buildN_rest:∀ (n:Nat) (l:List GRec),2*l.length<=n->0<l.length->(buildN n l).2.length<l.length
  | 0,l,h,h0=>by omega
  | n+1,[],h,h0=>by simp at h0
  | n+1,r::l,h,h0=>by
    simp only [buildN,List.length_cons] at *
    have:=kidsN_rest n r.lv l (by omega)
    omega
theorem kidsN_rest:∀ (n:Nat) (lv:Int) (l:List GRec),2*l.length+1<=n+0->(kidsN n lv l).rest.length<=l.length
  | 0,_,l,h=>by simp [kidsN]
  | n+1,_,[],h=>by simp [kidsN]
  | n+1,lv,k::l,h=>by
    have h1:=buildN_rest n (k::l) (by simp only [List.length_cons] at *;omega) (by simp)
    have h2:=kidsN_rest n lv (buildN n (k::l)).2 (by simp only [List.length_cons] at *;omega)
    simp only [kidsN]
    split
    · split
      · simp only [];omega
      · simp only [];omega
    · simp
end
end Go.Sy
namespace Go.Sy
open Go.Proofs
def bE (gb:Nat) (ao:Option Addr) (n cap:Nat) (k:Int):AE:=⟨some ⟨gb,0,none⟩,1,1,255,2,[.slice ao n cap,.int .i64 k]⟩
def RecsFit (L:List GRec):Prop:=∀ r∈L,r.n.dg.size<=mostLen/\r.s.size<=mostLen/\r.name.size<=mostLen
structure BuS where
  σ:Snap
  m:Nat
  k:Nat
  ls:List GVal
  lr:List (List AT)
  la:Option Addr
  lc:Nat
  ks:List ByteArray
  vs:List GVal
  vr:List (List AT)
  ma:Option Addr
  mc:Nat
def buCells (r:GRec) (s:BuS):List AT:=[.v (.int .i64 r.kd),.b r.b,.b r.n.neg,.v (.string r.n.dg),.v (.int .i64 r.n.ex),.v (.string r.s),.v (.slice s.la s.ls.length s.lc),.v (.slice s.ma s.ks.length s.mc)]
def buA (gb:Nat) (ao:Option Addr) (n cap:Nat) (s:BuS):List AE:=[bE gb ao n cap s.k,⟨s.la,s.ls.length,s.lc,28,8,s.lr.flatten.map AT.val⟩,⟨s.ma,s.ks.length,s.mc,184,9,(keyRows s.ks s.vr).flatten.map AT.val⟩]
theorem keyRows_snoc:∀ (ks:List ByteArray) (rs:List (List AT)) (k:ByteArray) (r:List AT),ks.length=rs.length->keyRows (ks++[k]) (rs++[r])=keyRows ks rs++[keyRow k r]
  | [],[],_,_,_=>rfl
  | [],_::_,_,_,h=>by simp at h
  | _::_,[],_,_,h=>by simp at h
  | x::ks,y::rs,k,r,h=>by
    simp only [List.cons_append,keyRows,keyRows_snoc ks rs k r (by simpa using h)]
def zeroV:List AT:=[.v (.int .i64 0),.ff,.ff,.v (.string ⟨#[]⟩),.v (.int .i64 0),.v (.string ⟨#[]⟩),.v (.slice none 0 0),.v (.slice none 0 0)]
set_option maxRecDepth 100000 in
set_option maxHeartbeats 4000000 in
theorem builder_c (L:List GRec) (hF:RecsFit L) (hL:L.length<=100000) (ao:Option Addr) (cap:Nat):∀ (n:Nat) (σ:Snap) (k:Nat) (gb:Nat),SlAt σ ao L.length cap 11 (recRows L)->k<L.length->2*(L.drop k).length<=n ->
    FnS Tryz.prog 153 [.a (.v (.pointer (some ⟨gb,0,none⟩)))] σ [bE gb ao L.length cap k] (fun v σ' A'=>∃ r k',v=(SV.agg r).den β0/\RepV σ' (buildN n (L.drop k)).1 r/\L.drop k'=(buildN n (L.drop k)).2/\k<k'/\k'<=L.length/\A'=[bE gb ao L.length cap k']):=by
  intro n
  induction n using Nat.strongRecOn with | _ n ih=>?_
  intro σ k gb H hk hn
  have hdl:(L.drop k).length=L.length - k:=List.length_drop
  obtain ⟨n,rfl⟩:∃ m,n=m+1:=⟨n - 1,by omega⟩
  have hdc:L.drop k=L[k]::L.drop (k+1):=List.drop_eq_getElem_cons hk
  have hrow:(recRows L)[k]?=some (recCells L[k]):=recRows_get (List.getElem?_eq_getElem hk)
  have hfit:=hF _ (List.getElem_mem hk)
  have hcap:=H.ncap
  rw [hdc,buildN]
  generalize hx:L[k]=x at *
  dsimp only
  refine enter_f Tryz.func153 rfl rfl (by (repeat' (first | exact trivial | constructor))) fun w=>?_
  (repeat (first | refine cj_seq ?_ | refine cjr TT rfl ?_ | refine oj_then ?_))
  refine cj_draw [(0,.pure),(1,.pure),(2,.pure),(3,.quiet),(4,.pure),(5,.pure),(6,.pure),(7,.quiet),(8,.pure),(9,.quiet),(10,.keep),(11,.sink)] mixed (by kernel_rfl) (oj_run TT rfl ?_)
  refine oj_ldA 0 (c:=.v (.slice ao L.length cap)) TT rfl rfl rfl rfl rfl rfl rfl rfl rfl rfl rfl trivial (oj_run TT rfl ?_)
  refine oj_ldA 0 (c:=.v (.int .i64 k)) TT rfl rfl rfl rfl rfl rfl rfl rfl rfl rfl rfl trivial (oj_run TT rfl ?_)
  refine oj_idx TT rfl rfl rfl rfl rfl rfl rfl rfl rfl H (by omega) hrow (oj_run TT rfl ?_)
  (repeat (first | refine cj_seq ?_ | refine cjr TT rfl ?_ | refine oj_then ?_))
  refine oj_ldA 0 (c:=.v (.int .i64 k)) TT rfl rfl rfl rfl rfl rfl rfl rfl rfl rfl rfl trivial (oj_run TT rfl ?_)
  refine oj_add rfl rfl rfl rfl rfl rfl (by omega) (oj_run TT rfl ?_)
  refine oj_stA 0 (A':=[bE gb ao L.length cap ((k+1:Nat):Int)]) TT rfl rfl rfl rfl rfl rfl rfl rfl rfl rfl (by show 1<1*2;omega) trivial rfl rfl (oj_run TT rfl ?_)
  refine oj_nilarr 28 8 (oj_nilarr 184 9 ?_)
  (repeat (first | refine cj_seq ?_ | refine oj_then ?_ | refine cj_block ?_))
  refine cj_cutB (fun (s:BuS)=>s.σ) (fun _=>[(0,.a (.v (.pointer (some ⟨gb,0,none⟩)))),(2,.a (.p 0 0)),(4,.a (.p 3 0))])
    (fun s=>[(0,.loc 28,zeroV),(3,.loc 28,buCells x s)]) (buA gb ao L.length cap) 4
    (fun s=>σ.le s.σ/\s.ls=(kidsN n x.lv (L.drop (k+1))).ls/\s.ks=(kidsN n x.lv (L.drop (k+1))).ks/\s.vs=(kidsN n x.lv (L.drop (k+1))).vs/\L.drop s.k=(kidsN n x.lv (L.drop (k+1))).rest /\
      RepL s.σ s.ls s.lr/\RepL s.σ s.vs s.vr/\s.ks.length=s.vs.length/\k<s.k/\s.k<=L.length/\s.ls.length+s.ks.length<=L.length/\(∀ y∈s.ks,y.size<=mostLen)/\s.ls.length<=s.lc/\s.ks.length<=s.mc) ?_
    (fun s ⟨hs,e1,e2,e3,e4,hR1,hR2,hkv,hk1,hk2,hlen,hky,hc1,hc2⟩=>?_)
  · refine cj_loop (fun (s:BuS)=>s.σ) (fun _=>[(0,.a (.v (.pointer (some ⟨gb,0,none⟩)))),(2,.a (.p 0 0)),(3,.a (.p 2 0)),(4,.a (.p 3 0))])
      (fun s=>[(0,.loc 28,zeroV),(2,.loc 130,recCells x),(3,.loc 28,buCells x s)]) (buA gb ao L.length cap) 4
      (fun s=>σ.le s.σ/\s.ls++(kidsN s.m x.lv (L.drop s.k)).ls=(kidsN n x.lv (L.drop (k+1))).ls/\s.ks++(kidsN s.m x.lv (L.drop s.k)).ks=(kidsN n x.lv (L.drop (k+1))).ks/\s.vs++(kidsN s.m x.lv (L.drop s.k)).vs=(kidsN n x.lv (L.drop (k+1))).vs /\
        (kidsN s.m x.lv (L.drop s.k)).rest=(kidsN n x.lv (L.drop (k+1))).rest/\s.m<=n/\2*(L.drop s.k).length+1<=s.m /\
        RepL s.σ s.ls s.lr/\RepL s.σ s.vs s.vr/\s.ks.length=s.vs.length/\k<s.k/\s.k<=L.length/\s.ls.length+s.ks.length+(L.length - s.k)<=L.length/\(∀ y∈s.ks,y.size<=mostLen)/\s.ls.length<=s.lc/\s.ks.length<=s.mc)
      (fun s=>L.length - s.k) ⟨σ,n,k+1,[],[],none,0,[],[],[],none,0⟩ ⟨Snap.le_refl _,rfl,rfl,rfl,rfl,Nat.le_refl _,by dsimp only;rw [List.length_drop];omega,rfl,rfl,rfl,by dsimp only;omega,by dsimp only;omega,by dsimp only [List.length_nil];omega,fun y h=>(by cases h),Nat.le_refl _,Nat.le_refl _⟩
      rfl (by (repeat first | exact trivial | refine ⟨rfl,?_⟩)) (by (repeat first | exact trivial | refine ⟨rfl,?_⟩)) rfl (by (repeat' (first | exact trivial | exact Nat.le_of_ble_eq_true rfl | constructor))) (by (repeat' (first | exact trivial | exact Nat.le_of_ble_eq_true rfl | refine AllLt.of ?_ | constructor))) fun ⟨s,m,k1,ls,lr,la,lc,ks,vs,vr,ma,mc⟩ ⟨hs,e1,e2,e3,e4,hm,hm2,hR1,hR2,hkv,hk1,hk2,hlen,hky,hc1,hc2⟩=>?_
    dsimp only at hs e1 e2 e3 e4 hm hm2 hR1 hR2 hkv hk1 hk2 hlen hky hc1 hc2 ⊢
    obtain ⟨m,rfl⟩:∃ m',m=m'+1:=⟨m - 1,by omega⟩
    (repeat refine cj_seq ?_)
    refine cj_draw [(0,.pure),(1,.pure),(2,.pure),(3,.quiet),(4,.pure),(5,.pure),(6,.pure),(7,.quiet),(8,.pure),(9,.pure),(10,.pure),(11,.pure),(12,.pure),(13,.pure),(14,.quiet),(15,.pure),(16,.pure),(17,.pure),(18,.quiet),(19,.pure),(20,.pure),(21,.quiet),(22,.pure),(23,.quiet),(24,.pure),(25,.pure)] mixed (by kernel_rfl) (oj_run TT rfl ?_)
    refine oj_ldA 0 (c:=.v (.int .i64 k1)) TT rfl rfl rfl rfl rfl rfl rfl rfl rfl rfl rfl trivial (oj_run TT rfl ?_)
    refine oj_ldA 0 (c:=.v (.slice ao L.length cap)) TT rfl rfl rfl rfl rfl rfl rfl rfl rfl rfl rfl trivial (oj_run TT rfl ?_)
    refine oj_split 43 rfl (fun h=>?_) (fun h=>?_)
    rotate_left
    · have hk0:k1=L.length:=by have:=of_decide_eq_false h;omega
      subst hk0
      rw [List.drop_length,kidsN] at e1 e2 e3 e4
      simp only [List.append_nil] at e1 e2 e3
      refine oj_run TT rfl ?_
      (repeat (first | refine oj_then ?_ | refine cj_if_f rfl ?_ | refine cj_exit ?_ | refine nj_then_exit ?_ | refine nj_block_out ?_))
      refine nj_again ⟨s,m,L.length,ls,lr,la,lc,ks,vs,vr,ma,mc⟩ ⟨hs,e1,e2,e3,by dsimp only;rw [List.drop_length];exact e4,hR1,hR2,hkv,hk1,hk2,by dsimp only;omega,hky,hc1,hc2⟩ Nat.zero_lt_one rfl (by (repeat first | exact trivial | refine ⟨rfl,?_⟩)) (by (repeat first | exact trivial | refine ⟨rfl,?_⟩)) rfl (by (repeat' (first | exact trivial | exact Nat.le_of_ble_eq_true rfl | constructor))) (by (repeat' (first | exact trivial | exact Nat.le_of_ble_eq_true rfl | refine AllLt.of ?_ | constructor)))
    have hkl:k1<L.length:=by have:=of_decide_eq_true h;omega
    have hd1:L.drop k1=L[k1]::L.drop (k1+1):=List.drop_eq_getElem_cons hkl
    have hrow1:(recRows L)[k1]?=some (recCells L[k1]):=recRows_get (List.getElem?_eq_getElem hkl)
    have hfit1:=hF _ (List.getElem_mem hkl)
    generalize hy:L[k1]=y at *
    rw [hd1,kidsN] at e1 e2 e3 e4
    refine oj_run TT rfl ?_
    refine oj_ldA 0 (c:=.v (.slice ao L.length cap)) TT rfl rfl rfl rfl rfl rfl rfl rfl rfl rfl rfl trivial (oj_run TT rfl ?_)
    refine oj_ldA 0 (c:=.v (.int .i64 k1)) TT rfl rfl rfl rfl rfl rfl rfl rfl rfl rfl rfl trivial (oj_run TT rfl ?_)
    refine oj_idx TT rfl rfl rfl rfl rfl rfl rfl rfl rfl (H.mono hs) (by omega) hrow1 (oj_run TT rfl ?_)
    (repeat refine oj_then ?_)
    refine cj_if rfl (fun h=>?_) (fun h=>?_)
    rotate_left
    · have hlv:¬ x.lv<y.lv:=of_decide_eq_false h
      simp only [if_neg hlv,List.append_nil] at e1 e2 e3 e4
      (repeat (first | refine cj_exit ?_ | refine nj_then_exit ?_ | refine nj_block_out ?_))
      refine nj_again ⟨s,m,k1,ls,lr,la,lc,ks,vs,vr,ma,mc⟩ ⟨hs,e1,e2,e3,by dsimp only;rw [hd1];exact e4,hR1,hR2,hkv,hk1,hk2,by dsimp only;omega,hky,hc1,hc2⟩ Nat.zero_lt_one rfl (by (repeat first | exact trivial | refine ⟨rfl,?_⟩)) (by (repeat first | exact trivial | refine ⟨rfl,?_⟩)) rfl (by (repeat' (first | exact trivial | exact Nat.le_of_ble_eq_true rfl | constructor))) (by (repeat' (first | exact trivial | exact Nat.le_of_ble_eq_true rfl | refine AllLt.of ?_ | constructor)))
    have hlv:x.lv<y.lv:=of_decide_eq_true h
    rw [if_pos hlv] at e1 e2 e3 e4
    (repeat (first | refine cj_seq ?_ | refine cj_skip ?_ | refine cj_block ?_ | refine nj_then ?_))
    refine cj_draw [(0,.pure),(1,.pure),(2,.pure),(3,.quiet),(4,.pure),(5,.pure),(6,.pure),(7,.quiet),(8,.pure),(9,.quiet),(10,.keep),(11,.sink)] mixed (by kernel_rfl) (oj_run TT rfl ?_)
    refine oj_ldA 0 (c:=.v (.slice ao L.length cap)) TT rfl rfl rfl rfl rfl rfl rfl rfl rfl rfl rfl trivial (oj_run TT rfl ?_)
    refine oj_ldA 0 (c:=.v (.int .i64 k1)) TT rfl rfl rfl rfl rfl rfl rfl rfl rfl rfl rfl trivial (oj_run TT rfl ?_)
    refine oj_idx TT rfl rfl rfl rfl rfl rfl rfl rfl rfl (H.mono hs) (by omega) hrow1 (oj_run TT rfl ?_)
    (repeat (first | refine cj_seq ?_ | refine cjr TT rfl ?_ | refine oj_then ?_))
    have hdl1:(L.drop k1).length=L.length - k1:=List.length_drop
    refine oj_callF [0,1,2] (A0:=[bE gb ao L.length cap k1]) (Ar:=[⟨la,ls.length,lc,28,8,lr.flatten.map AT.val⟩,⟨ma,ks.length,mc,184,9,(keyRows ks vr).flatten.map AT.val⟩]) rfl rfl rfl rfl rfl rfl rfl Tryz.call153 (by (repeat' (first | exact trivial | constructor))) (ih m (by omega) s k1 gb (H.mono hs) hkl (by omega)) fun v σ2 A2 hle2 ⟨rr,k2,hv,hrep,hrest,hk12,hk2L,hA⟩=>⟨.agg rr,hrep.clo,hv.symm,?_⟩
    subst hA
    rw [hd1] at hrep hrest
    rw [<-hrest] at e1 e2 e3 e4
    generalize (buildN m (y::L.drop (k1+1))).1=gx at *
    obtain ⟨xla,xlc,xlrows,xma,xmc,xvrows,rfl,XV⟩:=hrep.open
    have hdl2:(L.drop k2).length=L.length - k2:=List.length_drop
    have hbr:=kidsN_rest
    have hs2:=Snap.le_trans hs hle2
    have hR1':=hR1.mono hle2
    have hR2':=hR2.mono hle2
    have hlr:=hR1.len
    have hvr:=hR2.len
    refine oj_run TT rfl ?_
    (repeat (first | refine cj_seq ?_ | refine cjr TT rfl ?_ | refine oj_then ?_))
    refine cj_if rfl (fun h=>?_) (fun h=>?_)
    · simp only [if_pos (show y.nm=true from h)] at e1 e2 e3 e4
      (repeat refine cjr TT rfl ?_)
      refine oj_append_lit TT 2 rfl rfl rfl rfl rfl rfl rfl rfl rfl rfl rfl rfl rfl rfl rfl rfl rfl rfl (by (repeat' (first | exact trivial | refine AllLt.of ?_ | constructor))) rfl (by omega) (by show (ks.length+1)*128<=_;omega) fun ao' cap' hcap'=>oj_run TT rfl ?_
      (repeat (first | refine oj_nil ?_ | refine nj_block ?_))
      refine nj_again ⟨σ2,m,k2,ls,lr,la,lc,ks++[y.name],vs++[gx],vr++[vCells gx xla xlc xma xmc],ao',cap'⟩
        ⟨hs2,e1,by rw [List.append_assoc];exact e2,by rw [List.append_assoc];exact e3,e4,by dsimp only;omega,by dsimp only;omega,hR1',RepL.append hR2' ⟨_,_,rfl,hrep,rfl⟩,by simp [hkv],by dsimp only;omega,hk2L,by dsimp only;rw [List.length_append,List.length_singleton];omega,
          fun z hz=>by
            rcases List.mem_append.1 hz with hz | hz
            · exact hky z hz
            · rw [List.mem_singleton.1 hz];exact hfit1.2.2,hc1,by dsimp only;rw [List.length_append];exact hcap'⟩ (by dsimp only;omega) rfl (by (repeat first | exact trivial | refine ⟨rfl,?_⟩)) ?_ ?_ (by (repeat' (first | exact trivial | exact Nat.le_of_ble_eq_true rfl | constructor))) (by (repeat' (first | exact trivial | exact Nat.le_of_ble_eq_true rfl | refine AllLt.of ?_ | constructor)))
      · refine ⟨rfl,rfl,?_,trivial⟩
        show some _=some _
        unfold buCells
        rw [List.length_append]
        rfl
      · unfold buA
        dsimp only
        rw [keyRows_snoc _ _ _ _ (by omega),List.length_append]
        simp only [List.flatten_append,List.map_append,List.flatten_cons,List.flatten_nil,List.append_nil]
        rfl
    · simp only [if_neg (show ¬ y.nm=true by simp [show y.nm=false from h])] at e1 e2 e3 e4
      (repeat refine cjr TT rfl ?_)
      refine oj_append_lit TT 1 rfl rfl rfl rfl rfl rfl rfl rfl rfl rfl rfl rfl rfl rfl rfl rfl rfl rfl (by (repeat' exact vCells_lt _ _ _ _ _ _)) rfl (by omega) (by show (ls.length+1)*112<=_;omega) fun ao' cap' hcap'=>oj_run TT rfl ?_
      (repeat (first | refine oj_nil ?_ | refine nj_block ?_))
      refine nj_again ⟨σ2,m,k2,ls++[gx],lr++[vCells gx xla xlc xma xmc],ao',cap',ks,vs,vr,ma,mc⟩
        ⟨hs2,by rw [List.append_assoc];exact e1,e2,e3,e4,by dsimp only;omega,by dsimp only;omega,RepL.append hR1' ⟨_,_,rfl,hrep,rfl⟩,hR2',hkv,by dsimp only;omega,hk2L,by dsimp only;rw [List.length_append,List.length_singleton];omega,
          hky,by dsimp only;rw [List.length_append];exact hcap',hc2⟩ (by dsimp only;omega) rfl (by (repeat first | exact trivial | refine ⟨rfl,?_⟩)) ?_ ?_ (by (repeat' (first | exact trivial | exact Nat.le_of_ble_eq_true rfl | constructor))) (by (repeat' (first | exact trivial | exact Nat.le_of_ble_eq_true rfl | refine AllLt.of ?_ | constructor)))
      · refine ⟨rfl,rfl,?_,trivial⟩
        show some _=some _
        unfold buCells
        rw [List.length_append]
        rfl
      · unfold buA
        dsimp only
        rw [List.length_append]
        simp only [List.flatten_append,List.map_append,List.flatten_cons,List.flatten_nil,List.append_nil]
        rfl
  obtain ⟨s,m,k1,ls,lr,la,lc,ks,vs,vr,ma,mc⟩:=s
  dsimp only at hs e1 e2 e3 e4 hR1 hR2 hkv hk1 hk2 hlen hky hc1 hc2 ⊢
  rw [<-e1,<-e2,<-e3,<-e4]
  clear e1 e2 e3 e4
  have hlr:=hR1.len
  have hvr:=hR2.len
  (repeat (first | refine cj_seq ?_ | refine cjr TT rfl ?_ | refine oj_then ?_ | refine cj_ret ?_))
  refine nj_seal 1 rfl rfl fun σ1 hle1 hS1=>?_
  refine nj_seal 1 rfl rfl fun σ2 hle2 hS2=>?_
  refine nj_fret TT rfl fun β w' _ _=>?_
  have S1:=(hS1.sl (rows:=lr) (sz:=8) rfl (fun r hr=>⟨(hR1.rows r hr).1,(hR1.rows r hr).2.1⟩) hlr rfl hc1).mono hle2
  have S2:=hS2.sl (rows:=keyRows ks vr) (sz:=9) (n:=ks.length) rfl (fun r hr=>?_) (keyRows_len (by omega)) rfl hc2
  · refine ⟨buCells x ⟨s,m,k1,ls,lr,la,lc,ks,vs,vr,ma,mc⟩,k1,rfl,?_,rfl,hk1,hk2,rfl⟩
    simp only [RepV]
    exact ⟨la,lc,lr,ma,mc,vr,rfl,S1,(hR1.mono hle1).mono hle2,hkv,S2,(hR2.mono hle1).mono hle2,hfit.1,hfit.2.1,by simp only [mostLen];omega,by simp only [mostLen];omega,hky⟩
  · obtain ⟨j,hj⟩:=List.getElem?_of_mem hr
    have hjl:=(List.getElem?_eq_some_iff.1 hj).1
    rw [keyRows_len (by omega)] at hjl
    have hg:=keyRows_get (List.getElem?_eq_getElem hjl) (List.getElem?_eq_getElem (l:=vr) (i:=j) (by omega))
    rw [hg] at hj
    injection hj with hj
    subst hj
    have:=hR2.rows _ (List.getElem_mem (l:=vr) (n:=j) (by omega))
    exact ⟨by simp [keyRow,this.1],keyRow_lt this.2.1⟩
end Go.Sy
namespace Go.Sy
open Go.Proofs
def intVs (l:List Int):List Value:=l.map fun x=>Value.int .i64 x
structure NmS where
  k:Nat
  op:List Int
  oo:Option Addr
  oc:Nat
def nmA (oo:Option Addr) (oc:Nat) (op:List Int):List AE:=[⟨oo,op.length,oc,3,1,intVs op⟩]
set_option maxRecDepth 100000 in
set_option maxHeartbeats 2000000 in
theorem named_c (σ:Snap) (L:List GRec) (hL:L.length<=100000) (ao:Option Addr) (cap:Nat) (H:SlAt σ ao L.length cap 11 (recRows L)) (hlv:levelsOk 0 L) :
    PlainS Tryz.prog 152 [.a (.v (.slice ao L.length cap))] σ (fun v=>v=.bool (namedG L)):=by
  refine enter_p Tryz.func152 rfl rfl (by (repeat' (first | exact trivial | constructor))) fun w=>?_
  refine cj_nilarr 3 1 ?_
  (repeat (first | refine cj_seq ?_ | refine cjr TT rfl ?_ | refine oj_then ?_ | refine cj_block ?_))
  refine cj_loop (fun _=>σ) (fun (s:NmS)=>[(3,.a (.v (.slice s.oo s.op.length s.oc))),(7,.a (.v (.slice ao L.length cap))),(8,.a (.v (.int .i64 L.length))),(9,.a (.v (.int .i64 s.k)))]) (fun _=>[]) (fun s=>nmA s.oo s.oc s.op) 0
    (fun s=>s.k<=L.length/\namedFrom s.op (L.drop s.k)=namedG L/\levelsOk s.op.length (L.drop s.k)/\s.op.length<=s.oc/\s.op.length<=s.k) (fun s=>L.length - s.k) ⟨0,[],none,0⟩ ⟨Nat.zero_le _,rfl,hlv,Nat.le_refl _,Nat.le_refl _⟩ rfl (by (repeat first | exact trivial | refine ⟨rfl,?_⟩)) (by (repeat first | exact trivial | refine ⟨rfl,?_⟩)) rfl (by (repeat' (first | exact trivial | constructor))) (by (repeat' exact trivial)) fun ⟨k,op,oo,oc⟩ ⟨hk,hnm,hlv,hc,hok⟩=>?_
  dsimp only at hk hnm hlv hc hok ⊢
  (repeat (first | refine cj_seq ?_ | refine cjr TT rfl ?_ | refine oj_then ?_))
  refine cj_if rfl (fun h=>?_) (fun h=>?_)
  rotate_left
  · have hk0:k=L.length:=by have:=of_decide_eq_false h;omega
    subst hk0
    rw [List.drop_length] at hnm
    (repeat (first | refine cj_seq ?_ | refine cjr TT rfl ?_ | refine oj_then ?_ | refine cj_exit ?_ | refine cj_ret ?_ | refine nj_then ?_ | refine nj_then_exit ?_ | refine nj_block_out ?_))
    refine nj_ret TT rfl fun β w' _ _=>?_
    rw [<-hnm]
    rfl
  have hkl:k<L.length:=by have:=of_decide_eq_true h;omega
  have hrow:(recRows L)[k]?=some (recCells L[k]):=recRows_get (List.getElem?_eq_getElem hkl)
  rw [List.drop_eq_getElem_cons hkl] at hnm hlv
  generalize L[k]=x at *
  obtain ⟨hlv1,hlv2,hlv3⟩:=hlv
  rw [namedFrom] at hnm
  obtain ⟨j,hj⟩:∃ j:Nat,x.lv=j:=⟨x.lv.toNat,by omega⟩
  rw [show x.lv.toNat=j by omega] at hnm hlv3
  have hjl:j<=op.length:=by omega
  (repeat (first | refine cj_seq ?_ | refine cjr TT rfl ?_ | refine cj_skip ?_ | refine cj_block ?_ | refine nj_then ?_))
  refine oj_idx TT rfl rfl rfl rfl rfl rfl rfl rfl rfl H (by omega) hrow (oj_run TT rfl ?_)
  (repeat (first | refine cj_seq ?_ | refine cjr TT rfl ?_ | refine oj_then ?_))
  refine oj_slice_to TT j rfl rfl rfl rfl rfl rfl rfl rfl rfl hj (by omega) hc (oj_run TT rfl ?_)
  have hl1:(op.take j).length=j:=by rw [List.length_take];omega
  have hcut:[(⟨oo,op.length,oc,3,1,intVs op⟩:AE)].set 0 (AE.cut ⟨oo,op.length,oc,3,1,intVs op⟩ j)=nmA oo oc (op.take j):=by
    show [_]=[_]
    rw [hl1]
    simp [AE.cut,intVs,List.map_take]
  refine oj_cutArr 0 j rfl rfl hjl hcut ?_
  generalize op.take j=o at *
  subst hl1
  refine oj_then ?_
  refine cj_cut (α:=Unit) (fun _=>σ) (fun _=>[(3,.a (.v (.slice oo o.length oc))),(5,.a (.p 1 0)),(6,.a (.b (o.getLast? == some 5))),(7,.a (.v (.slice ao L.length cap))),(8,.a (.v (.int .i64 L.length))),(9,.a (.v (.int .i64 k)))])
    (fun _=>[(1,.loc 130,recCells x)]) (fun _=>nmA oo oc o) 2 (fun _=>True) ?_ (fun _ _=>?_)
  · (repeat refine cjr TT rfl ?_)
    refine oj_split 20 rfl (fun h=>?_) (fun h=>?_)
    · have hpos:0<o.length:=by have:=of_decide_eq_true h;omega
      have hlast:o.getLast?=some o[o.length - 1]:=by rw [List.getLast?_eq_getElem?,List.getElem?_eq_getElem]
      refine oj_arrAt 0 (E:=⟨oo,o.length,oc,3,1,intVs o⟩) rfl hpos fun g1 hg1=>?_
      have hg1:oo=some ⟨g1,0,none⟩:=hg1
      subst hg1
      refine oj_run TT rfl ?_
      refine oj_minus rfl rfl rfl rfl rfl rfl (by omega) (oj_run TT rfl ?_)
      refine oj_indexAddr TT rfl rfl rfl rfl rfl rfl rfl rfl rfl ⟨by omega,by omega⟩ (oj_run TT rfl ?_)
      refine oj_ldA 0 (off:=o.length - 1) (c:=.v (.int .i64 o[o.length - 1])) TT rfl rfl rfl rfl rfl ?_ rfl rfl rfl rfl ?_ trivial (oj_run TT rfl ?_)
      · show some (SV.a (AT.v (.pointer (some (Addr.add ⟨g1,0,none⟩ (((o.length:Int) - 1).toNat*1))))))=_
        rw [add0,show ((o.length:Int) - 1).toNat*1=o.length - 1 by omega]
      · show (intVs o)[o.length - 1]?=_
        unfold intVs
        rw [List.getElem?_map,List.getElem?_eq_getElem (by omega)]
        rfl
      (repeat refine oj_nil ?_)
      refine nj_set 6 (.a (.b (o.getLast? == some 5))) rfl trivial (fun β=>?_) ?_
      · show Value.bool _=Value.bool _
        congr 1
        rw [hlast,Bool.eq_iff_iff]
        simp
      refine nj_again () trivial Nat.zero_lt_one rfl (by (repeat first | exact trivial | refine ⟨rfl,?_⟩)) (by (repeat first | exact trivial | refine ⟨rfl,?_⟩)) rfl (by (repeat' (first | exact trivial | exact Nat.le_of_ble_eq_true rfl | constructor))) (by (repeat' (first | exact trivial | exact Nat.le_of_ble_eq_true rfl | refine AllLt.of ?_ | constructor)))
    · have h0:o=[]:=by
        have:=of_decide_eq_false h
        exact List.eq_nil_of_length_eq_zero (by omega)
      subst h0
      refine oj_run TT rfl ?_
      (repeat refine oj_nil ?_)
      refine nj_set 6 (.a (.b (([]:List Int).getLast? == some 5))) rfl trivial (fun β=>rfl) ?_
      refine nj_again () trivial Nat.zero_lt_one rfl (by (repeat first | exact trivial | refine ⟨rfl,?_⟩)) (by (repeat first | exact trivial | refine ⟨rfl,?_⟩)) rfl (by (repeat' (first | exact trivial | exact Nat.le_of_ble_eq_true rfl | constructor))) (by (repeat' (first | exact trivial | exact Nat.le_of_ble_eq_true rfl | refine AllLt.of ?_ | constructor)))
  have go:∀ (e:(x.nm != (o.getLast? == some 5))=false) (e2:(!x.nm&&!decide (x.name=⟨#[]⟩))=false),namedFrom (o++[x.kd]) (L.drop (k+1))=namedG L:=fun e e2=>by
    rw [e,e2] at hnm
    exact hnm
  (repeat (first | refine cj_seq ?_ | refine cjr TT rfl ?_))
  refine oj_split 33 rfl (fun h=>?_) (fun h=>?_)
  · refine oj_run TT rfl ?_
    (repeat (first | refine cj_seq ?_ | refine cjr TT rfl ?_ | refine oj_then ?_ | refine cj_if_t rfl ?_ | refine cj_ret ?_ | refine nj_then_ret ?_ | refine nj_block_ret ?_))
    refine nj_ret TT rfl fun β w' _ _=>?_
    have h:(x.nm != (o.getLast? == some 5))=true:=h
    rw [h,Bool.true_or,if_pos rfl] at hnm
    rw [<-hnm]
    rfl
  have h1:(x.nm != (o.getLast? == some 5))=false:=h
  refine oj_run TT rfl ?_
  refine oj_split 37 rfl (fun h=>?_) (fun h=>?_)
  · have h2:(!x.nm)=true:=h
    refine oj_run TT rfl ?_
    (repeat refine oj_then ?_)
    refine cj_if rfl (fun h=>?_) (fun h=>?_)
    · have h3:(!decide (x.name=⟨#[]⟩))=true:=h
      (repeat (first | refine cj_seq ?_ | refine cjr TT rfl ?_ | refine oj_then ?_ | refine cj_ret ?_ | refine nj_then_ret ?_ | refine nj_block_ret ?_))
      refine nj_ret TT rfl fun β w' _ _=>?_
      rw [h1,h2,h3,Bool.true_and,Bool.or_true,if_pos rfl] at hnm
      rw [<-hnm]
      rfl
    · have h3:(!decide (x.name=⟨#[]⟩))=false:=h
      have hnx:=go h1 (by rw [h3,Bool.and_false])
      (repeat (first | refine cjr TT rfl ?_ | refine cj_skip ?_ | refine nj_then ?_))
      refine oj_append_lit TT 0 rfl rfl rfl rfl rfl rfl rfl rfl rfl rfl rfl rfl rfl rfl rfl rfl rfl rfl (by (repeat' (first | exact trivial | refine AllLt.of ?_ | constructor))) rfl (by omega) (by show (o.length+1)*8<=_;omega) fun ao' cap' hcap'=>oj_run TT rfl ?_
      (repeat (first | refine cjr TT rfl ?_ | refine oj_nil ?_ | refine nj_then ?_ | refine nj_block ?_ | (refine oj_add rfl rfl rfl rfl rfl rfl (by omega) ?_;refine oj_run TT rfl ?_)))
      refine nj_again ⟨k+1,o++[x.kd],ao',cap'⟩ ⟨hkl,hnx,by dsimp only;rw [List.length_append];exact hlv3,by dsimp only;rw [List.length_append];exact hcap',by dsimp only;rw [List.length_append,List.length_singleton];omega⟩ (by dsimp only;omega) rfl ?_ (by (repeat first | exact trivial | refine ⟨rfl,?_⟩)) ?_ (by (repeat' (first | exact trivial | constructor))) (by (repeat' exact trivial))
      · refine ⟨?_,rfl,rfl,rfl,trivial⟩
        dsimp only
        rw [List.length_append]
        rfl
      · unfold nmA
        dsimp only
        rw [List.length_append]
        simp only [intVs,List.map_append]
        rfl
  · have h2:(!x.nm)=false:=h
    have hnx:=go h1 (by rw [h2,Bool.false_and])
    refine oj_run TT rfl ?_
    (repeat (first | refine cjr TT rfl ?_ | refine oj_then ?_ | refine cj_if_f rfl ?_ | refine cj_skip ?_ | refine nj_then ?_))
    refine oj_append_lit TT 0 rfl rfl rfl rfl rfl rfl rfl rfl rfl rfl rfl rfl rfl rfl rfl rfl rfl rfl (by (repeat' (first | exact trivial | refine AllLt.of ?_ | constructor))) rfl (by omega) (by show (o.length+1)*8<=_;omega) fun ao' cap' hcap'=>oj_run TT rfl ?_
    (repeat (first | refine cjr TT rfl ?_ | refine oj_nil ?_ | refine nj_then ?_ | refine nj_block ?_ | (refine oj_add rfl rfl rfl rfl rfl rfl (by omega) ?_;refine oj_run TT rfl ?_)))
    refine nj_again ⟨k+1,o++[x.kd],ao',cap'⟩ ⟨hkl,hnx,by dsimp only;rw [List.length_append];exact hlv3,by dsimp only;rw [List.length_append];exact hcap',by dsimp only;rw [List.length_append,List.length_singleton];omega⟩ (by dsimp only;omega) rfl ?_ (by (repeat first | exact trivial | refine ⟨rfl,?_⟩)) ?_ (by (repeat' (first | exact trivial | constructor))) (by (repeat' exact trivial))
    · refine ⟨?_,rfl,rfl,rfl,trivial⟩
      dsimp only
      rw [List.length_append]
      rfl
    · unfold nmA
      dsimp only
      rw [List.length_append]
      simp only [intVs,List.map_append]
      rfl
end Go.Sy
namespace Go.Sy
open Go.Proofs
set_option maxRecDepth 100000 in
set_option maxHeartbeats 1000000 in
theorem backward_c (σ:Snap) (ao:Option Addr) (n cap:Nat) :
    PureS Tryz.prog 209 [.a (.v (.slice ao n cap))] σ (fun v σ'=>∃ g,v=.func (.func 233) #[] #[.pointer (some ⟨g,0,none⟩)]/\σ'.cell ⟨g,0,none⟩=some (.slice ao n cap)):=by
  refine enter_s Tryz.func209 rfl rfl (by (repeat' (first | exact trivial | constructor))) fun w=>?_
  (repeat (first | refine cj_seq ?_ | refine cjr TT rfl ?_ | refine oj_then ?_ | refine cj_ret ?_))
  refine nj_own 0 1 1 rfl (by (repeat' (first | exact trivial | refine AllLt.of ?_ | constructor))) rfl (by decide) fun g=>?_
  refine nj_seal 0 rfl rfl fun σ' hle hS=>?_
  refine nj_ret TT rfl fun β w' _ _=>?_
  refine ⟨g,rfl,?_⟩
  rcases hS with ⟨h1,_⟩ | ⟨g',h1,h2⟩
  · cases h1
  · injection h1 with h1
    simp only [Addr.mk.injEq,and_true] at h1
    subst h1
    exact h2 0 _ rfl
set_option maxRecDepth 100000 in
set_option maxHeartbeats 1000000 in
theorem backwardIt_c (σ:Snap) (l:Nat) (r:Loop) (g:Nat) (ao:Option Addr) (cap:Nat) (L:List GRec) (hL:L.length<=100000) (E1 E2:AE) (Inv:Nat->AE->AE->Prop) (Stop:Snap->AE->AE->Prop)
    (hl:σ l=some (.loop r)) (hp:Nat.beq 2 r.params.size=true) (hg:σ.cell ⟨g,0,none⟩=some (.slice ao L.length cap)) (H:SlAt σ ao L.length cap 11 (recRows L)) (h0:Inv L.length E1 E2)
    (hround:∀ (k:Nat) (hk:k<L.length) (s:Snap) (F1 F2:AE),s l=some (.loop r)->σ.leB l s->Inv (k+1) F1 F2->RoundC Tryz.prog l r (([.a (.v (.int .i64 k)),.agg (recCells L[k])]:List SV).map (SV.den β0)).toArray s [F1,F2] (fun v s' A'=>∃ G1 G2,A'=[G1,G2] /\
      ((v=.bool true/\s' l=some (.loop r)/\Inv k G1 G2)\/(v=.bool false/\Stop s' G1 G2)))) :
    IterC Tryz.prog 233 (([.a (.fn (.yield l) []),.a (.v (.pointer (some ⟨g,0,none⟩)))]:List SV).map (SV.den β0)).toArray l σ [E1,E2] (fun _ s' A'=>∃ G1 G2,A'=[G1,G2]/\((s' l=some (.loop r)/\Inv 0 G1 G2)\/Stop s' G1 G2)):=by
  refine enter_it Tryz.func233 rfl rfl ⟨SV.lt_fn0,trivial,trivial⟩ fun w=>?_
  (repeat (first | refine cj_seq ?_ | refine cjr TT rfl ?_))
  refine oj_ldS (c:=.v (.slice ao L.length cap)) TT rfl rfl rfl rfl rfl rfl rfl rfl hg trivial (oj_run TT rfl ?_)
  (repeat (first | refine oj_then ?_ | refine cj_block ?_ | (refine oj_minus rfl rfl rfl rfl rfl rfl (by omega) ?_;refine oj_run TT rfl ?_)))
  refine cj_loop (fun (p:Snap×Nat×AE×AE)=>p.1) (fun p=>[(0,.a (.fn (.yield l) [])),(1,.a (.v (.pointer (some ⟨g,0,none⟩)))),(3,.a (.v (.int .i64 (p.2.1 - 1))))]) (fun _=>[]) (fun p=>[p.2.2.1,p.2.2.2]) 0
    (fun p=>p.2.1<=L.length/\p.1 l=some (.loop r)/\σ.leB l p.1/\Inv p.2.1 p.2.2.1 p.2.2.2) (fun p=>p.2.1) (σ,L.length,E1,E2) ⟨Nat.le_refl _,hl,fun b o h=>?_,h0⟩ rfl (by (repeat first | exact trivial | refine ⟨rfl,?_⟩)) (by (repeat first | exact trivial | refine ⟨rfl,?_⟩)) rfl ⟨SV.lt_fn0,trivial,trivial,trivial⟩ (by (repeat' exact trivial)) fun ⟨s,m,F1,F2⟩ ⟨hm,hsl,hs,hI⟩=>?_
  · by_cases hb:b=l
    · subst hb;rw [Snap.set_self] at h;cases h
    · rw [Snap.set_ne hb] at h;exact h
  dsimp only at hm hsl hs hI ⊢
  (repeat (first | refine cj_seq ?_ | refine cjr TT rfl ?_ | refine oj_then ?_))
  refine cj_if rfl (fun h=>?_) (fun h=>?_)
  rotate_left
  · have hm0:m=0:=by have:=of_decide_eq_false h;omega
    subst hm0
    (repeat (first | refine cj_exit ?_ | refine nj_then_exit ?_ | refine nj_block_out ?_))
    refine nj_iend TT rfl fun β=>?_
    exact ⟨F1,F2,rfl,.inl ⟨hsl,hI⟩⟩
  obtain ⟨k,rfl⟩:∃ k,m=k+1:=⟨m - 1,by have:=of_decide_eq_true h;omega⟩
  have hrow:(recRows L)[k]?=some (recCells L[k]):=recRows_get (List.getElem?_eq_getElem hm)
  refine cj_set 3 (.a (.v (.int .i64 k))) rfl trivial (fun β=>?_) ?_
  · show Value.int .i64 (((k+1:Nat):Int) - 1)=_
    congr 1
    omega
  (repeat (first | refine cj_seq ?_ | refine cjr TT rfl ?_ | refine cj_skip ?_ | refine cj_block ?_ | refine nj_then ?_))
  refine oj_ldS (c:=.v (.slice ao L.length cap)) TT rfl rfl rfl rfl rfl rfl rfl rfl (hs.cle hl _ _ hg) trivial (oj_run TT rfl ?_)
  refine oj_idx TT rfl rfl rfl rfl rfl rfl rfl rfl rfl (H.monoC (hs.cle hl)) (by omega) hrow (oj_run TT rfl ?_)
  refine oj_yield [0,1] (A0:=[F1,F2]) (Ar:=[]) hsl (Snap.set_self ..) rfl rfl rfl hp rfl rfl rfl rfl ⟨trivial,recCells_lt _ _,trivial⟩ (hround k hm s F1 F2 hsl hs hI) fun v s' A' hle ⟨G1,G2,hA,hv⟩=>?_
  subst hA
  have hs':σ.leB l s':=fun b o h=>by
    have hb:b≠l:=fun e=>by subst e;rw [Snap.set_self] at h;cases h
    rw [Snap.set_ne hb] at h
    exact hle.at_ hb (hs.at_ hb h)
  rcases hv with ⟨hv,hsl',hI'⟩ | ⟨hv,hst⟩
  · refine ⟨.a .tt,trivial,hv.symm,oj_run TT rfl ?_⟩
    (repeat (first | refine cjr TT rfl ?_ | refine oj_then ?_ | refine oj_nil ?_ | refine cj_if_f rfl ?_ | refine cj_skip ?_ | refine nj_then ?_ | refine nj_block ?_ | (refine oj_minus rfl rfl rfl rfl rfl rfl (by omega) ?_;refine oj_run TT rfl ?_)))
    refine nj_again (s',k,G1,G2) ⟨by dsimp only;omega,hsl',hs',hI'⟩ (Nat.lt_succ_self k) rfl (by (repeat first | exact trivial | refine ⟨rfl,?_⟩)) (by (repeat first | exact trivial | refine ⟨rfl,?_⟩)) rfl ⟨SV.lt_fn0,trivial,trivial,trivial⟩ (by (repeat' exact trivial))
  · refine ⟨.a .ff,trivial,hv.symm,oj_run TT rfl ?_⟩
    (repeat (first | refine oj_then ?_ | refine cj_if_t rfl ?_ | refine cj_ret ?_ | refine nj_then_ret ?_ | refine nj_block_ret ?_))
    refine nj_iret TT rfl fun β=>?_
    exact ⟨G1,G2,rfl,.inr hst⟩
end Go.Sy
