/- Parts of the proof of CEditsAre: Lc, F22, F23, F24, Ld, F25, SyS, F26, F33, Lf, Lj, Lk, SyW. No conditions. -/
import Derived.Test.YtadnijcgohflhaaGreatDoorM6
/- Plain laws about the shred as a list: whose records stand under whose. -/
namespace Go.Sy
def se (r:GRec):Int×Int:=(r.st,r.en)
abbrev Sk:=List (Int×Int)
def runP (en:Int):Sk->Nat
  | []=>0
  | x::l=>if x.1<en then runP en l+1 else 0
def kidsP (S:Sk) (en:Int):Nat->Nat->List Nat
  | 0,_=>[]
  | n+1,k=>match S[k]? with
    | none=>[]
    | some x=>if x.1<en then k::kidsP S en n (k+1+runP x.2 (S.drop (k+1))) else []
def kidsAt (S:Sk) (i:Nat):List Nat:=kidsP S ((S[i]?.map (·.2)).getD 0) S.length (i+1)
theorem runL_se (en:Int):∀ l:List GRec,runL en l=runP en (l.map se)
  | []=>rfl
  | r::l=>by simp only [runL,List.map_cons,runP,runL_se en l,se]
theorem kidsF_se (L:List GRec) (en:Int):∀ n k,kidsF L en n k=kidsP (L.map se) en n k
  | 0,_=>rfl
  | n+1,k=>by
    unfold kidsF kidsP
    by_cases h:k<L.length
    · rw [dif_pos h,List.getElem?_map,List.getElem?_eq_getElem h]
      simp only [Option.map_some,se,runK,runL_se,List.map_drop,kidsF_se L en n]
    · rw [dif_neg h,List.getElem?_map,List.getElem?_eq_none (by omega)]
      rfl
theorem kidsG_se (L:List GRec) (i:Nat):kidsG L i=kidsAt (L.map se) i:=by
  unfold kidsG kidsAt
  rw [kidsF_se,List.length_map,List.getElem?_map,Option.map_map]
  rfl
mutual
def wV (gap:Int):GVal->Int
  | .mk _ _ _ _ l _ vs=>gap+(wL gap l+wL gap vs)+gap
def wL (gap:Int):List GVal->Int
  | []=>0
  | g::gs=>wV gap g+wL gap gs
end
mutual
def skV (gap:Int):GVal->Int->Sk
  | .mk _ _ _ _ l _ vs,now=>(now+gap,now+(gap+(wL gap l+wL gap vs)+gap))::(skL gap l (now+gap)++skL gap vs (now+gap+wL gap l))
def skL (gap:Int):List GVal->Int->Sk
  | [],_=>[]
  | g::gs,now=>skV gap g now++skL gap gs (now+wV gap g)
end
theorem wL_append (gap:Int):∀ a b:List GVal,wL gap (a++b)=wL gap a+wL gap b
  | [],b=>by simp [wL]
  | g::a,b=>by simp only [List.cons_append,wL,wL_append gap a b];omega
theorem skL_append (gap:Int):∀ (a b:List GVal) (now:Int),skL gap (a++b) now=skL gap a now++skL gap b (now+wL gap a)
  | [],b,now=>by simp [skL,wL]
  | g::a,b,now=>by
    simp only [List.cons_append,skL,wL,skL_append gap a b,List.append_assoc]
    congr 3
    omega
theorem skV_eq (gap:Int) (g:GVal) (now:Int):skV gap g now=(now+gap,now+wV gap g)::skL gap (g.l++g.vs) (now+gap):=by
  cases g
  rw [skL_append]
  simp only [skV,wV,GVal.l,GVal.vs]
theorem wV_eq (gap:Int) (g:GVal):wV gap g=gap+wL gap (g.l++g.vs)+gap:=by
  cases g
  rw [wL_append]
  simp only [wV,GVal.l,GVal.vs]
mutual
theorem shredV_sk (gap:Int):∀ (g:GVal) (lv:Int) (nm:Bool) (name:ByteArray) (now:Int),g.wf->(shredV gap g lv nm name now).1.map se=skV gap g now/\(shredV gap g lv nm name now).2=now+wV gap g
  | .mk k b n s l ks vs,lv,nm,name,now,h=>by
    simp only [GVal.wf] at h
    obtain ⟨h1,h2⟩:=shredL_sk gap l (lv+1) (now+gap) h.2.1
    obtain ⟨h3,h4⟩:=shredM_sk gap vs ks (lv+1) (shredL gap l (lv+1) (now+gap)).2 h.1 h.2.2
    rw [h2] at h3 h4
    simp only [shredV,skV,wV,List.map_cons,List.map_append,h2,h3,h4,h1,se]
    refine ⟨?_,by omega⟩
    congr 2
    omega
theorem shredL_sk (gap:Int):∀ (gs:List GVal) (lv now:Int),GVal.wfs gs->(shredL gap gs lv now).1.map se=skL gap gs now/\(shredL gap gs lv now).2=now+wL gap gs
  | [],lv,now,_=>by simp [shredL,skL,wL]
  | g::gs,lv,now,h=>by
    simp only [GVal.wfs] at h
    obtain ⟨h1,h2⟩:=shredV_sk gap g lv false ⟨#[]⟩ now h.1
    obtain ⟨h3,h4⟩:=shredL_sk gap gs lv (shredV gap g lv false ⟨#[]⟩ now).2 h.2
    rw [h2] at h3 h4
    simp only [shredL,skL,wL,List.map_append,h1,h2,h3,h4]
    exact ⟨trivial,by omega⟩
theorem shredM_sk (gap:Int):∀ (gs:List GVal) (ks:List ByteArray) (lv now:Int),ks.length=gs.length->GVal.wfs gs->(shredM gap gs ks lv now).1.map se=skL gap gs now/\(shredM gap gs ks lv now).2=now+wL gap gs
  | [],ks,lv,now,_,_=>by simp [shredM,skL,wL]
  | g::gs,[],lv,now,h,_=>by simp at h
  | g::gs,k::ks,lv,now,h,h'=>by
    simp only [GVal.wfs] at h'
    obtain ⟨h1,h2⟩:=shredV_sk gap g lv true k now h'.1
    obtain ⟨h3,h4⟩:=shredM_sk gap gs ks lv (shredV gap g lv true k now).2 (by simpa using h) h'.2
    rw [h2] at h3 h4
    simp only [shredM,skL,wL,List.map_append,h1,h2,h3,h4]
    exact ⟨trivial,by omega⟩
end
mutual
theorem wV_pos {gap:Int} (hg:0<gap):∀ g:GVal,0<wV gap g
  | .mk _ _ _ _ l _ vs=>by
    simp only [wV]
    have:=wL_nn hg l
    have:=wL_nn hg vs
    omega
theorem wL_nn {gap:Int} (hg:0<gap):∀ gs:List GVal,0<=wL gap gs
  | []=>by simp [wL]
  | g::gs=>by
    simp only [wL]
    have:=wV_pos hg g
    have:=wL_nn hg gs
    omega
end
mutual
theorem skV_bd {gap:Int} (hg:0<gap):∀ (g:GVal) (now:Int),∀ x∈skV gap g now,now<x.1/\x.1<x.2/\x.2<=now+wV gap g
  | .mk k b n s l ks vs,now,x,hx=>by
    have h1:=wL_nn hg l
    have h2:=wL_nn hg vs
    simp only [skV,wV] at hx ⊢
    rcases List.mem_cons.1 hx with rfl | hx
    · dsimp only;omega
    rcases List.mem_append.1 hx with hx | hx
    · have:=skL_bd hg l _ x hx;omega
    · have:=skL_bd hg vs _ x hx;omega
theorem skL_bd {gap:Int} (hg:0<gap):∀ (gs:List GVal) (now:Int),∀ x∈skL gap gs now,now<x.1/\x.1<x.2/\x.2<=now+wL gap gs
  | [],now,x,hx=>by simp [skL] at hx
  | g::gs,now,x,hx=>by
    have h1:=wV_pos hg g
    have h2:=wL_nn hg gs
    simp only [skL,wL] at hx ⊢
    rcases List.mem_append.1 hx with hx | hx
    · have:=skV_bd hg g _ x hx;omega
    · have:=skL_bd hg gs _ x hx;omega
end
mutual
theorem skV_len (gap:Int):∀ (g:GVal) (now:Int),(skV gap g now).length=cntV g
  | .mk k b n s l ks vs,now=>by
    simp only [skV,cntV,List.length_cons,List.length_append,skL_len gap l,skL_len gap vs]
    omega
theorem skL_len (gap:Int):∀ (gs:List GVal) (now:Int),(skL gap gs now).length=cntL gs
  | [],now=>by simp [skL,cntL]
  | g::gs,now=>by simp only [skL,cntL,List.length_append,skV_len gap g,skL_len gap gs]
end
def front (en:Int) (rest:Sk):Prop:=∀ x,rest.head?=some x->en<=x.1
theorem runP_block {en:Int} {rest:Sk} (hr:front en rest):∀ B:Sk,(∀ x∈B,x.1<en)->runP en (B++rest)=B.length
  | [],_=>by
    cases rest with
    | nil=>rfl
    | cons x l =>
      have:=hr x rfl
      simp only [List.nil_append,runP,List.length_nil]
      rw [if_neg (by omega)]
  | x::B,h=>by
    simp only [List.cons_append,runP,List.length_cons]
    rw [if_pos (h x List.mem_cons_self),runP_block hr B fun y hy=>h y (List.mem_cons_of_mem _ hy)]
def pos:List GVal->Nat->List Nat
  | [],_=>[]
  | g::gs,p=>p::pos gs (p+cntV g)
theorem drop_at {S:Sk} {p:Nat} {x:Int×Int} {T:Sk} (h:S.drop p=x::T):S[p]?=some x/\S.drop (p+1)=T:=by
  constructor
  · have:(S.drop p)[0]?=some x:=by rw [h];rfl
    simpa using this
  · rw [<-List.drop_drop,h]
    rfl
theorem drop_blk {S B T:Sk} {p:Nat} (h:S.drop p=B++T):S.drop (p+B.length)=T:=by
  rw [<-List.drop_drop,h,List.drop_left]
theorem cntV_pos (g:GVal):0<cntV g:=by rw [cntV_eq];omega
theorem front_skL {gap:Int} (hg:0<gap) {en now:Int} {rest:Sk} (gs:List GVal) (hr:front en rest) (he:now+wL gap gs<=en):front now (skL gap gs now++rest):=by
  intro x hx
  cases gs with
  | nil =>
    have:=hr x (by simpa [skL] using hx)
    simp only [wL] at he
    omega
  | cons g gs =>
    simp only [skL,skV_eq,List.cons_append,List.head?_cons,Option.some.injEq] at hx
    subst hx
    dsimp only
    omega
theorem kidsP_pos {gap:Int} (hg:0<gap) {S:Sk} {en:Int} {rest:Sk} (hr:front en rest):∀ (gs:List GVal) (p:Nat) (now:Int) (n:Nat),S.drop p=skL gap gs now++rest->now+wL gap gs<=en->gs.length<n ->
    kidsP S en n p=pos gs p
  | [],p,now,n,h,he,hn=>by
    obtain ⟨n,rfl⟩:∃ m,n=m+1:=⟨n - 1,by simp at hn;omega⟩
    unfold kidsP pos
    cases hx:S[p]? with
    | none=>rfl
    | some x =>
      have h0:(S.drop p)[0]?=some x:=by simpa using hx
      rw [h] at h0
      have:=hr x (by rw [List.head?_eq_getElem?];simpa [skL] using h0)
      dsimp only
      rw [if_neg (by omega)]
  | g::gs,p,now,n,h,he,hn=>by
    obtain ⟨n,rfl⟩:∃ m,n=m+1:=⟨n - 1,by omega⟩
    have hw:=wL_nn hg gs
    have hlen:=skV_len gap g now
    simp only [skL,wL,List.append_assoc] at h he
    have h3:=drop_blk h
    have hbd:=skV_bd hg g now
    rw [skV_eq] at h hlen h3 hbd
    rw [List.cons_append] at h
    obtain ⟨h1,h2⟩:=drop_at h
    have hx:=hbd _ List.mem_cons_self
    dsimp only at hx
    rw [List.length_cons] at hlen
    have hf:front (now+wV gap g) (skL gap gs (now+wV gap g)++rest):=front_skL hg gs hr (by omega)
    unfold kidsP pos
    rw [h1]
    dsimp only
    rw [if_pos (by omega),h2,runP_block hf _ (fun y hy=>by have:=hbd y (List.mem_cons_of_mem _ hy);omega),show p+1+(skL gap (g.l++g.vs) (now+gap)).length=p+cntV g by omega,
      kidsP_pos hg hr gs (p+cntV g) (now+wV gap g) n (by rw [<-h3,List.length_cons,hlen]) (by omega) (by simp at hn;omega)]
theorem pos_cnt (gs:List GVal):gs.length<=cntL gs:=by
  induction gs with
  | nil=>simp
  | cons g gs ih =>
    have:=cntV_pos g
    simp only [List.length_cons,cntL]
    omega
def chain (S:Sk) (en:Int):Int->List Nat->Prop
  | _,[]=>True
  | last,m::ms=>∃ x,S[m]?=some x/\last<x.1/\x.2<en/\chain S en x.2 ms
end Go.Sy
namespace Go.Sy
open Go.Proofs
def idxF (v:Nat):List Nat->Nat->Int
  | [],_ => -1
  | m::ms,k=>if v=m then k else idxF v ms (k+1)
structure GStep where
  key:ByteArray
  at_:Int
  named:Bool
deriving DecidableEq
def stepCells (s:GStep):List AT:=[.v (.string s.key),.v (.int .i64 s.at_),.b s.named]
def stepRows (l:List GStep):List (List AT):=l.map stepCells
def stepEq (x y:GStep):Bool:=!(x.named != y.named)&&!(x.named&&!decide (x.key=y.key))&&!(!x.named&&!decide (x.at_=y.at_))
def sameG:List GStep->List GStep->Bool
  | [],[]=>true
  | x::a,y::b=>stepEq x y&&sameG a b
  | _,_=>false
end Go.Sy
namespace Go.Sy
open Go.Proofs
end Go.Sy
namespace Go.Sy
open Go.Proofs
theorem parentK_lt (L:List GRec) (st:Int):∀ k:Nat,-1<=parentK L st k/\parentK L st k<k
  | 0=>by simp [parentK]
  | k+1=>by
    have:=parentK_lt L st k
    simp only [parentK]
    split<;>omega
theorem parentG_lt (L:List GRec) (i:Nat):-1<=parentG L i/\parentG L i<i:=parentK_lt L _ i
def stepG (L:List GRec) (i p:Nat):GStep :=
  match L[i]? with
  | some r=>⟨r.name,if r.nm then 0 else idxF i (kidsG L p) 0,r.nm⟩
  | none=>⟨emptyS,0,false⟩
def upF (L:List GRec):Nat->Nat->List GStep
  | 0,_=>[]
  | n+1,i=>if parentG L i<0 then [] else stepG L i (parentG L i).toNat::upF L n (parentG L i).toNat
def placeG (L:List GRec) (i:Nat):List GStep:=(upF L (i+1) i).reverse
end Go.Sy
/- Plain laws on the places of a value's records. No program in sight. -/
namespace Go.Sy
mutual
def keysOk:GVal->Prop
  | .mk _ _ _ _ l ks vs=>twiceG ks=false/\keysOks l/\keysOks vs
def keysOks:List GVal->Prop
  | []=>True
  | g::gs=>keysOk g/\keysOks gs
end
mutual
theorem sane_keys:∀ (g:GVal) (deep c:Int),(saneG g deep c).1=0->keysOk g
  | .mk k b n s l ks vs,deep,c,h=>by
    simp only [saneG] at h
    split at h
    · simp at h
    split at h
    · simp at h
    rename_i ht
    split at h
    · simp at h
    split at h
    · simp at h
    simp only [keysOk]
    have hl:(saneL l deep (c+1)).1=0:=by
      by_cases h0:(saneL l deep (c+1)).1=0
      · exact h0
      · rw [if_pos h0] at h;exact h
    rw [if_neg (by simp [hl])] at h
    exact ⟨by simpa using ht,sane_keyss l _ _ hl,sane_keyss vs _ _ h⟩
theorem sane_keyss:∀ (gs:List GVal) (deep c:Int),(saneL gs deep c).1=0->keysOks gs
  | [],_,_,_=>trivial
  | g::gs,deep,c,h=>by
    simp only [saneL] at h
    have hg:(saneG g (deep+1) c).1=0:=by
      by_cases h0:(saneG g (deep+1) c).1=0
      · exact h0
      · rw [if_pos h0] at h;exact h
    rw [if_neg (by simp [hg])] at h
    exact ⟨sane_keys g _ _ hg,sane_keyss gs _ _ h⟩
end
theorem keysOks_mem:∀ {gs:List GVal} {g:GVal},keysOks gs->g∈gs->keysOk g
  | _::_,_,h,hm=>by
    cases hm with
    | head=>exact h.1
    | tail _ hm=>exact keysOks_mem h.2 hm
theorem wfs_mem:∀ {gs:List GVal} {g:GVal},GVal.wfs gs->g∈gs->g.wf
  | _::_,_,h,hm=>by
    simp only [GVal.wfs] at h
    cases hm with
    | head=>exact h.1
    | tail _ hm=>exact wfs_mem h.2 hm
theorem twice_nodup:∀ (ks met:List ByteArray),twiceFrom met ks=false->(∀ k∈ks,k∉met)/\ks.Nodup
  | [],_,_=>⟨fun _ h=>(by cases h),List.nodup_nil⟩
  | k::ks,met,h=>by
    rw [twiceFrom] at h
    split at h
    · cases h
    rename_i hk
    obtain ⟨h1,h2⟩:=twice_nodup ks _ h
    refine ⟨fun x hx=>?_,?_⟩
    · cases hx with
      | head=>exact fun hm=>hk (hasKey_iff.2 hm)
      | tail _ hx=>exact fun hm=>h1 x hx (List.mem_append_left _ hm)
    · refine List.nodup_cons.2 ⟨fun hm=>h1 k hm (List.mem_append_right _ List.mem_cons_self),h2⟩
structure Itm where
  nm:Bool
  name:ByteArray
  v:GVal
def itsL (l:List GVal):List Itm:=l.map fun g=>⟨false,emptyS,g⟩
def itsM:List GVal->List ByteArray->List Itm
  | g::gs,k::ks=>⟨true,k,g⟩::itsM gs ks
  | _,_=>[]
def its (g:GVal):List Itm:=itsL g.l++itsM g.vs g.ks
def valsI (xs:List Itm):List GVal:=xs.map Itm.v
theorem valsI_L (l:List GVal):valsI (itsL l)=l:=by simp [valsI,itsL,Function.comp_def]
theorem itsM_len:∀ (vs:List GVal) (ks:List ByteArray),ks.length=vs.length->(itsM vs ks).length=vs.length/\valsI (itsM vs ks)=vs
  | [],[],_=>⟨rfl,rfl⟩
  | g::gs,k::ks,h=>by
    obtain ⟨h1,h2⟩:=itsM_len gs ks (by simpa using h)
    exact ⟨by simp [itsM,h1],by simp only [valsI,itsM,List.map_cons] at h2 ⊢;rw [h2]⟩
  | [],_::_,h=>by simp at h
  | _::_,[],h=>by simp at h
theorem itsM_get:∀ (vs:List GVal) (ks:List ByteArray) (m:Nat) (x:Itm),(itsM vs ks)[m]?=some x->x.nm=true/\ks[m]?=some x.name/\vs[m]?=some x.v
  | [],ks,m,x,h=>by cases ks<;>simp [itsM] at h
  | g::gs,[],m,x,h=>by simp [itsM] at h
  | g::gs,k::ks,0,x,h=>by simp only [itsM,List.getElem?_cons_zero,Option.some.injEq] at h;subst h;exact ⟨rfl,rfl,rfl⟩
  | g::gs,k::ks,m+1,x,h=>by
    simp only [itsM,List.getElem?_cons_succ] at h ⊢
    exact itsM_get gs ks m x h
theorem wf_eq (g:GVal):g.wf↔g.ks.length=g.vs.length/\GVal.wfs g.l/\GVal.wfs g.vs:=by cases g;simp only [GVal.wf,GVal.ks,GVal.vs,GVal.l]
theorem keysOk_eq (g:GVal):keysOk g↔twiceG g.ks=false/\keysOks g.l/\keysOks g.vs:=by cases g;simp only [keysOk,GVal.ks,GVal.vs,GVal.l]
theorem vals_its {g:GVal} (h:g.wf):valsI (its g)=g.l++g.vs:=by
  have h1:=(itsM_len g.vs g.ks ((wf_eq g).1 h).1).2
  have h0:=valsI_L g.l
  unfold valsI at h0 h1 ⊢
  rw [its,List.map_append,h0,h1]
theorem its_mem {g:GVal} {x:Itm} (h:g.wf) (hx:x∈its g):x.v∈g.l++g.vs:=by
  rw [<-vals_its h]
  exact List.mem_map.2 ⟨x,hx,rfl⟩
theorem its_wf {g:GVal} {x:Itm} (h:g.wf) (hx:x∈its g):x.v.wf:=by
  have h':=(wf_eq g).1 h
  rcases List.mem_append.1 (its_mem h hx) with hm | hm
  · exact wfs_mem h'.2.1 hm
  · exact wfs_mem h'.2.2 hm
theorem its_keys {g:GVal} {x:Itm} (h:g.wf) (hk:keysOk g) (hx:x∈its g):keysOk x.v:=by
  have h':=(keysOk_eq g).1 hk
  rcases List.mem_append.1 (its_mem h hx) with hm | hm
  · exact keysOks_mem h'.2.1 hm
  · exact keysOks_mem h'.2.2 hm
def stepOf (m:Nat) (x:Itm):GStep:=⟨x.name,if x.nm then 0 else m,x.nm⟩
theorem stepOf_inj {g:GVal} (hk:keysOk g) {m n:Nat} {x y:Itm} (hx:(its g)[m]?=some x) (hy:(its g)[n]?=some y) (h:stepOf m x=stepOf n y):m=n:=by
  unfold stepOf at h
  injection h with h1 h2 h3
  cases hnx:x.nm with
  | false =>
    rw [hnx] at h2 h3
    rw [<-h3] at h2
    simp at h2
    omega
  | true =>
    rw [hnx] at h3
    have hnd:=(twice_nodup _ _ ((keysOk_eq g).1 hk).1).2
    have key:∀ {m:Nat} {x:Itm},(its g)[m]?=some x->x.nm=true->g.l.length<=m/\g.ks[m - g.l.length]?=some x.name:=by
      intro m x hx hn
      unfold its at hx
      by_cases hm:m<g.l.length
      · rw [List.getElem?_append_left (by simpa [itsL] using hm)] at hx
        simp only [itsL,List.getElem?_map,Option.map_eq_some_iff] at hx
        obtain ⟨_,_,rfl⟩:=hx
        cases hn
      · rw [List.getElem?_append_right (by simp [itsL];omega)] at hx
        have hl:(itsL g.l).length=g.l.length:=by simp [itsL]
        rw [hl] at hx
        exact ⟨by omega,(itsM_get _ _ _ _ hx).2.1⟩
    obtain ⟨a1,a2⟩:=key hx hnx
    obtain ⟨b1,b2⟩:=key hy h3.symm
    have hlt:=(List.getElem?_eq_some_iff.1 a2).1
    have:=(List.getElem?_inj (j:=n - g.l.length) hlt hnd).1 (by rw [a2,b2,h1])
    omega
def shredI (gap:Int):List Itm->Int->Int->List GRec×Int
  | [],_,now=>([],now)
  | x::xs,lv,now =>
    let p:=shredV gap x.v lv x.nm x.name now
    let q:=shredI gap xs lv p.2
    (p.1++q.1,q.2)
theorem shredI_L (gap:Int):∀ (l:List GVal) (lv now:Int),shredI gap (itsL l) lv now=shredL gap l lv now
  | [],_,_=>rfl
  | g::gs,lv,now=>by
    show shredI gap (⟨false,emptyS,g⟩::itsL gs) lv now=_
    simp only [shredI,shredL,shredI_L gap gs]
    rfl
theorem shredI_M (gap:Int):∀ (vs:List GVal) (ks:List ByteArray) (lv now:Int),shredI gap (itsM vs ks) lv now=shredM gap vs ks lv now
  | [],[],_,_=>rfl
  | [],_::_,_,_=>rfl
  | _::_,[],_,_=>rfl
  | g::gs,k::ks,lv,now=>by simp only [itsM,shredI,shredM,shredI_M gap gs ks]
theorem shredI_append (gap:Int):∀ (a b:List Itm) (lv now:Int),shredI gap (a++b) lv now=((shredI gap a lv now).1++(shredI gap b lv (shredI gap a lv now).2).1,(shredI gap b lv (shredI gap a lv now).2).2)
  | [],b,lv,now=>by simp [shredI]
  | x::a,b,lv,now=>by simp only [List.cons_append,shredI,shredI_append gap a b,List.append_assoc]
theorem shredV_its (gap:Int) (g:GVal) (lv:Int) (nm:Bool) (name:ByteArray) (now:Int) (h:g.wf) :
    (shredV gap g lv nm name now).1=⟨now+gap,now+wV gap g,lv,g.kind,nm,name,g.b,g.n,g.s⟩::(shredI gap (its g) (lv+1) (now+gap)).1:=by
  have h2:=(shredV_sk gap g lv nm name now h).2
  rw [shredV_eq] at h2 ⊢
  dsimp only at h2 ⊢
  rw [h2,its,shredI_append,shredI_L,shredI_M]
theorem shredI_sk (gap:Int):∀ (xs:List Itm) (lv now:Int),GVal.wfs (valsI xs)->(shredI gap xs lv now).1.map se=skL gap (valsI xs) now/\(shredI gap xs lv now).2=now+wL gap (valsI xs)
  | [],lv,now,_=>by simp [shredI,skL,wL,valsI]
  | x::xs,lv,now,h=>by
    simp only [valsI,List.map_cons,GVal.wfs] at h ⊢
    obtain ⟨h1,h2⟩:=shredV_sk gap x.v lv x.nm x.name now h.1
    obtain ⟨h3,h4⟩:=shredI_sk gap xs lv (shredV gap x.v lv x.nm x.name now).2 h.2
    rw [h2] at h3 h4
    simp only [valsI] at h3 h4
    simp only [shredI,skL,wL,List.map_append,h1,h2,h3,h4]
    exact ⟨trivial,by omega⟩
theorem wfs_append:∀ {a b:List GVal},GVal.wfs (a++b)↔GVal.wfs a/\GVal.wfs b
  | [],b=>by simp [GVal.wfs]
  | g::a,b=>by simp only [List.cons_append,GVal.wfs,wfs_append (a:=a),and_assoc]
theorem wfs_its {g:GVal} (h:g.wf):GVal.wfs (valsI (its g)):=by
  rw [vals_its h,wfs_append]
  exact ((wf_eq g).1 h).2
def cntI (xs:List Itm):Nat:=cntL (valsI xs)
def wI (gap:Int) (xs:List Itm):Int:=wL gap (valsI xs)
inductive Sub (gap:Int):GVal->Nat->Int->List GStep->GVal->Nat->Int->Prop
  | refl (g:GVal) (p:Nat) (now:Int):Sub gap g p now [] g p now
  | step {g:GVal} {p:Nat} {now:Int} {m:Nat} {x:Itm} {P:List GStep} {h:GVal} {q:Nat} {now':Int} (hx:(its g)[m]?=some x)
      (hs:Sub gap x.v (p+1+cntI ((its g).take m)) (now+gap+wI gap ((its g).take m)) P h q now'):Sub gap g p now (stepOf m x::P) h q now'
theorem cntI_its {g:GVal} (h:g.wf):cntV g=1+cntI (its g):=by rw [cntI,vals_its h,cntL_append,cntV_eq]
theorem wI_its {gap:Int} {g:GVal} (h:g.wf):wV gap g=gap+wI gap (its g)+gap:=by rw [wI,vals_its h,wV_eq]
theorem split_at {xs:List Itm} {m:Nat} {x:Itm} (h:xs[m]?=some x):xs=xs.take m++x::xs.drop (m+1):=by
  have hl:=(List.getElem?_eq_some_iff.1 h).1
  have:=(List.getElem?_eq_some_iff.1 h).2
  rw [<-this,<-List.drop_eq_getElem_cons hl,List.take_append_drop]
theorem valsI_append (a b:List Itm):valsI (a++b)=valsI a++valsI b:=by simp [valsI]
theorem wI_split {gap:Int} {xs:List Itm} {m:Nat} {x:Itm} (h:xs[m]?=some x):wI gap xs=wI gap (xs.take m)+(wV gap x.v+wI gap (xs.drop (m+1))):=by
  conv=>lhs;rw [split_at h]
  unfold wI
  rw [valsI_append,wL_append]
  rfl
theorem cntI_split {xs:List Itm} {m:Nat} {x:Itm} (h:xs[m]?=some x):cntI xs=cntI (xs.take m)+(cntV x.v+cntI (xs.drop (m+1))):=by
  conv=>lhs;rw [split_at h]
  unfold cntI
  rw [valsI_append,cntL_append]
  rfl
theorem sub_all {gap:Int} (g:GVal):g.wf->∀ (p:Nat) (now:Int) (i:Nat),p<=i->i<p+cntV g->∃ P h now',Sub gap g p now P h i now':=by
  induction g using GVal.byWeight with | _ g ih=>?_
  intro hw p now i h1 h2
  by_cases hi:i=p
  · subst hi;exact ⟨[],g,now,.refl g i now⟩
  have key:∀ n,n<=(its g).length->i<p+1+cntI ((its g).take n)->∃ P h now',Sub gap g p now P h i now':=by
    intro n
    induction n with
    | zero =>
      intro _ h
      have:cntI ((its g).take 0)=0:=by rw [List.take_zero];rfl
      omega
    | succ n ihn =>
      intro hn h
      by_cases hlt:i<p+1+cntI ((its g).take n)
      · exact ihn (by omega) hlt
      · have hx:(its g)[n]?=some (its g)[n]:=List.getElem?_eq_getElem (by omega)
        generalize (its g)[n]=x at hx
        have e:(its g).take (n+1)=(its g).take n++[x]:=by rw [List.take_succ_eq_append_getElem (by omega),(List.getElem?_eq_some_iff.1 hx).2]
        have hc:cntI ((its g).take (n+1))=cntI ((its g).take n)+cntV x.v:=by
          unfold cntI
          rw [e,valsI_append,cntL_append]
          rfl
        have hm:=List.mem_of_getElem? hx
        obtain ⟨P,h',now',hs⟩:=ih x.v (in_weight (its_mem hw hm)) (its_wf hw hm) (p+1+cntI ((its g).take n)) (now+gap+wI gap ((its g).take n)) i (by omega) (by omega)
        exact ⟨_,_,_,.step hx hs⟩
  have hc:=cntI_its hw
  exact key (its g).length (Nat.le_refl _) (by rw [List.take_length];omega)
theorem wI_nn {gap:Int} (hg:0<gap) (xs:List Itm):0<=wI gap xs:=wL_nn hg _
theorem sub_bd {gap:Int} (hg:0<gap) {g:GVal} {p:Nat} {now:Int} {P:List GStep} {h:GVal} {q:Nat} {now':Int} (hs:Sub gap g p now P h q now'):g.wf ->
    h.wf/\now<=now'/\now'+wV gap h<=now+wV gap g/\(P≠[]->now+gap<=now'/\now'+wV gap h+gap<=now+wV gap g):=by
  induction hs with
  | refl g p now=>exact fun hw=>⟨hw,Int.le_refl _,Int.le_refl _,fun h=>absurd rfl h⟩
  | @step g p now m x P h q now' hx hs ih =>
    intro hw
    obtain ⟨h0,h1,h2,-⟩:=ih (its_wf hw (List.mem_of_getElem? hx))
    have e1:=wI_split (gap:=gap) hx
    have e2:=wI_its (gap:=gap) hw
    have e3:=wI_nn hg ((its g).take m)
    have e4:=wI_nn hg ((its g).drop (m+1))
    exact ⟨h0,by omega,by omega,fun _=>⟨by omega,by omega⟩⟩
structure Loc (gap:Int) (L:List GRec) (g:GVal) (p:Nat) (now:Int) (pre:List GStep):Prop where
  wf:g.wf
  keys:keysOk g
  at_:∃ nm name rest,L.drop p=(shredV gap g pre.length nm name now).1++rest/\front (now+wV gap g) (rest.map se)
  place:∀ n,p<n->upF L n p=pre.reverse
theorem parentK_at {L:List GRec} {st:Int} {p:Nat}:∀ {q:Nat},p<q->(∀ k,p<k->k<q->(L[k]?.map GRec.en).getD 0<st)->¬ (L[p]?.map GRec.en).getD 0<st->parentK L st q=p
  | 0,h,_,_=>by omega
  | q+1,h,hk,hp=>by
    rw [parentK]
    by_cases hq:q=p
    · subst hq;rw [if_neg hp]
    · rw [if_pos (hk q (by omega) (by omega))]
      exact parentK_at (by omega) (fun k h1 h2=>hk k h1 (by omega)) hp
theorem pos_get:∀ (gs:List GVal) (p m:Nat),m<gs.length->(pos gs p)[m]?=some (p+cntL (gs.take m))
  | [],_,_,h=>by simp at h
  | g::gs,p,0,_=>by simp [pos,cntL]
  | g::gs,p,m+1,h=>by
    rw [pos,List.getElem?_cons_succ,pos_get gs _ m (by simpa using h),List.take_succ_cons,cntL]
    congr 1
    omega
theorem idxF_at:∀ (l:List Nat) (v m k:Nat),l[m]?=some v->(∀ j,j<m->l[j]?≠some v)->idxF v l k=(k+m:Nat)
  | [],v,m,k,h,_=>by simp at h
  | x::l,v,0,k,h,_=>by
    simp only [List.getElem?_cons_zero,Option.some.injEq] at h
    rw [idxF,if_pos h.symm,Nat.add_zero]
  | x::l,v,m+1,k,h,hj=>by
    have h0:=hj 0 (by omega)
    simp only [List.getElem?_cons_zero,ne_eq,Option.some.injEq] at h0
    rw [idxF,if_neg (fun e=>h0 e.symm),idxF_at l v m (k+1) (by simpa using h) fun j hlt=>by simpa using hj (j+1) (by omega)]
    congr 1
    omega
theorem skI_en {gap:Int} (hg:0<gap) {gs:List GVal} {now:Int} {S T:Sk} {p k:Nat} {x:Int×Int} (h:S.drop p=skL gap gs now++T) (h1:p<=k) (h2:k<p+cntL gs) (hx:S[k]?=some x):x.2<=now+wL gap gs:=by
  have:(S.drop p)[k - p]?=some x:=by rw [List.getElem?_drop,show p+(k - p)=k by omega];exact hx
  rw [h,List.getElem?_append_left (by rw [skL_len];omega)] at this
  exact (skL_bd hg gs now x (List.mem_of_getElem? this)).2.2
theorem drop_head {α:Type} {L T rest:List α} {p:Nat} {x:α} (h:L.drop p=x::T++rest):L[p]?=some x:=by
  have:(L.drop p)[0]?=some x:=by rw [h];rfl
  simpa using this
theorem Loc.rec_ {gap:Int} {L:List GRec} {g:GVal} {p:Nat} {now:Int} {pre:List GStep} (h:Loc gap L g p now pre) :
    ∃ nm name,L[p]?=some ⟨now+gap,now+wV gap g,pre.length,g.kind,nm,name,g.b,g.n,g.s⟩:=by
  obtain ⟨nm,name,rest,h1,-⟩:=h.at_
  rw [shredV_its _ _ _ _ _ _ h.wf] at h1
  exact ⟨nm,name,drop_head h1⟩
theorem Loc.kids {gap:Int} (hg:0<gap) {L:List GRec} {g:GVal} {p:Nat} {now:Int} {pre:List GStep} (h:Loc gap L g p now pre) :
    kidsG L p=pos (g.l++g.vs) (p+1):=by
  obtain ⟨nm,name,rest,h1,hfr⟩:=h.at_
  have h2:=congrArg (List.map se) h1
  rw [List.map_drop,List.map_append,(shredV_sk gap g _ nm name now h.wf).1,skV_eq,List.cons_append] at h2
  obtain ⟨h3,h4⟩:=drop_at h2
  have hlen:(L.map se).length=p+(1+(cntL (g.l++g.vs)+(rest.map se).length)):=by
    have hp:p<=(L.map se).length:=by
      have:=(List.getElem?_eq_some_iff.1 h3).1
      omega
    have:=congrArg List.length h2
    rw [List.length_drop,List.length_cons,List.length_append,skL_len] at this
    omega
  have hwe:=wV_eq gap g
  rw [kidsG_se]
  unfold kidsAt
  rw [h3]
  refine kidsP_pos hg (rest:=rest.map se) (fun x hx=>?_) (g.l++g.vs) (p+1) (now+gap) _ h4 ?_ ?_
  · exact hfr x hx
  · show _<=now+wV gap g
    omega
  · have:=pos_cnt (g.l++g.vs)
    omega
theorem Loc.kid {gap:Int} (hg:0<gap) {L:List GRec} {g:GVal} {p:Nat} {now:Int} {pre:List GStep} (h:Loc gap L g p now pre) {m:Nat} {x:Itm} (hx:(its g)[m]?=some x) :
    Loc gap L x.v (p+1+cntI ((its g).take m)) (now+gap+wI gap ((its g).take m)) (pre++[stepOf m x])/\parentG L (p+1+cntI ((its g).take m))=p:=by
  have hm:=List.mem_of_getElem? hx
  have hwx:=its_wf h.wf hm
  have hks:=h.kids hg
  obtain ⟨nm,name,rest,h1,hfr⟩:=h.at_
  rw [shredV_its _ _ _ _ _ _ h.wf] at h1
  have hd1:L.drop (p+1)=(shredI gap (its g) (pre.length+1) (now+gap)).1++rest:=by
    rw [<-List.drop_drop,h1]
    rfl
  have hwi:=wfs_its h.wf
  have hsp:=split_at hx
  have hwt:GVal.wfs (valsI ((its g).take m)):=by
    rw [hsp,valsI_append,wfs_append] at hwi
    exact hwi.1
  have hwd:GVal.wfs (valsI ((its g).drop (m+1))):=by
    rw [hsp,valsI_append,wfs_append] at hwi
    exact hwi.2.2
  have hsk:=shredI_sk gap ((its g).take m) (pre.length+1) (now+gap) hwt
  have hd0:=hd1
  rw [hsp,shredI_append,hsk.2] at hd1
  simp only [shredI,List.append_assoc] at hd1
  have hl1:(shredI gap ((its g).take m) (pre.length+1) (now+gap)).1.length=cntI ((its g).take m):=by
    have:=congrArg List.length hsk.1
    rw [List.length_map,skL_len] at this
    exact this
  have hd2:L.drop (p+1+cntI ((its g).take m))=(shredV gap x.v (pre.length+1) x.nm x.name (now+gap+wI gap ((its g).take m))).1++((shredI gap ((its g).drop (m+1)) (pre.length+1) (shredV gap x.v (pre.length+1) x.nm x.name (now+gap+wI gap ((its g).take m))).2).1++rest):=by
    rw [<-hl1,<-List.drop_drop,hd1,List.drop_left]
    rfl
  have hsv:=shredV_sk gap x.v (pre.length+1) x.nm x.name (now+gap+wI gap ((its g).take m)) hwx
  have hwe:=wI_its (gap:=gap) h.wf
  have hws:=wI_split (gap:=gap) hx
  have hskd:=shredI_sk gap ((its g).drop (m+1)) (pre.length+1) (shredV gap x.v (pre.length+1) x.nm x.name (now+gap+wI gap ((its g).take m))).2 hwd
  have hfr2:front (now+gap+wI gap ((its g).take m)+wV gap x.v) (((shredI gap ((its g).drop (m+1)) (pre.length+1) (shredV gap x.v (pre.length+1) x.nm x.name (now+gap+wI gap ((its g).take m))).2).1++rest).map se):=by
    rw [List.map_append,hskd.1,hsv.2]
    refine front_skL hg _ hfr ?_
    show _+wI gap ((its g).drop (m+1))<=_
    omega
  have hq:L[p+1+cntI ((its g).take m)]?=some ⟨now+gap+wI gap ((its g).take m)+gap,now+gap+wI gap ((its g).take m)+wV gap x.v,pre.length+1,x.v.kind,x.nm,x.name,x.v.b,x.v.n,x.v.s⟩:=by
    rw [shredV_its _ _ _ _ _ _ hwx] at hd2
    exact drop_head hd2
  have hp:L[p]?=some ⟨now+gap,now+wV gap g,pre.length,g.kind,nm,name,g.b,g.n,g.s⟩:=drop_head h1
  have hwd0:=wI_nn hg ((its g).drop (m+1))
  have hwx0:=wV_pos hg x.v
  have hwx1:2*gap<=wV gap x.v:=by
    have:=wV_eq gap x.v
    have:=wL_nn hg (x.v.l++x.v.vs)
    omega
  have hpar:parentG L (p+1+cntI ((its g).take m))=p:=by
    unfold parentG
    rw [hq]
    refine parentK_at (by omega) (fun k hk1 hk2=>?_) ?_
    · show (L[k]?.map GRec.en).getD 0<now+gap+wI gap ((its g).take m)+gap
      have hS:(L.map se).drop (p+1)=skL gap (valsI (its g)) (now+gap)++rest.map se:=by
        rw [<-List.map_drop,hd0,List.map_append,(shredI_sk gap (its g) _ _ hwi).1]
      rw [hsp,valsI_append,skL_append,List.append_assoc] at hS
      have hkl:k<L.length:=by
        have:=(List.getElem?_eq_some_iff.1 hq).1
        omega
      have hkx:(L.map se)[k]?=some (se L[k]):=by rw [List.getElem?_map,List.getElem?_eq_getElem hkl];rfl
      have:=skI_en hg hS (k:=k) (by omega) hk2 hkx
      rw [List.getElem?_eq_getElem hkl]
      show L[k].en<_
      have hen:(se L[k]).2=L[k].en:=rfl
      rw [hen] at this
      have hwi':wI gap ((its g).take m)=wL gap (valsI ((its g).take m)):=rfl
      omega
    · rw [hp]
      show ¬ now+wV gap g<now+gap+wI gap ((its g).take m)+gap
      omega
  refine ⟨⟨hwx,its_keys h.wf h.keys hm,⟨x.nm,x.name,_,?_,hfr2⟩,fun n hn=>?_⟩,hpar⟩
  · rw [List.length_append,List.length_singleton]
    exact hd2
  · obtain ⟨n,rfl⟩:∃ k,n=k+1:=⟨n - 1,by omega⟩
    unfold upF
    rw [hpar,if_neg (by omega),Int.toNat_natCast,h.place n (by omega),List.reverse_append]
    show stepG L (p+1+cntI ((its g).take m)) p::_=[stepOf m x]++_
    rw [List.singleton_append]
    congr 1
    unfold stepG stepOf
    rw [hq]
    dsimp only
    congr 1
    rw [hks]
    split
    · rfl
    · have hml:m<(g.l++g.vs).length:=by
        rw [<-vals_its h.wf]
        simpa [valsI] using (List.getElem?_eq_some_iff.1 hx).1
      have htk:∀ j,cntL ((g.l++g.vs).take j)=cntI ((its g).take j):=fun j=>by
        rw [<-vals_its h.wf,cntI,valsI,valsI,List.map_take]
      have:=idxF_at (pos (g.l++g.vs) (p+1)) (p+1+cntI ((its g).take m)) m 0 (by rw [pos_get _ _ _ hml,htk]) (fun j hj=>by
        rw [pos_get _ _ _ (by omega),htk]
        intro e
        have e:=Option.some.inj e
        have hj':(its g)[j]?=some ((its g)[j]'(by have:=(List.getElem?_eq_some_iff.1 hx).1;omega)):=List.getElem?_eq_getElem _
        have hj2:((its g).take m)[j]?=some ((its g)[j]'(by have:=(List.getElem?_eq_some_iff.1 hx).1;omega)):=by rw [List.getElem?_take,if_pos hj];exact hj'
        have hc:=cntI_split hj2
        rw [List.take_take,Nat.min_eq_left (by omega)] at hc
        have:=cntV_pos ((its g)[j]'(by have:=(List.getElem?_eq_some_iff.1 hx).1;omega)).v
        omega)
      rw [this]
      omega
theorem Loc.sub {gap:Int} (hg:0<gap) {L:List GRec} {g:GVal} {p:Nat} {now:Int} {P:List GStep} {h:GVal} {q:Nat} {now':Int} (hs:Sub gap g p now P h q now') :
    ∀ {pre:List GStep},Loc gap L g p now pre->Loc gap L h q now' (pre++P):=by
  induction hs with
  | refl g p now=>intro pre hl;rw [List.append_nil];exact hl
  | @step g p now m x P h q now' hx hs ih =>
    intro pre hl
    have:=ih (hl.kid hg hx).1
    rw [List.append_assoc] at this
    exact this
theorem loc_root {gap:Int} {g:GVal} {nm:Bool} {name:ByteArray} (hw:g.wf) (hk:keysOk g):Loc gap (shredV gap g 0 nm name 0).1 g 0 0 []:=by
  refine ⟨hw,hk,⟨nm,name,[],by rw [List.drop_zero,List.append_nil];rfl,fun x hx=>by cases hx⟩,fun n hn=>?_⟩
  obtain ⟨n,rfl⟩:∃ k,n=k+1:=⟨n - 1,by omega⟩
  unfold upF
  rw [if_pos (by unfold parentG parentK;omega)]
  rfl
theorem shred_loc {gap:Int} (hg:0<gap) {g:GVal} {nm:Bool} {name:ByteArray} (hw:g.wf) (hk:keysOk g) {i:Nat} (hi:i<cntV g) :
    ∃ h now,Sub gap g 0 0 (placeG (shredV gap g 0 nm name 0).1 i) h i now/\Loc gap (shredV gap g 0 nm name 0).1 h i now (placeG (shredV gap g 0 nm name 0).1 i):=by
  obtain ⟨P,h,now,hs⟩:=sub_all (gap:=gap) g hw 0 0 i (Nat.zero_le _) (by omega)
  have hl:=Loc.sub hg hs (loc_root (nm:=nm) (name:=name) hw hk)
  rw [List.nil_append] at hl
  have:placeG (shredV gap g 0 nm name 0).1 i=P:=by
    unfold placeG
    rw [hl.place (i+1) (by omega),List.reverse_reverse]
  rw [this]
  exact ⟨h,now,hs,hl⟩
end Go.Sy
namespace Go.Sy
open Go.Proofs
theorem SlAt.front {σ:Snap} {ao:Option Addr} {n cap sz:Nat} {rows:List (List AT)} (h:SlAt σ ao n cap sz rows) {k:Nat} (hk:k<=n):SlAt σ ao k cap sz (rows.take k):=by
  refine ⟨by rw [List.length_take,h.len];omega,Nat.le_trans hk h.ncap,fun r hr=>h.clo r (List.mem_of_mem_take hr),?_⟩
  rcases h.at_ with h0 | ⟨ad,h1,h2⟩
  · exact .inl (by omega)
  · refine .inr ⟨ad,h1,fun i r j c hr hc=>h2 i r j c ?_ hc⟩
    rw [List.getElem?_take] at hr
    split at hr
    · exact hr
    · cases hr
end Go.Sy
/- Calls that look at the call's own arrays, and leave them as they are. No program in sight. -/
namespace Go.Sy
theorem ArrSealed.mono {σ σ':Snap} {E:AE} (h:ArrSealed σ E) (hle:σ.le σ'):ArrSealed σ' E:=by
  rcases h with h | ⟨g,h1,h2⟩
  · exact .inl h
  · exact .inr ⟨g,h1,fun j x hx=>hle.cell (h2 j x hx)⟩
section
variable {cf:Cf} {hp:HP} {β:Nat->Addr} {w w':World}
theorem StW.sealAll:∀ {A:List AE} {σ:Snap},StW cf σ hp A β w->∃ σ',σ.le σ'/\(∀ (i:Nat) E,A[i]?=some E->ArrSealed σ' E)/\StW cf σ' hp [] β w
  | [],σ,h=>⟨σ,Snap.le_refl σ,fun i E hE=>by simp at hE,h⟩
  | E::A,σ,h=>by
    obtain ⟨σ1,h1,h2,h3⟩:=h.sealArr (i:=0) (E:=E) rfl
    obtain ⟨σ2,h4,h5,h6⟩:=StW.sealAll (A:=A) h3
    refine ⟨σ2,Snap.le_trans h1 h4,fun i F hF=>?_,h6⟩
    cases i with
    | zero =>
      simp only [List.getElem?_cons_zero,Option.some.injEq] at hF
      subst hF
      exact h2.mono h4
    | succ i=>exact h5 i F (by simpa using hF)
theorem ArrOk.weak {σ σ':Snap} {E:AE} (h:ArrOk cf σ' w E) (hn:∀ {b},σ' b=none->σ b=none):ArrOk cf σ w E:=by
  refine ⟨h.1,h.2.imp id ?_⟩
  rintro ⟨g,cur,h3,h4,h5,h6,h7,h8,h9,h10⟩
  exact ⟨g,cur,h3,h4,h5,h6,h7,h8,hn h9,h10⟩
theorem StW.peeked {σ σ1 σ2:Snap} {A A':List AE} (h:StW cf σ hp A β w) (h1:StW cf σ1 hp [] β w) (hle:σ.le σ1) (h':StW ⟨cf.P,w,σ1,blks [],0,[],none⟩ σ2 [] A' β0 w'):StW cf σ hp (A++A') β w':=by
  have t:StW cf σ2 hp (A'++[]) β w':=StW.through (A0:=[]) (Ar:=[]) h1 h'
  rw [List.append_nil] at t
  have hold:∀ b,b<w.heap.size->w'.heap[b]?=w.heap[b]?:=fun b hb=>h'.fr b hb (by rintro ⟨E,hE,_⟩;cases hE)
  have hle2:σ.le σ2:=Snap.le_trans hle h'.le
  have hn:∀ {b},σ2 b=none->σ b=none:=fun hb=>Snap.none_of_le hle2 hb
  have hget:∀ {j:Nat} {E:AE},(A++A')[j]?=some E->(j<A.length/\A[j]?=some E)\/(A.length<=j/\A'[j - A.length]?=some E):=by
    intro j E hj
    by_cases hlt:j<A.length
    · rw [List.getElem?_append_left hlt] at hj;exact .inl ⟨hlt,hj⟩
    · rw [List.getElem?_append_right (by omega)] at hj;exact .inr ⟨by omega,hj⟩
  have old:∀ {j:Nat} {E:AE} {b:Nat},A[j]?=some E->E.blk=some b->b<w.heap.size:=fun hE hb=>((h.arr _ _ hE).lt hb).1
  have new:∀ {j:Nat} {E:AE} {b:Nat},A'[j]?=some E->E.blk=some b->w.heap.size<=b:=by
    intro j E b hE hb
    rcases ((h'.arr _ _ hE).lt hb).2.2 with h1 | ⟨F,hF,_⟩
    · exact h1
    · cases hF
  refine ⟨t.os,t.tape,t.output,t.size,t.fr,fun b o hb=>t.sealed b o (hle2 b o hb),h.le,h.grow,fun i e cs hi=>?_,h.ro,h.inj,fun i E hE=>?_,fun i j E F hE hF hij g hg=>?_,fun i j E e cs hE hj=>?_⟩
  · obtain ⟨q1,q2,q3,q4⟩:=t.loc i e cs hi
    exact ⟨q1,q2,hn q3,q4⟩
  · rcases hget hE with ⟨_,hE⟩ | ⟨_,hE⟩
    · exact (h.arr i E hE).keep fun g hg=>hold g (old hE hg)
    · exact (t.arr _ E hE).weak hn
  · rcases hget hE with ⟨_,hE⟩ | ⟨_,hE⟩<;>rcases hget hF with ⟨_,hF⟩ | ⟨_,hF⟩
    · exact h.arrd i j E F hE hF hij g hg
    · intro hc
      have:=old hE hg
      have:=new hF hc
      omega
    · intro hc
      have:=new hE hg
      have:=old hF hc
      omega
    · exact t.arrd _ _ E F hE hF (by omega) g hg
  · rcases hget hE with ⟨_,hE⟩ | ⟨_,hE⟩
    · exact h.arrh i j E e cs hE hj
    · exact t.arrh _ j E e cs hE hj
end
section
variable {cf:Cf} {Q:Exit->Act->World->Prop} {σ:Snap} {env:Env} {hp:HP} {A:List AE} {nh:Nat} {it:Item} {rest:List Item}
theorem oj_peekF {d:Nat} {f:FuncId} {ys:List SV} {Φ:Value->List AE->Prop}
    (hc:callee env it.o.op=some (f,ys)) (hd:it.o.dst=some d) (hg:guardVal it.guard env=some true)
    (hN:Nat.blt d cf.N=true) (htag:canSink it.tag=true) (hcall:∀ args w,(callFunc f args).run cf.P w=.ok (.enter f args) w) (hlt:LtAll ys)
    (hC:∀ σ',σ.le σ'->(∀ (i:Nat) E,A[i]?=some E->ArrSealed σ' E)->FnS cf.P f ys σ' [] (fun v _ A'=>Φ v A'))
    (k:∀ v A',Φ v A'->∃ y:SV,y.lt 0/\y.den β0=v/\OJ cf rest Q σ ((d,y)::env) hp (A++A') nh):OJ cf (it::rest) Q σ env hp A nh:=by
  refine ⟨fun hb a β ha hex=>?_⟩
  have hN':d<cf.N:=by simpa [Nat.blt_eq] using hN
  have den0:∀ {y:SV},y.lt 0->y.den β=y.den β0:=fun hy=>SV.den_congr (n:=0) (fun i hi=>by omega) hy
  have hargs:(ys.map (SV.den β)).toArray=(ys.map (SV.den β0)).toArray:=by
    rw [List.map_congr_left fun y hy=>den0 (hlt.of y hy)]
  have key:∀ w,StW cf σ hp A β w->∀ Q',it.o.wq cf.P a w (fun a' w'=>∃ E' S':World->Prop,S' w'/\(∀ x,S' x->E' x)/\RunT cf.P Q rest E' S' a') Q':=by
    intro w hw Q'
    obtain ⟨σ1,hle,hS,hw1⟩:=hw.sealAll
    have hw2:StW cf σ1 hp ([]++[]) β w:=hw1
    unfold Oper.wq
    rw [callee_ok ha hc hcall]
    simp only [Oper.uponIn]
    rw [hargs]
    refine ⟨fun h=>(by cases h),CallsIn.mono (callsIn_FR.2 (hC σ1 hle hS w hw2.handIn)) fun e w' ⟨v,σ',he,h1,h2,h3,A',h4,h5⟩=>?_⟩
    subst he
    obtain ⟨y,hy,hyv,hk⟩:=k v A' h4
    have hw':=hw.peeked hw1 hle h5
    refine ⟨_,_,hw',fun _ h=>h,?_⟩
    have:=hk.run (hb.put (SV.lt_mono (Nat.zero_le _) hy) d) (a.put (some d) (y.den β)) β (ha.put hN' y) ⟨_,hw'⟩
    rw [hd,<-hyv,<-den0 hy]
    exact this
  simp only [RunT]
  rw [if_pos (guardVal_ok ha hg)]
  cases htag':it.tag with
  | pure=>rw [htag'] at htag;cases htag
  | quiet=>rw [htag'] at htag;cases htag
  | keep=>rw [htag'] at htag;cases htag
  | sink=>exact fun w hw=>key w hw _
  | free=>exact fun w hw=>key w hw _
end
end Go.Sy
namespace Go.Sy
open Go.Proofs
def ptrTo (g:Nat):PT:=.val (.pointer (some ⟨g,0,none⟩))
end Go.Sy
namespace Go.Sy
open Go.Proofs
def lastG (L:List GRec) (i:Nat):Int:=(runK L ((L[i]?.map GRec.en).getD 0) (i+1):Nat) - 1
set_option maxRecDepth 100000 in
set_option maxHeartbeats 1000000 in
theorem Last_c (σ:Snap) (L:List GRec) (R:RecsOk L) (ao:Option Addr) (cap:Nat) (H:SlAt σ ao L.length cap 11 (recRows L)) (i:Nat) (hi:i<L.length) (hs:soundG L=true) :
    PlainS Tryz.prog 77 [.a (.v (.slice ao L.length cap)),.a (.v (.int .i64 i))] σ (fun v=>v=.int .i64 (lastG L i)):=by
  have hat:atG L i=true:=by
    unfold atG
    rw [hs]
    simp
    omega
  have hlg:lastG L i=(runK L L[i].en (i+1):Nat) - 1:=by unfold lastG;rw [List.getElem?_eq_getElem hi];rfl
  rw [hlg]
  refine enter_p Tryz.func77 rfl rfl (by (repeat' (first | exact trivial | constructor))) fun w=>?_
  (repeat (first | refine cj_seq ?_ | refine cjr TT rfl ?_ | refine oj_then ?_))
  refine oj_callP rfl rfl rfl rfl rfl Tryz.call149 (by (repeat' (first | exact trivial | constructor))) (at_c σ L R ao cap H i) fun v hv=>⟨.a .tt,trivial,by rw [hv,hat];rfl,?_⟩
  refine oj_run TT rfl ?_
  (repeat (first | refine cj_seq ?_ | refine cjr TT rfl ?_ | refine oj_then ?_ | refine cj_if_f rfl ?_ | refine cj_skip ?_ | refine nj_then ?_))
  refine oj_callP rfl rfl rfl rfl rfl Tryz.call150 (by (repeat' (first | exact trivial | constructor))) (last_c σ L R.len ao cap H i hi) fun v hv=>⟨.a (.v (.int .i64 ((runK L L[i].en (i+1):Nat) - 1))),trivial,hv.symm,?_⟩
  refine oj_run TT rfl ?_
  (repeat (first | refine oj_then ?_ | refine cj_ret ?_))
  refine nj_ret TT rfl fun β w' _ _=>?_
  rfl
def fitsR (s:GStep) (n:Nat) (r:GRec):Bool:=(s.named&&r.nm&&decide (r.name=s.key))||(!s.named&&!r.nm&&decide ((n:Int)=s.at_))
def firstR (L:List GRec) (s:GStep):List Nat->Nat->Option Nat
  | [],_=>none
  | k::ks,n=>match L[k]? with
    | some r=>if fitsR s n r then some k else firstR L s ks (n+1)
    | none=>none
def findR (L:List GRec):Nat->List GStep->Int
  | i,[]=>i
  | i,s::l=>match firstR L s (kidsG L i) 0 with
    | some k=>findR L k l
    | none => -1
theorem firstR_mem {L:List GRec} {s:GStep}:∀ {ks:List Nat} {n k:Nat},firstR L s ks n=some k->k<L.length
  | x::ks,n,k,h=>by
    unfold firstR at h
    cases hx:L[x]? with
    | none=>rw [hx] at h;cases h
    | some r =>
      rw [hx] at h
      dsimp only at h
      split at h
      · obtain rfl:=Option.some.inj h
        exact (List.getElem?_eq_some_iff.1 hx).1
      · exact firstR_mem h
end Go.Sy
/- Plain laws: what stands at a record's place, and the record that stands at a place. No program in sight. -/
namespace Go.Sy
mutual
def kinds:GVal->Prop
  | .mk k _ _ _ l ks vs=>(l≠[]->k=4)/\(ks≠[]->k=5)/\kindss l/\kindss vs
def kindss:List GVal->Prop
  | []=>True
  | g::gs=>kinds g/\kindss gs
end
theorem kinds_eq (g:GVal):kinds g↔(g.l≠[]->g.kind=4)/\(g.ks≠[]->g.kind=5)/\kindss g.l/\kindss g.vs:=by cases g;simp only [kinds,GVal.l,GVal.kind,GVal.ks,GVal.vs]
theorem kindss_mem:∀ {gs:List GVal} {g:GVal},kindss gs->g∈gs->kinds g
  | _::_,_,h,hm=>by
    cases hm with
    | head=>exact h.1
    | tail _ hm=>exact kindss_mem h.2 hm
mutual
theorem sane_kinds4:∀ (g:GVal) (deep c:Int),(saneG g deep c).1=0->kinds g
  | .mk k b n s l ks vs,deep,c,h=>by
    simp only [saneG] at h
    split at h
    · simp at h
    rename_i hf
    have hf:fieldsG (.mk k b n s l ks vs)=true:=by simpa using hf
    obtain ⟨h1,h2⟩:=fields_kind hf
    simp only [GVal.l,GVal.ks,GVal.kind] at h1 h2
    split at h
    · simp at h
    split at h
    · simp at h
    split at h
    · simp at h
    simp only [kinds]
    have hl:(saneL l deep (c+1)).1=0:=by
      by_cases h0:(saneL l deep (c+1)).1=0
      · exact h0
      · rw [if_pos h0] at h;exact h
    rw [if_neg (by simp [hl])] at h
    exact ⟨h1,h2,sane_kinds4s l _ _ hl,sane_kinds4s vs _ _ h⟩
theorem sane_kinds4s:∀ (gs:List GVal) (deep c:Int),(saneL gs deep c).1=0->kindss gs
  | [],_,_,_=>trivial
  | g::gs,deep,c,h=>by
    simp only [saneL] at h
    have hg:(saneG g (deep+1) c).1=0:=by
      by_cases h0:(saneG g (deep+1) c).1=0
      · exact h0
      · rw [if_pos h0] at h;exact h
    rw [if_neg (by simp [hg])] at h
    exact ⟨sane_kinds4 g _ _ hg,sane_kinds4s gs _ _ h⟩
end
theorem its_kinds {g:GVal} {x:Itm} (h:g.wf) (hk:kinds g) (hx:x∈its g):kinds x.v:=by
  have h':=(kinds_eq g).1 hk
  rcases List.mem_append.1 (its_mem h hx) with hm | hm
  · exact kindss_mem h'.2.2.1 hm
  · exact kindss_mem h'.2.2.2 hm
theorem Loc.kid_rec {gap:Int} (hg:0<gap) {L:List GRec} {g:GVal} {p:Nat} {now:Int} {pre:List GStep} (h:Loc gap L g p now pre) {m:Nat} {x:Itm} (hx:(its g)[m]?=some x) :
    ∃ r,L[p+1+cntI ((its g).take m)]?=some r/\r.nm=x.nm/\r.name=x.name:=by
  obtain ⟨h1,h2⟩:=h.kid hg hx
  obtain ⟨nm,name,h3⟩:=h1.rec_
  have h4:=h1.place (p+1+cntI ((its g).take m)+1) (by omega)
  unfold upF at h4
  rw [h2,if_neg (by omega),List.reverse_append] at h4
  have h5:stepG L (p+1+cntI ((its g).take m)) ((p:Int).toNat)=stepOf m x:=(List.cons.inj h4).1
  unfold stepG stepOf at h5
  rw [h3] at h5
  dsimp only at h5
  injection h5 with h6 h7 h8
  exact ⟨_,h3,h8,h6⟩
theorem firstR_at {L:List GRec} {s:GStep}:∀ {ks:List Nat} {n m q:Nat} {r:GRec},(∀ (j k:Nat),j<m->ks[j]?=some k->∃ r,L[k]?=some r/\fitsR s (n+j) r=false)->ks[m]?=some q->L[q]?=some r->fitsR s (n+m) r=true ->
    firstR L s ks n=some q
  | k::ks,n,0,q,r,_,h1,h2,h3=>by
    simp only [List.getElem?_cons_zero,Option.some.injEq] at h1
    subst h1
    unfold firstR
    rw [h2]
    dsimp only
    rw [Nat.add_zero] at h3
    rw [if_pos h3]
  | k::ks,n,m+1,q,r,h,h1,h2,h3=>by
    obtain ⟨r0,a1,a2⟩:=h 0 k (by omega) rfl
    unfold firstR
    rw [a1]
    dsimp only
    rw [Nat.add_zero] at a2
    rw [a2,if_neg (by simp)]
    refine firstR_at (m:=m) (fun j k' hj hk'=>?_) (by simpa using h1) h2 (by rw [show n+1+m=n+(m+1) by omega];exact h3)
    have:=h (j+1) k' (by omega) (by simpa using hk')
    rw [show n+(j+1)=n+1+j by omega] at this
    exact this
  | [],_,_,_,_,_,h1,_,_=>by simp at h1
theorem Loc.kid_pos {gap:Int} (hg:0<gap) {L:List GRec} {g:GVal} {p:Nat} {now:Int} {pre:List GStep} (h:Loc gap L g p now pre) {m:Nat} (hm:m<(its g).length):(kidsG L p)[m]?=some (p+1+cntI ((its g).take m)):=by
  rw [h.kids hg,<-vals_its h.wf,pos_get _ _ _ (by simpa [valsI] using hm)]
  unfold cntI valsI
  rw [List.map_take]
theorem fits_self (m:Nat) (x:Itm) {r:GRec} (h1:r.nm=x.nm) (h2:r.name=x.name):fitsR (stepOf m x) m r=true:=by
  unfold fitsR stepOf
  rw [h1,h2]
  cases x.nm<;>simp
theorem fits_other {g:GVal} (hk:keysOk g) {j m:Nat} {x y:Itm} (hx:(its g)[m]?=some x) (hy:(its g)[j]?=some y) (hne:j≠m) {r:GRec} (h1:r.nm=y.nm) (h2:r.name=y.name):fitsR (stepOf m x) j r=false:=by
  have hst:stepOf j y≠stepOf m x:=fun e=>hne (stepOf_inj hk hy hx e)
  unfold fitsR stepOf at *
  rw [h1,h2]
  cases hxn:x.nm<;>cases hyn:y.nm<;>simp_all
  · omega
theorem loc_find {gap:Int} (hg:0<gap) {L:List GRec} {g:GVal} {p:Nat} {now:Int} {P:List GStep} {h:GVal} {q:Nat} {a:Int} (hs:Sub gap g p now P h q a):∀ {pre:List GStep},Loc gap L g p now pre->findR L p P=q:=by
  induction hs with
  | refl=>intro pre _;rfl
  | @step g p now m x P h q a hx hs ih =>
    intro pre hl
    have hlt:=(List.getElem?_eq_some_iff.1 hx).1
    obtain ⟨r,h1,h2,h3⟩:=hl.kid_rec hg hx
    have hf:firstR L (stepOf m x) (kidsG L p) 0=some (p+1+cntI ((its g).take m)):=by
      refine firstR_at (m:=m) (fun j k hj hk=>?_) (hl.kid_pos hg hlt) h1 (by rw [Nat.zero_add];exact fits_self m x h2 h3)
      have hy:(its g)[j]?=some ((its g)[j]'(by omega)):=List.getElem?_eq_getElem _
      obtain ⟨r',a1,a2,a3⟩:=hl.kid_rec hg hy
      rw [hl.kid_pos hg (by omega)] at hk
      obtain rfl:=Option.some.inj hk
      exact ⟨r',a1,by rw [Nat.zero_add];exact fits_other hl.keys hx hy (by omega) a2 a3⟩
    rw [findR,hf]
    exact ih (hl.kid hg hx).1
theorem Loc.last {gap:Int} (hg:0<gap) {L:List GRec} {g:GVal} {p:Nat} {now:Int} {pre:List GStep} (h:Loc gap L g p now pre):lastG L p=p+cntV g - 1:=by
  obtain ⟨nm,name,rest,h1,hfr⟩:=h.at_
  obtain ⟨nm',name',hr⟩:=h.rec_
  have h2:=congrArg (List.map se) h1
  rw [List.map_drop,List.map_append,(shredV_sk gap g _ nm name now h.wf).1,skV_eq,List.cons_append] at h2
  obtain ⟨-,h4⟩:=drop_at h2
  have hce:=cntV_eq g
  have hwe:=wV_eq gap g
  have hrun:runP (now+wV gap g) ((L.map se).drop (p+1))=cntL (g.l++g.vs):=by
    rw [h4,runP_block hfr _ (fun x hx=>by have:=skL_bd hg _ _ x hx;omega),skL_len]
  unfold lastG runK
  rw [hr]
  show ((p+1+runL (now+wV gap g) (L.drop (p+1)):Nat):Int) - 1=_
  rw [runL_se,List.map_drop,hrun,cntL_append]
  omega
end Go.Sy
/- Plain laws: lists of records that are a value's, whatever their numbers, as long as these go up. No program in sight. -/
namespace Go.Sy
mutual
inductive LayV:GVal->Int->Bool->ByteArray->Int->List GRec->Int->Prop
  | mk {g:GVal} {lv:Int} {nm:Bool} {name:ByteArray} {lo st en m hi:Int} {K:List GRec} (h1:lo<st) (h2:LayI (its g) (lv+1) st K m) (h3:m<en) (h4:en<=hi):LayV g lv nm name lo (⟨st,en,lv,g.kind,nm,name,g.b,g.n,g.s⟩::K) hi
inductive LayI:List Itm->Int->Int->List GRec->Int->Prop
  | nil {lv lo hi:Int} (h:lo<=hi):LayI [] lv lo [] hi
  | cons {x:Itm} {xs:List Itm} {lv lo mid hi:Int} {A B:List GRec} (h1:LayV x.v lv x.nm x.name lo A mid) (h2:LayI xs lv mid B hi):LayI (x::xs) lv lo (A++B) hi
end
mutual
theorem LayV.le:∀ {g:GVal} {lv:Int} {nm:Bool} {name:ByteArray} {lo hi:Int} {L:List GRec},LayV g lv nm name lo L hi->lo+2<=hi
  | _,_,_,_,_,_,_,.mk h1 h2 h3 h4=>by have:=h2.le;omega
theorem LayI.le:∀ {xs:List Itm} {lv lo hi:Int} {L:List GRec},LayI xs lv lo L hi->lo<=hi
  | _,_,_,_,_,.nil h=>h
  | _,_,_,_,_,.cons h1 h2=>by have:=h1.le;have:=h2.le;omega
end
mutual
theorem LayV.bd:∀ {g:GVal} {lv:Int} {nm:Bool} {name:ByteArray} {lo hi:Int} {L:List GRec},LayV g lv nm name lo L hi->∀ r∈L,lo<r.st/\r.st<r.en/\r.en<=hi
  | _,_,_,_,_,_,_,.mk h1 h2 h3 h4=>by
    intro r hr
    have hl:=h2.le
    rcases List.mem_cons.1 hr with rfl | hr
    · dsimp only
      omega
    · have:=h2.bd r hr
      omega
theorem LayI.bd:∀ {xs:List Itm} {lv lo hi:Int} {L:List GRec},LayI xs lv lo L hi->∀ r∈L,lo<r.st/\r.st<r.en/\r.en<=hi
  | _,_,_,_,_,.nil h=>by intro r hr;cases hr
  | _,_,_,_,_,.cons h1 h2=>by
    intro r hr
    have:=h1.le
    have:=h2.le
    rcases List.mem_append.1 hr with hr | hr
    · have:=h1.bd r hr;omega
    · have:=h2.bd r hr;omega
end
theorem LayV.up {g:GVal} {lv:Int} {nm:Bool} {name:ByteArray} {lo hi lo' hi':Int} {L:List GRec} (h:LayV g lv nm name lo L hi) (h1:lo'<=lo) (h2:hi<=hi'):LayV g lv nm name lo' L hi':=by
  cases h with
  | mk a b c d=>exact .mk (by omega) b c (by omega)
theorem LayI.hi_up:∀ {xs:List Itm} {lv lo hi hi':Int} {L:List GRec},LayI xs lv lo L hi->hi<=hi'->LayI xs lv lo L hi'
  | [],_,_,_,_,_,h,h2=>by
    cases h with
    | nil h=>exact .nil (by omega)
  | _::_,_,_,_,_,_,h,h2=>by
    cases h with
    | cons a b=>exact .cons a (b.hi_up h2)
theorem LayI.up {xs:List Itm} {lv lo hi lo' hi':Int} {L:List GRec} (h:LayI xs lv lo L hi) (h1:lo'<=lo) (h2:hi<=hi'):LayI xs lv lo' L hi':=by
  cases h with
  | nil h=>exact .nil (by omega)
  | cons a b=>exact .cons (a.up h1 (Int.le_refl _)) (b.hi_up h2)
theorem LayI.append:∀ {xs ys:List Itm} {lv lo mid hi:Int} {A B:List GRec},LayI xs lv lo A mid->LayI ys lv mid B hi->LayI (xs++ys) lv lo (A++B) hi
  | [],_,_,_,_,_,_,_,h1,h2=>by
    cases h1 with
    | nil h=>exact h2.up h (Int.le_refl _)
  | _::_,_,_,_,_,_,_,_,h1,h2=>by
    cases h1 with
    | cons a b =>
      rw [List.append_assoc]
      exact .cons a (b.append h2)
mutual
theorem LayV.len:∀ {g:GVal} {lv:Int} {nm:Bool} {name:ByteArray} {lo hi:Int} {L:List GRec},LayV g lv nm name lo L hi->g.wf->L.length=cntV g
  | _,_,_,_,_,_,_,.mk h1 h2 h3 h4,hw=>by
    rw [List.length_cons,h2.len (wfs_its hw),cntI_its hw]
    omega
theorem LayI.len:∀ {xs:List Itm} {lv lo hi:Int} {L:List GRec},LayI xs lv lo L hi->GVal.wfs (valsI xs)->L.length=cntI xs
  | _,_,_,_,_,.nil h,_=>rfl
  | _,_,_,_,_,.cons h1 h2,hw=>by
    simp only [valsI,List.map_cons,GVal.wfs] at hw
    rw [List.length_append,h1.len hw.1,h2.len hw.2]
    rfl
end
mutual
theorem shredV_lay {gap:Int} (hg:0<gap):∀ (n:Nat) (g:GVal),cntV g<=n->g.wf->∀ (lv:Int) (nm:Bool) (name:ByteArray) (now:Int),LayV g lv nm name now (shredV gap g lv nm name now).1 (now+wV gap g)
  | 0,g,hn,_,_,_,_,_=>by have:=cntV_pos g;omega
  | n+1,g,hn,hw,lv,nm,name,now=>by
    rw [shredV_its gap g lv nm name now hw]
    have hc:=cntI_its hw
    have hl:=shredI_lay hg n (its g) (by omega) (wfs_its hw) (lv+1) (now+gap)
    have hwe:=wI_its (gap:=gap) hw
    exact .mk (by omega) hl (by omega) (by omega)
termination_by n=>(n,0)
theorem shredI_lay {gap:Int} (hg:0<gap):∀ (n:Nat) (xs:List Itm),cntI xs<=n->GVal.wfs (valsI xs)->∀ (lv now:Int),LayI xs lv now (shredI gap xs lv now).1 (now+wI gap xs)
  | _,[],_,_,_,now=>.nil (by unfold wI;simp [valsI,wL])
  | n,x::xs,hn,hw,lv,now=>by
    simp only [valsI,List.map_cons,GVal.wfs] at hw
    have hc:cntI (x::xs)=cntV x.v+cntI xs:=rfl
    have he:wI gap (x::xs)=wV gap x.v+wI gap xs:=rfl
    have hs:=(shredV_sk gap x.v lv x.nm x.name now hw.1).2
    have h1:=shredV_lay hg n x.v (by omega) hw.1 lv x.nm x.name now
    have h2:=shredI_lay hg n xs (by omega) hw.2 lv (now+wV gap x.v)
    unfold shredI
    dsimp only
    rw [hs,he,<-Int.add_assoc]
    exact .cons h1 h2
termination_by n xs=>(n,xs.length+1)
end
theorem shred_lay {gap:Int} (hg:0<gap) {g:GVal} (hw:g.wf) (lv:Int) (nm:Bool) (name:ByteArray) (now:Int):LayV g lv nm name now (shredV gap g lv nm name now).1 (now+wV gap g):=shredV_lay hg _ g (Nat.le_refl _) hw lv nm name now
theorem shredI_lay' {gap:Int} (hg:0<gap) {xs:List Itm} (hw:GVal.wfs (valsI xs)) (lv now:Int):LayI xs lv now (shredI gap xs lv now).1 (now+wI gap xs):=shredI_lay hg _ xs (Nat.le_refl _) hw lv now
mutual
theorem LayV.map {φ:Int->Int} (hφ:Incr φ):∀ {g:GVal} {lv:Int} {nm:Bool} {name:ByteArray} {lo hi:Int} {L:List GRec},LayV g lv nm name lo L hi->0<=lo->LayV g lv nm name (φ lo) (L.map (stE φ)) (φ hi)
  | _,_,_,_,lo,hi,_,.mk (st:=st) (en:=en) (m:=m) h1 h2 h3 h4,h0=>by
    have hl:=h2.le
    have a1:=hφ lo st h0 h1
    have a2:=hφ m en (by omega) h3
    have a3:φ en<=φ hi:=by
      by_cases he:en=hi
      · rw [he];exact Int.le_refl _
      · have:=hφ en hi (by omega) (by omega);omega
    exact .mk a1 (h2.map hφ (by omega)) a2 a3
theorem LayI.map {φ:Int->Int} (hφ:Incr φ):∀ {xs:List Itm} {lv lo hi:Int} {L:List GRec},LayI xs lv lo L hi->0<=lo->LayI xs lv (φ lo) (L.map (stE φ)) (φ hi)
  | _,_,lo,hi,_,.nil h,h0=>by
    refine .nil ?_
    by_cases he:lo=hi
    · rw [he];exact Int.le_refl _
    · have:=hφ lo hi h0 (by omega);omega
  | _,_,_,_,_,.cons h1 h2,h0=>by
    have:=h1.le
    rw [List.map_append]
    exact .cons (h1.map hφ h0) (h2.map hφ (by omega))
end
mutual
theorem LayV.nest:∀ {g:GVal} {lv:Int} {nm:Bool} {name:ByteArray} {lo hi:Int} {L:List GRec},LayV g lv nm name lo L hi->∀ (k:Nat) (ro0 ro:List GRec) (last0 last:Int) (rest:List GRec),AtN lv ro0 last0 ro last->0<=lv->decide (lv=0)=decide ((k:Int)=0)->last<=lo ->
    ∃ ro1 last1 last2,AtN lv ro1 last1 ro last2/\last2<=hi/\nestFrom k ro0 last0 (L++rest)=nestFrom (k+L.length) ro1 last1 rest
  | g,lv,nm,name,lo,hi,_,.mk (st:=st) (en:=en) (m:=m) (K:=K) h1 h2 h3 h4,k,ro0,ro,last0,last,rest,hA,h0,hk,hl=>by
    have hlen:=hA.len
    have hle:=hA.le
    simp only [List.cons_append,nestFrom]
    rw [if_neg (by rw [hk];simp;omega),hA.cl]
    dsimp only
    rw [if_neg (by omega)]
    generalize hr0:(⟨st,en,lv,g.kind,nm,name,g.b,g.n,g.s⟩:GRec)=r0
    have hen:r0.en=en:=by rw [<-hr0]
    obtain ⟨ro1,last1,last2,hA1,hl2,he1⟩:=h2.nest (k+1) (r0::ro) (r0::ro) st st rest
      ⟨closeTo_same _ (by simp only [List.length_cons];omega),by simp only [List.length_cons];omega,by simp only [List.length_cons];omega⟩ (by omega) (Nat.succ_pos k) (Int.le_refl _)
    refine ⟨ro1,last1,en,⟨?_,hlen,by have:=hA1.le;omega⟩,h4,?_⟩
    · obtain ⟨x,hx⟩:=closeTo_suffix _ _ _ _ hA1.cl
      have hx:ro1=x++(r0::ro):=hx
      have hlr:(((r0::ro).length:Nat):Int)=lv+1:=hA1.len
      have hcl:=hA1.cl
      rw [<-hlr,hx] at hcl
      rw [hx,closeTo_trans x (r0::ro) last1 last2 hcl lv (by omega),closeTo,if_pos (by omega),if_neg (by omega),hen]
      exact closeTo_same _ hlen
    · rw [he1,List.length_cons]
      congr 1
      omega
theorem LayI.nest:∀ {xs:List Itm} {lv lo hi:Int} {L:List GRec},LayI xs lv lo L hi->∀ (k:Nat) (ro0 ro:List GRec) (last0 last:Int) (rest:List GRec),AtN lv ro0 last0 ro last->1<=lv->0<k->last<=lo ->
    ∃ ro1 last1 last2,AtN lv ro1 last1 ro last2/\last2<=hi/\nestFrom k ro0 last0 (L++rest)=nestFrom (k+L.length) ro1 last1 rest
  | _,_,_,_,_,.nil h,k,ro0,ro,last0,last,rest,hA,h0,hk,hl=>⟨ro0,last0,last,hA,by omega,rfl⟩
  | _,lv,_,_,_,.cons (A:=A) (B:=B) h1 h2,k,ro0,ro,last0,last,rest,hA,h0,hk,hl=>by
    rw [List.append_assoc,List.length_append]
    obtain ⟨ro1,last1,last2,hA1,hl2,he1⟩:=h1.nest k ro0 ro last0 last (B++rest) hA (by omega) (by rw [decide_eq_false (by omega),decide_eq_false (by omega)]) hl
    obtain ⟨ro2,last3,last4,hA2,hl4,he2⟩:=h2.nest (k+A.length) ro1 ro last1 last2 rest hA1 h0 (by omega) hl2
    exact ⟨ro2,last3,last4,hA2,hl4,by rw [he1,he2,Nat.add_assoc]⟩
end
theorem LayV.nested {g:GVal} {nm:Bool} {name:ByteArray} {lo hi:Int} {L:List GRec} (h:LayV g 0 nm name lo L hi) (h0:-1<=lo):nestedG L=true:=by
  unfold nestedG
  obtain ⟨ro1,last1,last2,hA,-,he⟩:=h.nest 0 [] [] (-1) (-1) [] ⟨rfl,rfl,Int.le_refl _⟩ (Int.le_refl _) rfl h0
  rw [List.append_nil] at he
  rw [he,nestFrom,closeAll_of ro1 last1 _ hA.cl,Bool.true_and]
  cases h
  rw [List.length_cons]
  exact decide_eq_true (by omega)
def er (r:GRec):GRec:=stE (fun _=>0) r
mutual
theorem LayV.er_eq:∀ {g:GVal} {lv:Int} {nm:Bool} {name:ByteArray} {lo hi:Int} {L:List GRec},LayV g lv nm name lo L hi->g.wf->∀ (gap now:Int),L.map er=(shredV gap g lv nm name now).1.map er
  | _,lv,nm,name,_,_,_,.mk h1 h2 h3 h4,hw,gap,now=>by
    rw [shredV_its gap _ lv nm name now hw,List.map_cons,List.map_cons,h2.er_eq (wfs_its hw) gap (now+gap)]
    rfl
theorem LayI.er_eq:∀ {xs:List Itm} {lv lo hi:Int} {L:List GRec},LayI xs lv lo L hi->GVal.wfs (valsI xs)->∀ (gap now:Int),L.map er=(shredI gap xs lv now).1.map er
  | _,_,_,_,_,.nil h,_,_,_=>rfl
  | x::xs,lv,_,_,_,.cons h1 h2,hw,gap,now=>by
    simp only [valsI,List.map_cons,GVal.wfs] at hw
    unfold shredI
    rw [List.map_append,List.map_append,h1.er_eq hw.1 gap now,h2.er_eq hw.2 gap (shredV gap x.v lv x.nm x.name now).2]
end
theorem namedFrom_er:∀ (L:List GRec) (op:List Int),namedFrom op (L.map er)=namedFrom op L
  | [],_=>rfl
  | r::l,op=>by
    have ih:=namedFrom_er l (op.take r.lv.toNat++[r.kd])
    rw [List.map_cons,namedFrom,namedFrom]
    show (if _ then false else namedFrom (op.take r.lv.toNat++[r.kd]) (l.map er))=_
    rw [ih]
    rfl
mutual
theorem buildN_er:∀ (n:Nat) (L:List GRec),buildN n (L.map er)=((buildN n L).1,(buildN n L).2.map er)
  | 0,_=>rfl
  | _+1,[]=>rfl
  | n+1,r::l=>by
    rw [List.map_cons,buildN,buildN,show (er r).lv=r.lv from rfl,kidsN_er n r.lv l]
    rfl
theorem kidsN_er:∀ (n:Nat) (lv:Int) (L:List GRec),kidsN n lv (L.map er)=⟨(kidsN n lv L).ls,(kidsN n lv L).ks,(kidsN n lv L).vs,(kidsN n lv L).rest.map er⟩
  | 0,_,_=>rfl
  | _+1,_,[]=>rfl
  | n+1,lv,k::l=>by
    have h1:=buildN_er n (k::l)
    rw [List.map_cons] at h1
    rw [List.map_cons,kidsN,kidsN,h1]
    dsimp only
    rw [kidsN_er n lv (buildN n (k::l)).2]
    show (if lv<k.lv then if k.nm=true then _ else _ else _)=_
    by_cases ha:lv<k.lv
    · rw [if_pos ha,if_pos ha]
      by_cases hb:k.nm=true
      · rw [if_pos hb,if_pos hb];rfl
      · rw [if_neg hb,if_neg hb]
    · rw [if_neg ha,if_neg ha]
      rfl
end
theorem LayV.named {g:GVal} {lo hi:Int} {L:List GRec} (h:LayV g 0 false emptyS lo L hi) (hw:g.wf) (hk:kindOk g):namedG L=true:=by
  have h1:=named_shred (fun _=>0) 1 g hk
  have h2:=h.er_eq hw 1 0
  unfold namedG at h1 ⊢
  rw [<-namedFrom_er,h2]
  exact h1
theorem LayV.built {g:GVal} {nm:Bool} {name:ByteArray} {lo hi:Int} {L:List GRec} (h:LayV g 0 nm name lo L hi) (hw:g.wf):buildG L=(g,[]):=by
  have h1:=build_shred (fun _=>0) 1 g nm name 0 hw
  have h2:=h.er_eq hw 1 0
  have hl:=congrArg List.length h2
  rw [List.length_map,List.length_map] at hl
  unfold buildG at h1 ⊢
  have h3:=buildN_er (enough L) L
  rw [h2] at h3
  have he:enough ((shredV 1 g 0 nm name 0).1.map (stE fun _=>0))=enough L:=by unfold enough;rw [List.length_map,hl]
  rw [he] at h1
  have h4:(((buildN (enough L) L).1,(buildN (enough L) L).2.map er):GVal×List GRec)=(g,[]):=by rw [<-h3];exact h1
  have h5:=congrArg Prod.fst h4
  have h6:=congrArg Prod.snd h4
  dsimp only at h5 h6
  rw [List.map_eq_nil_iff] at h6
  rw [<-h5,<-h6]
theorem LayV.buildR {g:GVal} {lo hi:Int} {L:List GRec} (h:LayV g 0 false emptyS lo L hi) (h0:-1<=lo) (hw:g.wf) (hs:sane g=0) (hl:L.length<=4096) (hen:hi<=1099511627776):Go.Sy.buildR L=(g,0):=by
  have h1:=h.nested h0
  have h2:=h.named hw (sane_kind g 0 0 hw hs)
  have h3:=h.built hw
  unfold Go.Sy.buildR
  rw [if_neg,if_neg,h3]
  · rw [h3];simp [hs]
  · rw [h1,h2]
    have h4:(L.head?.map GRec.en).getD 0<=1099511627776:=by
      cases h with
      | mk a b c d=>show _<=_;dsimp only [List.head?_cons,Option.map_some,Option.getD_some];omega
    rintro (h | h | h | h)
    · omega
    · cases h
    · cases h
    · omega
def setIt (g:GVal) (m:Nat) (v:GVal):GVal:=if m<g.l.length then .mk g.kind g.b g.n g.s (g.l.set m v) g.ks g.vs else .mk g.kind g.b g.n g.s g.l g.ks (g.vs.set (m - g.l.length) v)
theorem itsM_set:∀ (vs:List GVal) (ks:List ByteArray) (m:Nat) (v:GVal) (x:Itm),(itsM vs ks)[m]?=some x->itsM (vs.set m v) ks=(itsM vs ks).set m ⟨x.nm,x.name,v⟩
  | [],ks,m,v,x,h=>by cases ks<;>simp [itsM] at h
  | g::gs,[],m,v,x,h=>by simp [itsM] at h
  | g::gs,k::ks,0,v,x,h=>by
    simp only [itsM,List.getElem?_cons_zero,Option.some.injEq] at h
    subst h
    rfl
  | g::gs,k::ks,m+1,v,x,h=>by
    simp only [itsM,List.getElem?_cons_succ] at h
    simp only [List.set_cons_succ,itsM,itsM_set gs ks m v x h]
theorem its_set {g:GVal} {m:Nat} {x:Itm} (v:GVal) (h:(its g)[m]?=some x):its (setIt g m v)=(its g).set m ⟨x.nm,x.name,v⟩:=by
  have hlen:(itsL g.l).length=g.l.length:=by simp [itsL]
  unfold setIt
  by_cases hm:m<g.l.length
  · rw [if_pos hm]
    unfold its at h ⊢
    rw [List.getElem?_append_left (by omega)] at h
    rw [List.set_append_left _ _ (by omega)]
    simp only [itsL,List.getElem?_map,Option.map_eq_some_iff] at h
    obtain ⟨_,_,rfl⟩:=h
    show itsL (g.l.set m v)++_=_
    unfold itsL
    rw [List.map_set]
    rfl
  · rw [if_neg hm]
    unfold its at h ⊢
    rw [List.getElem?_append_right (by omega),hlen] at h
    rw [List.set_append_right _ _ (by omega),hlen]
    show _++itsM (g.vs.set _ v) g.ks=_
    rw [itsM_set _ _ _ _ _ h]
    rfl
theorem setIt_kind (g:GVal) (m:Nat) (v:GVal):(setIt g m v).kind=g.kind/\(setIt g m v).b=g.b/\(setIt g m v).n=g.n/\(setIt g m v).s=g.s:=by
  unfold setIt
  split<;>exact ⟨rfl,rfl,rfl,rfl⟩
theorem wfs_set:∀ {l:List GVal} {m:Nat} {v:GVal},GVal.wfs l->v.wf->GVal.wfs (l.set m v)
  | [],_,_,h,_=>h
  | _::_,0,_,h,hv=>⟨hv,h.2⟩
  | _::l,m+1,_,h,hv=>⟨h.1,wfs_set (l:=l) (m:=m) h.2 hv⟩
theorem setIt_wf {g:GVal} {m:Nat} {v:GVal} (h:g.wf) (hv:v.wf):(setIt g m v).wf:=by
  obtain ⟨h1,h2,h3⟩:=(wf_eq g).1 h
  unfold setIt
  split
  · rw [wf_eq]
    exact ⟨h1,wfs_set h2 hv,h3⟩
  · rw [wf_eq]
    exact ⟨by show g.ks.length=(g.vs.set _ v).length;rw [List.length_set];exact h1,h2,wfs_set h3 hv⟩
inductive Swap:GVal->GVal->List GStep->GVal->GVal->Prop
  | refl (h h':GVal):Swap h h' [] h h'
  | step {g v':GVal} {m:Nat} {x:Itm} {P:List GStep} {h h':GVal} (hx:(its g)[m]?=some x) (hs:Swap x.v v' P h h'):Swap g (setIt g m v') (stepOf m x::P) h h'
theorem Swap.wf {g g':GVal} {P:List GStep} {h h':GVal} (hs:Swap g g' P h h') (hw:g.wf) (hh:h'.wf):g'.wf:=by
  induction hs with
  | refl=>exact hh
  | @step g v' m x P h h' hx hs ih=>exact setIt_wf hw (ih (its_wf hw (List.mem_of_getElem? hx)) hh)
theorem Sub.swap {gap:Int} (hg:0<gap) {g:GVal} {p:Nat} {now:Int} {P:List GStep} {h:GVal} {q:Nat} {now':Int} (hs:Sub gap g p now P h q now') (h':GVal):g.wf->∃ g',Swap g g' P h h'/\∀ (lv:Int) (nm:Bool) (name:ByteArray),
    ∃ pre post nm' name',(shredV gap g lv nm name now).1=pre++((shredV gap h (lv+P.length) nm' name' now').1++post)/\q=p+pre.length/\(P=[]->nm'=nm/\name'=name) /\
      ∀ H':List GRec,LayV h' (lv+P.length) nm' name' now' H' (now'+wV gap h)->LayV g' lv nm name now (pre++(H'++post)) (now+wV gap g):=by
  induction hs with
  | refl g p now =>
    intro hw
    refine ⟨h',.refl g h',fun lv nm name=>⟨[],[],nm,name,by simp,by simp,fun _=>⟨rfl,rfl⟩,fun H' hl=>?_⟩⟩
    simpa using hl
  | @step g p now m x P h q now' hx hs ih =>
    intro hw
    have hm:=List.mem_of_getElem? hx
    have hwx:=its_wf hw hm
    obtain ⟨v',hv,hd⟩:=ih hwx
    refine ⟨setIt g m v',.step hx hv,fun lv nm name=>?_⟩
    obtain ⟨pre,post,nm',name',h1,h2,-,h4⟩:=hd (lv+1) x.nm x.name
    have hwi:=wfs_its hw
    have hsp:=split_at hx
    have hwt:GVal.wfs (valsI ((its g).take m)):=by
      rw [hsp,valsI_append,wfs_append] at hwi
      exact hwi.1
    have hwd:GVal.wfs (valsI ((its g).drop (m+1))):=by
      rw [hsp,valsI_append,wfs_append] at hwi
      exact hwi.2.2
    have hsk:=shredI_sk gap ((its g).take m) (lv+1) (now+gap) hwt
    have hl1:(shredI gap ((its g).take m) (lv+1) (now+gap)).1.length=cntI ((its g).take m):=by
      have:=congrArg List.length hsk.1
      rw [List.length_map,skL_len] at this
      exact this
    have e2:(shredI gap ((its g).take m) (lv+1) (now+gap)).2=now+gap+wI gap ((its g).take m):=hsk.2
    have hsv:=(shredV_sk gap x.v (lv+1) x.nm x.name (now+gap+wI gap ((its g).take m)) hwx).2
    have hI:(shredI gap (its g) (lv+1) (now+gap)).1=(shredI gap ((its g).take m) (lv+1) (now+gap)).1++((pre++((shredV gap h (lv+1+P.length) nm' name' now').1++post))++(shredI gap ((its g).drop (m+1)) (lv+1) (now+gap+wI gap ((its g).take m)+wV gap x.v)).1):=by
      conv=>lhs;rw [hsp]
      rw [shredI_append,e2]
      dsimp only
      rw [shredI]
      dsimp only
      rw [hsv,h1]
    have hlv:lv+1+(P.length:Int)=lv+((stepOf m x::P).length:Nat):=by rw [List.length_cons];omega
    have hwe:=wI_its (gap:=gap) hw
    have hws:=wI_split (gap:=gap) hx
    rw [hlv] at hI h4
    refine ⟨⟨now+gap,now+wV gap g,lv,g.kind,nm,name,g.b,g.n,g.s⟩::((shredI gap ((its g).take m) (lv+1) (now+gap)).1++pre),post++(shredI gap ((its g).drop (m+1)) (lv+1) (now+gap+wI gap ((its g).take m)+wV gap x.v)).1,nm',name',?_,?_,fun h=>(by cases h),fun H' hl=>?_⟩
    · rw [shredV_its gap g lv nm name now hw,hI]
      simp only [List.cons_append,List.append_assoc]
    · rw [h2,List.length_cons,List.length_append,hl1]
      omega
    · have h5:=h4 H' hl
      obtain ⟨k1,k2,k3,k4⟩:=setIt_kind g m v'
      have hits:=its_set v' hx
      have hset:(its g).set m ⟨x.nm,x.name,v'⟩=(its g).take m++(⟨x.nm,x.name,v'⟩::(its g).drop (m+1)):=by
        rw [List.set_eq_take_append_cons_drop,if_pos (List.getElem?_eq_some_iff.1 hx).1]
      have hA:=shredI_lay' hg hwt (lv+1) (now+gap)
      have hC:=shredI_lay' hg hwd (lv+1) (now+gap+wI gap ((its g).take m)+wV gap x.v)
      have hB:LayI ((its g).take m++(⟨x.nm,x.name,v'⟩::(its g).drop (m+1))) (lv+1) (now+gap) ((shredI gap ((its g).take m) (lv+1) (now+gap)).1++((pre++(H'++post))++(shredI gap ((its g).drop (m+1)) (lv+1) (now+gap+wI gap ((its g).take m)+wV gap x.v)).1)) (now+gap+wI gap (its g)) :=
        hA.append (.cons h5 (hC.up (Int.le_refl _) (by omega)))
      rw [<-hset,<-hits] at hB
      have:=LayV.mk (nm:=nm) (name:=name) (lo:=now) (st:=now+gap) (en:=now+wV gap g) (by omega) hB (by omega) (Int.le_refl _)
      rw [k1,k2,k3,k4] at this
      simpa only [List.cons_append,List.append_assoc] using this
end Go.Sy
/- Plain: what the program computes of changes of records; records numbered anew tell their value. No program in sight. -/
namespace Go.Sy
def stAt (L:List GRec) (i:Nat):Int:=(L[i]?.map GRec.st).getD 0
def enAt (L:List GRec) (i:Nat):Int:=(L[i]?.map GRec.en).getD 0
structure RnS where
  L:List GRec
  op:List Nat
  ord:Int
def GRec.atSt (r:GRec) (x:Int):GRec:=⟨x,r.en,r.lv,r.kd,r.nm,r.name,r.b,r.n,r.s⟩
def GRec.atEn (r:GRec) (x:Int):GRec:=⟨r.st,x,r.lv,r.kd,r.nm,r.name,r.b,r.n,r.s⟩
def setEn (L:List GRec) (i:Nat) (x:Int):List GRec:=match L[i]? with
  | some r=>L.set i (r.atEn x)
  | none=>L
def setSt (L:List GRec) (i:Nat) (x:Int):List GRec:=match L[i]? with
  | some r=>L.set i (r.atSt x)
  | none=>L
theorem setEn_len (L:List GRec) (i:Nat) (x:Int):(setEn L i x).length=L.length:=by
  unfold setEn
  split
  · rw [List.length_set]
  · rfl
def shutS (lv:Int):List GRec->List Nat->Int->RnS
  | L,[],ord=>⟨L,[],ord⟩
  | L,t::op,ord=>if lv<(op.length:Int)+1 then shutS lv (setEn L t ord) op (ord+1) else ⟨L,t::op,ord⟩
def lvAt (L:List GRec) (i:Nat):Int:=(L[i]?.map GRec.lv).getD 0
def stepR (s:RnS) (k:Nat):RnS :=
  let t:=shutS (lvAt s.L k) s.L s.op s.ord
  ⟨setSt t.L k t.ord,k::t.op,t.ord+1⟩
def runR (s:RnS) (a n:Nat):RnS:=(List.range' a n).foldl stepR s
def renumG (L:List GRec):List GRec :=
  let s:=runR ⟨L,[],0⟩ 0 L.length
  (shutS 0 s.L s.op s.ord).L
mutual
def treeN:Nat->List GRec->GVal
  | 0,_=>gval0
  | _+1,[]=>gval0
  | n+1,r::l=>.mk r.kd r.b r.n r.s (forestN n l).ls (forestN n l).ks (forestN n l).vs
def forestN:Nat->List GRec->Kids
  | 0,_=>⟨[],[],[],[]⟩
  | _+1,[]=>⟨[],[],[],[]⟩
  | n+1,k::l =>
    let R:=forestN n (l.drop (runL k.en l))
    let x:=treeN n (k::l.take (runL k.en l))
    if k.nm then ⟨R.ls,k.name::R.ks,x::R.vs,[]⟩ else ⟨x::R.ls,R.ks,R.vs,[]⟩
end
def treeG (L:List GRec):GVal:=treeN (enough L) L
def recW (r:GRec):Nat:=1+r.s.size+r.n.dg.size+r.name.size
def recsW:List GRec->Nat
  | []=>0
  | r::l=>recW r+recsW l
theorem recsW_append:∀ a b:List GRec,recsW (a++b)=recsW a+recsW b
  | [],b=>by simp [recsW]
  | r::a,b=>by simp only [List.cons_append,recsW,recsW_append a b];omega
theorem recsW_len:∀ L:List GRec,L.length<=recsW L
  | []=>Nat.le_refl _
  | r::l=>by have:=recsW_len l;simp only [List.length_cons,recsW,recW];omega
mutual
theorem treeN_w:∀ (n:Nat) (L:List GRec),0<L.length->(treeN n L).weight<=recsW L
  | 0,L,h=>by
    have:gval0.weight=1:=rfl
    have:=recsW_len L
    rw [treeN]
    omega
  | n+1,[],h=>by simp at h
  | n+1,r::l,_=>by
    have:=forestN_w n l
    rw [treeN,GVal.weight,recsW,recW]
    omega
theorem forestN_w:∀ (n:Nat) (L:List GRec),GVal.weights (forestN n L).ls+sizes (forestN n L).ks+GVal.weights (forestN n L).vs<=recsW L
  | 0,L=>by rw [forestN];simp [GVal.weights,sizes]
  | n+1,[]=>by rw [forestN];simp [GVal.weights,sizes]
  | n+1,k::l=>by
    have h1:=treeN_w n (k::l.take (runL k.en l)) (by simp)
    have h2:=forestN_w n (l.drop (runL k.en l))
    have h3:recsW (l.take (runL k.en l))+recsW (l.drop (runL k.en l))=recsW l:=by rw [<-recsW_append,List.take_append_drop]
    rw [recsW] at h1
    rw [forestN,recsW]
    by_cases hn:k.nm=true
    · rw [if_pos hn]
      dsimp only
      rw [sizes,GVal.weights]
      have:(treeN n (k::l.take (runL k.en l))).weight+k.name.size<=recW k+recsW (l.take (runL k.en l)):=by
        cases n with
        | zero =>
          have:gval0.weight=1:=rfl
          rw [treeN,recW]
          omega
        | succ n =>
          have:=forestN_w n (l.take (runL k.en l))
          rw [treeN,GVal.weight,recW]
          omega
      omega
    · rw [if_neg hn]
      dsimp only
      rw [GVal.weights]
      omega
end
theorem shutS_len:∀ (lv:Int) (L:List GRec) (op:List Nat) (ord:Int),(shutS lv L op ord).L.length=L.length
  | _,L,[],_=>rfl
  | lv,L,t::op,ord=>by
    rw [shutS]
    split
    · rw [shutS_len lv,setEn_len]
    · rfl
theorem setEn_lv (L:List GRec) (i:Nat) (x:Int) (k:Nat):lvAt (setEn L i x) k=lvAt L k:=by
  unfold lvAt setEn
  split
  · rename_i r hr
    rw [List.getElem?_set]
    by_cases h:i=k
    · subst h
      rw [if_pos rfl,if_pos (List.getElem?_eq_some_iff.1 hr).1,hr]
      rfl
    · rw [if_neg h]
  · rfl
theorem shutS_lv:∀ (lv:Int) (L:List GRec) (op:List Nat) (ord:Int) (k:Nat),lvAt (shutS lv L op ord).L k=lvAt L k
  | _,L,[],_,_=>rfl
  | lv,L,t::op,ord,k=>by
    rw [shutS]
    split
    · rw [shutS_lv lv,setEn_lv]
    · rfl
theorem shutS_same {lv:Int} (L:List GRec) (op:List Nat) (ord:Int) (h:(op.length:Int)<=lv):shutS lv L op ord=⟨L,op,ord⟩:=by
  cases op with
  | nil=>rfl
  | cons t op =>
    rw [List.length_cons] at h
    rw [shutS,if_neg (by omega)]
theorem shutS_trans:∀ (lv lv':Int) (_:lv'<=lv) (L:List GRec) (op:List Nat) (ord:Int),shutS lv' (shutS lv L op ord).L (shutS lv L op ord).op (shutS lv L op ord).ord=shutS lv' L op ord
  | _,_,_,L,[],_=>rfl
  | lv,lv',h,L,t::op,ord=>by
    by_cases h1:lv<(op.length:Int)+1
    · conv=>rhs;rw [shutS,if_pos (by omega)]
      rw [shutS,if_pos h1]
      exact shutS_trans lv lv' h _ _ _
    · rw [shutS_same (lv:=lv) L (t::op) ord (by rw [List.length_cons];omega)]
theorem er_map {L M:List GRec} (h:L.map er=M.map er) (k:Nat):(L[k]?.map er)=(M[k]?.map er):=by
  have:=congrArg (fun l:List GRec=>l[k]?) h
  simpa using this
theorem er_lv {L M:List GRec} (h:L.map er=M.map er) (k:Nat):lvAt L k=lvAt M k:=by
  have:=congrArg (fun o:Option GRec=>(o.map GRec.lv).getD 0) (er_map h k)
  have h0:∀ o:Option GRec,((o.map er).map GRec.lv).getD 0=(o.map GRec.lv).getD 0:=fun o=>by cases o<;>rfl
  unfold lvAt
  rw [<-h0,this,h0]
theorem runR_add (s:RnS) (a m n:Nat):runR s a (m+n)=runR (runR s a m) (a+m) n:=by
  unfold runR
  rw [<-List.range'_append_1,List.foldl_append]
theorem runR_one (s:RnS) (a:Nat):runR s a 1=stepR s a:=rfl
theorem setSt_at (A C:List GRec) (r:GRec) (x:Int):setSt (A++r::C) A.length x=A++r.atSt x::C:=by
  unfold setSt
  rw [List.getElem?_append_right (Nat.le_refl _),Nat.sub_self]
  dsimp only [List.getElem?_cons_zero]
  rw [List.set_append_right _ _ (Nat.le_refl _),Nat.sub_self]
  rfl
theorem setEn_at (A C:List GRec) (r:GRec) (x:Int):setEn (A++r::C) A.length x=A++r.atEn x::C:=by
  unfold setEn
  rw [List.getElem?_append_right (Nat.le_refl _),Nat.sub_self]
  dsimp only [List.getElem?_cons_zero]
  rw [List.set_append_right _ _ (Nat.le_refl _),Nat.sub_self]
  rfl
mutual
theorem renum_V:∀ (n:Nat) (g:GVal),cntV g<=n->g.wf->∀ (lv:Int) (nm:Bool) (name:ByteArray) (B A C L0:List GRec) (op0 op:List Nat) (ord0 ord:Int),0<=lv->(op.length:Int)=lv ->
    B.map er=(shredV 1 g lv nm name 0).1.map er->shutS lv L0 op0 ord0=⟨A++(B++C),op,ord⟩ ->
    shutS lv (runR ⟨L0,op0,ord0⟩ A.length (cntV g)).L (runR ⟨L0,op0,ord0⟩ A.length (cntV g)).op (runR ⟨L0,op0,ord0⟩ A.length (cntV g)).ord=⟨A++((shredV 1 g lv nm name (ord - 1)).1++C),op,ord+wV 1 g⟩
  | 0,g,hn,_,_,_,_,_,_,_,_,_,_,_,_,_,_,_,_=>by have:=cntV_pos g;omega
  | n+1,g,hn,hw,lv,nm,name,B,A,C,L0,op0,op,ord0,ord,h0,hop,hB,hS=>by
    have hc:=cntI_its hw
    have hsv:=shredV_its 1 g lv nm name 0 hw
    rw [hsv] at hB
    cases B with
    | nil=>simp at hB
    | cons r K =>
      simp only [List.map_cons,List.cons.injEq] at hB
      obtain ⟨hr,hK⟩:=hB
      have hlv0:lvAt L0 A.length=lv:=by
        rw [<-shutS_lv lv L0 op0 ord0,hS]
        unfold lvAt
        dsimp only
        rw [List.getElem?_append_right (Nat.le_refl _),Nat.sub_self]
        exact congrArg GRec.lv hr
      have hstep:stepR ⟨L0,op0,ord0⟩ A.length=⟨A++(r.atSt ord::(K++C)),A.length::op,ord+1⟩:=by
        unfold stepR
        dsimp only
        rw [hlv0,hS]
        dsimp only
        rw [List.cons_append,setSt_at]
      have hlenA:(A++[r.atSt ord]).length=A.length+1:=by simp
      have hI:=renum_I n (its g) (by omega) (wfs_its hw) (lv+1) K (A++[r.atSt ord]) C (A++(r.atSt ord::(K++C))) (A.length::op) (A.length::op) (ord+1) (ord+1) (by omega) (by rw [List.length_cons];omega)
        (by
          rw [hK]
          have e1:=(shredI_lay' (gap:=1) (by omega) (wfs_its hw) (lv+1) (0+1)).er_eq (wfs_its hw) 1 0
          exact e1)
        (by rw [shutS_same _ _ _ (by rw [List.length_cons];omega)];simp)
      rw [hlenA] at hI
      rw [hc,runR_add,runR_one,hstep]
      generalize runR ⟨A++(r.atSt ord::(K++C)),A.length::op,ord+1⟩ (A.length+1) (cntI (its g))=s at *
      rw [<-shutS_trans (lv+1) lv (by omega),hI]
      dsimp only
      rw [shutS,if_pos (by omega),shutS_same _ _ _ (by omega)]
      rw [List.append_assoc,List.singleton_append,setEn_at,shredV_its 1 g lv nm name (ord - 1) hw]
      have hwe:=wI_its (gap:=1) hw
      congr 1
      · rw [show ord+1 - 1=ord - 1+1 by omega,List.cons_append]
        congr 2
        · have e:=hr
          unfold er stE at e
          injection e with _ _ e3 e4 e5 e6 e7 e8 e9
          obtain ⟨a1,a2,a3,a4,a5,a6,a7,a8,a9⟩:=r
          dsimp only at e3 e4 e5 e6 e7 e8 e9
          subst e3 e4 e5 e6 e7 e8 e9
          unfold GRec.atEn GRec.atSt
          dsimp only
          congr 1<;>omega
      · omega
termination_by n=>(n,0)
theorem renum_I:∀ (n:Nat) (xs:List Itm),cntI xs<=n->GVal.wfs (valsI xs)->∀ (lv:Int) (B A C L0:List GRec) (op0 op:List Nat) (ord0 ord:Int),0<=lv->(op.length:Int)=lv ->
    B.map er=(shredI 1 xs lv 0).1.map er->shutS lv L0 op0 ord0=⟨A++(B++C),op,ord⟩ ->
    shutS lv (runR ⟨L0,op0,ord0⟩ A.length (cntI xs)).L (runR ⟨L0,op0,ord0⟩ A.length (cntI xs)).op (runR ⟨L0,op0,ord0⟩ A.length (cntI xs)).ord=⟨A++((shredI 1 xs lv (ord - 1)).1++C),op,ord+wI 1 xs⟩
  | n,[],hn,hw,lv,B,A,C,L0,op0,op,ord0,ord,h0,hop,hB,hS=>by
    have:B=[]:=by simpa [shredI] using hB
    subst this
    have h1:cntI []=0:=rfl
    have h2:wI 1 []=0:=rfl
    rw [h1,h2,Int.add_zero]
    exact hS
  | n,x::xs,hn,hw,lv,B,A,C,L0,op0,op,ord0,ord,h0,hop,hB,hS=>by
    simp only [valsI,List.map_cons,GVal.wfs] at hw
    have hc:cntI (x::xs)=cntV x.v+cntI xs:=rfl
    have he:wI 1 (x::xs)=wV 1 x.v+wI 1 xs:=rfl
    unfold shredI at hB
    dsimp only at hB
    rw [List.map_append] at hB
    obtain ⟨B1,B2,rfl,h1,h2⟩:=List.map_eq_append_iff.1 hB
    have hlen1:B1.length=cntV x.v:=by
      have:=congrArg List.length h1
      rw [List.length_map,List.length_map] at this
      rw [this]
      have:=congrArg List.length (shredV_sk 1 x.v lv x.nm x.name 0 hw.1).1
      rw [List.length_map,skV_len] at this
      exact this
    have hV:=renum_V n x.v (by omega) hw.1 lv x.nm x.name B1 A (B2++C) L0 op0 op ord0 ord h0 hop h1 (by rw [hS,List.append_assoc])
    have hsk:=shredV_sk 1 x.v lv x.nm x.name (ord - 1) hw.1
    have hlen2:(shredV 1 x.v lv x.nm x.name (ord - 1)).1.length=cntV x.v:=by
      have:=congrArg List.length hsk.1
      rw [List.length_map,skV_len] at this
      exact this
    rw [hc,runR_add]
    generalize runR ⟨L0,op0,ord0⟩ A.length (cntV x.v)=s at *
    have hI:=renum_I n xs (by omega) hw.2 lv B2 (A++(shredV 1 x.v lv x.nm x.name (ord - 1)).1) C s.L s.op op s.ord (ord+wV 1 x.v) h0 hop
      (by
        rw [h2]
        have hw2:GVal.wfs (valsI xs):=hw.2
        exact (shredI_lay' (gap:=1) (by omega) hw2 lv _).er_eq hw2 1 0)
      (by rw [hV,List.append_assoc])
    rw [List.length_append,hlen2] at hI
    rw [show (⟨s.L,s.op,s.ord⟩:RnS)=s from rfl] at hI
    have hI2:(shredI 1 (x::xs) lv (ord - 1)).1=(shredV 1 x.v lv x.nm x.name (ord - 1)).1++(shredI 1 xs lv (shredV 1 x.v lv x.nm x.name (ord - 1)).2).1:=rfl
    rw [hI,he,hI2,hsk.2,show ord+wV 1 x.v - 1=ord - 1+wV 1 x.v by omega]
    congr 1
    · simp only [List.append_assoc]
    · omega
termination_by n xs=>(n,xs.length+1)
end
theorem renum_shred {g:GVal} (hw:g.wf) {nm:Bool} {name:ByteArray} {L:List GRec} (h:L.map er=(shredV 1 g 0 nm name 0).1.map er):renumG L=(shredV 1 g 0 nm name (-1)).1:=by
  have hlen:L.length=cntV g:=by
    have:=congrArg List.length h
    rw [List.length_map,List.length_map] at this
    rw [this]
    have:=congrArg List.length (shredV_sk 1 g 0 nm name 0 hw).1
    rw [List.length_map,skV_len] at this
    exact this
  have:=renum_V (cntV g) g (Nat.le_refl _) hw 0 nm name L [] [] L [] [] 0 0 (Int.le_refl _) rfl h (by rw [shutS];simp)
  unfold renumG
  dsimp only
  rw [hlen]
  rw [List.length_nil] at this
  rw [this]
  simp
theorem runL_blk {en:Int}:∀ (B C:List GRec),(∀ r∈B,r.st<en)->(∀ r,C.head?=some r->en<=r.st)->runL en (B++C)=B.length
  | [],C,_,hc=>by
    cases C with
    | nil=>rfl
    | cons r l =>
      have:=hc r rfl
      rw [List.nil_append,runL,if_neg (by omega)]
      rfl
  | r::B,C,h,hc=>by
    rw [List.cons_append,runL,if_pos (h r List.mem_cons_self),runL_blk B C (fun x hx=>h x (List.mem_cons_of_mem _ hx)) hc,List.length_cons]
mutual
theorem LayV.tree:∀ {g:GVal} {lv:Int} {nm:Bool} {name:ByteArray} {lo hi:Int} {L:List GRec},LayV g lv nm name lo L hi->g.wf->∀ n,2*L.length<=n->treeN n L=g
  | g,_,_,_,_,_,_,.mk (K:=K) h1 h2 h3 h4,hw,n,hn=>by
    rw [List.length_cons] at hn
    obtain ⟨n,rfl⟩:∃ m,n=m+1:=⟨n - 1,by omega⟩
    have:=h2.forest (wfs_its hw) n (by omega)
    rw [treeN]
    dsimp only
    have hk:=(wf_eq g).1 hw
    have e1:=this.1
    have e2:=this.2.1
    have e3:=this.2.2
    have hL:((its g).filter fun x=>!x.nm).map Itm.v=g.l/\((its g).filter fun x=>x.nm).map Itm.name=g.ks/\((its g).filter fun x=>x.nm).map Itm.v=g.vs:=by
      have a1:∀ l:List GVal,(itsL l).filter (fun x=>!x.nm)=itsL l/\(itsL l).filter (fun x=>x.nm)=[]:=by
        intro l
        constructor
        · rw [List.filter_eq_self]
          intro x hx
          obtain ⟨y,_,rfl⟩:=List.mem_map.1 hx
          rfl
        · rw [List.filter_eq_nil_iff]
          intro x hx
          obtain ⟨y,_,rfl⟩:=List.mem_map.1 hx
          simp
      have a2:∀ (vs:List GVal) (ks:List ByteArray),ks.length=vs.length->(itsM vs ks).filter (fun x=>!x.nm)=[]/\(itsM vs ks).filter (fun x=>x.nm)=itsM vs ks/\(itsM vs ks).map Itm.name=ks:=by
        intro vs
        induction vs with
        | nil =>
          intro ks h
          cases ks with
          | nil=>exact ⟨rfl,rfl,rfl⟩
          | cons=>simp at h
        | cons v vs ih =>
          intro ks h
          cases ks with
          | nil=>simp at h
          | cons k ks =>
            obtain ⟨b1,b2,b3⟩:=ih ks (by simpa using h)
            unfold itsM
            refine ⟨?_,?_,?_⟩
            · rw [List.filter_cons_of_neg (by simp),b1]
            · rw [List.filter_cons_of_pos rfl,b2]
            · rw [List.map_cons,b3]
      have b1:=a1 g.l
      have b2:=a2 g.vs g.ks hk.1
      have b3:=(itsM_len g.vs g.ks hk.1).2
      unfold its
      rw [List.filter_append,List.filter_append,b1.1,b1.2,b2.1,b2.2.1,List.append_nil,List.nil_append]
      refine ⟨valsI_L g.l,b2.2.2,b3⟩
    rw [e1,e2,e3,hL.1,hL.2.1,hL.2.2]
    cases g
    rfl
theorem LayI.forest:∀ {xs:List Itm} {lv lo hi:Int} {L:List GRec},LayI xs lv lo L hi->GVal.wfs (valsI xs)->∀ n,2*L.length+1<=n ->
    (forestN n L).ls=(xs.filter fun x=>!x.nm).map Itm.v/\(forestN n L).ks=(xs.filter fun x=>x.nm).map Itm.name/\(forestN n L).vs=(xs.filter fun x=>x.nm).map Itm.v
  | _,_,_,_,_,.nil h,_,n,hn=>by
    obtain ⟨n,rfl⟩:∃ m,n=m+1:=⟨n - 1,by omega⟩
    rw [forestN]
    exact ⟨rfl,rfl,rfl⟩
  | x::xs,lv,lo,hi,_,.cons (A:=A) (B:=B) h1 h2,hw,n,hn=>by
    obtain ⟨n,rfl⟩:∃ m,n=m+1:=⟨n - 1,by omega⟩
    simp only [valsI,List.map_cons,GVal.wfs] at hw
    have hB:=h2.bd
    have hT:=fun n hn=>h1.tree hw.1 n hn
    have hpos:0<A.length:=by
      have:=h1.len hw.1
      have:=cntV_pos x.v
      omega
    rw [List.length_append] at hn
    cases h1 with
    | mk a b c d =>
      rename_i st en m K
      have hKb:=b.bd
      have hrun:runL en (K++B)=K.length:=runL_blk K B (fun r hr=>by have:=hKb r hr;omega) (fun r hr=>by
        have:=hB r (by cases B with | nil=>cases hr | cons y l=>simp only [List.head?_cons,Option.some.injEq] at hr;subst hr;exact List.mem_cons_self)
        omega)
      rw [List.length_cons] at hn
      have hT:=hT n (by rw [List.length_cons];omega)
      obtain ⟨f1,f2,f3⟩:=h2.forest hw.2 n (by omega)
      rw [List.cons_append,forestN]
      dsimp only
      rw [hrun,List.take_left,List.drop_left,hT]
      by_cases hnm:x.nm=true
      · rw [if_pos hnm]
        rw [List.filter_cons_of_neg (by simp [hnm]),List.filter_cons_of_pos hnm]
        exact ⟨f1,by rw [List.map_cons,f2],by rw [List.map_cons,f3]⟩
      · rw [if_neg hnm]
        rw [List.filter_cons_of_pos (by simpa using hnm),List.filter_cons_of_neg hnm]
        exact ⟨by rw [List.map_cons,f1],f2,f3⟩
end
theorem tree_renum {g:GVal} (hw:g.wf) {nm:Bool} {name:ByteArray} {L:List GRec} (h:L.map er=(shredV 1 g 0 nm name 0).1.map er):treeG (renumG L)=g:=by
  rw [renum_shred hw h]
  exact (shred_lay (gap:=1) (by omega) hw 0 nm name (-1)).tree hw _ (by unfold enough;omega)
end Go.Sy
/- More rules: room made by 'append(nil, make(..)..)'; values read in a wider class. No program in sight. -/
namespace Go.Sy
section
variable {cf:Cf} {Q:Exit->Act->World->Prop} {σ:Snap} {env:Env} {hp:HP} {A:List AE} {nh:Nat} {it:Item} {rest:List Item}
theorem StW.appendZ {β:Nat->Addr} {w:World} (h:StW cf σ hp A β w) {i:Nat} {e sz:Nat} (hi:A[i]?=some ⟨none,0,0,e,sz,[]⟩) {t u ty:TypeId} {ie:TypeInfo} {z:Value} {m:Nat} {k:IntKind}
    (ht:cf.P.underlying t=some (.slice e)) (hu:cf.P.underlying u=some (.int k)) (hie:cf.P.info? e=some ie) (hz:ie.zero=some z) (hsz:ie.size=sz) (hzs:z.cells.size=sz) (hs0:0<sz)
    (hm:0<m) (hmax:m<=maxLen) (hbytes:m*ie.bytes<=140737488355328) :
    ∃ g cap' w',(Builtin.append_ #[t,u] ty #[.slice none 0 0,.int .i64 m]).run cf.P w=.ok (.slice (some ⟨g,0,none⟩) m cap') w'/\StW cf σ hp (A.set i ⟨some ⟨g,0,none⟩,m,cap',e,sz,(Builtin.zeroCells z.cells m).toList⟩) β w'/\m<=cap':=by
  have hfits:=growslice_fits (old:=0) (need:=m) (bytes:=ie.bytes) (by omega) hbytes
  have hge:=grownCap_ge w m 0 e
  have hgm:=grownCap_le_maxLen w m 0 e hmax
  have hmi:¬ (9223372036854775807<((m:Nat):Int)):=by simp only [maxLen] at hmax;omega
  have hmi2:¬ (9223372036854775807<((0+m:Nat):Int)):=by simp only [maxLen] at hmax;omega
  have h48:¬ (281474976710656<Builtin.nextslicecap m 0*ie.bytes):=by omega
  have hw64:IntKind.i64.wrap (m:Int)=m:=IntWalk.i64_in _ (by simp only [maxLen] at hmax;omega)
  have hneg:¬ ((m:Int)<0):=by omega
  have hb1:¬ ((2:Int) ^ 48<(m:Int)*(ie.bytes:Int)):=by rw [<-Int.natCast_mul];omega
  have h48':¬ (2 ^ 48<Builtin.nextslicecap m 0*ie.bytes):=by omega
  have hroom:¬ (0+m<=0):=by omega
  refine ⟨w.heap.size,grownCap w m 0 e,w.drew.alloc (.cells (Builtin.zeroCells z.cells m++Builtin.zeroCells z.cells (grownCap w m 0 e - m)) e),?_,?_,hge⟩
  · have hroom':¬ (m<=0):=by omega
    have hms:¬ (m*sz=0):=by
      intro h
      rcases Nat.mul_eq_zero.1 h with h | h<;>omega
    simp only [Builtin.append_,List.getElem?_toArray,List.getElem?_cons_zero,List.getElem?_cons_succ,Sem.run_bind,run_underlying ht,Result.andThen_ok,run_size hie,hsz,run_underlying hu,if_true,Sem.run_pure]
    have ha:Sem.run cf.P (asInt (Value.int IntKind.i64 m)) w=.ok (m:Int) w:=rfl
    have hf0:∀ w':World,Sem.run cf.P (Builtin.firstCells sz 0 (.slice none 0 0)) w'=.ok #[] w':=fun _=>rfl
    simp only [ha,Result.andThen_ok,hw64,hneg,if_false,Sem.run_bind,run_tinfo hie,gt_iff_lt,hb1,Sem.run_pure,Int.toNat_natCast,Nat.zero_add,hroom',hmi,false_and,h48,run_choose,Question.forced,Bool.false_eq_true,run_askRoom,hf0,Bool.not_true,hms,run_zero hie hz,newRow,run_newObj]
    simp only [IntKind.max_i64,hmi,false_and,if_false,h48',Sem.run_pure,Sem.run_bind,Result.andThen_ok,run_tinfo hie,run_choose,Question.forced,Bool.false_eq_true,run_askRoom,hf0,hms,run_zero hie hz,newRow,run_newObj]
    rw [Array.empty_append]
    rfl
  · have hxl:(Builtin.zeroCells z.cells m).toList.length=m*sz:=by rw [Array.length_toList,size_zeroCells,hzs]
    refine h.moveArr hi rfl hge hgm hxl ?_ ?_
    · simp only [Array.size_append,size_zeroCells,hzs,<-Nat.add_mul]
      congr 1
      omega
    · simp only [Array.toList_append]
      rw [<-hxl]
      exact List.take_left
theorem oj_appendZ {d:Nat} {s x:Operand} {t u e:Nat} {T:List (Nat×TI)} (hT:TTok cf.P T) {ti tu te:TI} (i:Nat) {m:Nat} {k:IntKind}
    (hop:appendOf it.o.op=some (s,x,t,u)) (hd:it.o.dst=some d) (hg:guardVal it.guard env=some true) (hN:Nat.blt d cf.N=true) (htg:canSink it.tag=true)
    (hs:evalO env s=some (.a (.v (.slice none 0 0)))) (hx:evalO env x=some (.a (.v (.int .i64 m)))) (hA:A[i]?=some ⟨none,0,0,e,te.size,[]⟩)
    (ht:tget T t=some ti) (hkt:ti.kind=.slice e) (hu:tget T u=some tu) (hku:tu.kind=.int k) (hte:tget T e=some te) (hzl:te.zero.length=te.size) (hs0:0<te.size)
    (hm:0<m) (hmax:m<=9223372036854775807) (hby:m*te.bytes<=140737488355328)
    (hk:∀ g cap' xs,m<=cap'->OJ cf rest Q σ ((d,.a (.v (.slice (some ⟨g,0,none⟩) m cap')))::env) hp (A.set i ⟨some ⟨g,0,none⟩,m,cap',e,te.size,xs⟩) nh):OJ cf (it::rest) Q σ env hp A nh:=by
  refine oj_step hd hg hN htg fun hb a β ha w hw=>?_
  obtain ⟨i1,d1,z1,hs1⟩:=tiOf_spec (hT _ _ ht)
  obtain ⟨i2,d2,z2,hs2⟩:=tiOf_spec (hT _ _ hu)
  obtain ⟨i3,d3,z3,hs3⟩:=tiOf_spec (hT _ _ hte)
  have hut:cf.P.underlying t=some (.slice e):=by
    have h1:=hs1.kind
    rw [hkt] at h1
    have h2:=hs1.und
    cases d1<;>first
      | (simp only [kindD,TK.slice.injEq] at h1;subst h1;exact h2)
      | (simp only [kindD] at h1;cases h1)
  have huu:cf.P.underlying u=some (.int k):=by
    have h1:=hs2.kind
    rw [hku] at h1
    have h2:=hs2.und
    cases d2<;>first
      | (simp only [kindD,TK.int.injEq] at h1;subst h1;exact h2)
      | (simp only [kindD] at h1;cases h1)
  have hz3:z3.cells.size=te.size:=by
    have:=congrArg Array.size (zero_den hs3 β0)
    rw [<-this]
    simp only [List.size_toArray,List.length_map]
    exact hzl
  have hse:a.eval s=.slice none 0 0:=evalO_eval ha hs
  have hxe:a.eval x=.int .i64 m:=evalO_eval ha hx
  obtain ⟨g,cap',w',hrun,hw',hc'⟩:=hw.appendZ (ty:=it.o.type) hA hut huu hs3.info hs3.zero hs3.size hz3 hs0 hm (by simp only [maxLen];exact hmax) (by rw [hs3.bytes];exact hby)
  refine ⟨.a (.v (.slice (some ⟨g,0,none⟩) m cap')),σ,hp,_,nh,w',β,?_,ha,hb.put (x:=.a (.v (.slice (some ⟨g,0,none⟩) m cap'))) trivial d,hw',hk g cap' _ hc'⟩
  exact appendOf_run hop (by rw [hse,hxe];exact hrun)
theorem sealed_cell {σ:Snap} {w:World} (h:Sealed σ w) {a:Addr} {v:Value} (hv:σ.cell a=some v):w.cell? a=some v:=by
  unfold Snap.cell at hv
  unfold World.cell?
  split at hv
  · rename_i c e f hc
    rw [h _ _ hc]
    exact hv
  · cases hv
variable {W:(Nat->Addr)->World->Prop}
theorem ow_idxA {d:Nat} {x i:Operand} {t:TypeId} {T:List (Nat×TI)} (hT:TTok cf.P T) {ti te:TI} {e:Nat} {ad:Addr} {n c:Nat} {k:IntKind} {m:Int} (hp':isPure it.tag=true) (hop:it.o.op=.indexAddr t x i) (hd:it.o.dst=some d)
    (hg:guardVal it.guard env=some true) (hN:Nat.blt d cf.N=true) (hx:evalO env x=some (.a (.v (.slice (some ad) n c)))) (hi:evalO env i=some (.a (.v (.int k m)))) (ht:tget T t=some ti) (hkd:ti.kind=.slice e)
    (hte:tget T e=some te) (h0:0<=m/\m<n)
    (hk:OW cf rest Q W σ ((d,.a (.v (.pointer (some (ad.add (m.toNat*te.size))))))::env) hp A nh):OW cf (it::rest) Q W σ env hp A nh:=by
  refine ow_val (.a (.v (.pointer (some (ad.add (m.toNat*te.size)))))) hd hg hN trivial (fun _ a β ha=>?_) hk
  cases htag:it.tag with
  | pure =>
    intro w
    obtain ⟨i2,d2,z2,hs2⟩:=tiOf_spec (hT _ _ ht)
    obtain ⟨i3,d3,z3,hs3⟩:=tiOf_spec (hT _ _ hte)
    have h1:=hs2.kind
    have hun:cf.P.underlying t=some (.slice e):=by
      rw [hkd] at h1
      have h2:=hs2.und
      cases d2<;>first
        | (simp only [kindD,TK.slice.injEq] at h1;subst h1;exact h2)
        | (simp only [kindD] at h1;cases h1)
    have h2:a.eval x=.slice (some ad) n c:=evalO_eval ha hx
    have h3:a.eval i=.int k m:=evalO_eval ha hi
    simp only [execOp,hop,h2,h3,Instr.indexAt,asIntOf,Sem.run_bind,Sem.run_pure,Result.andThen_ok,run_underlying hun,h0,and_self,if_true,run_size hs3.info,hs3.size]
    rfl
  | quiet=>rw [htag] at hp';cases hp'
  | keep=>rw [htag] at hp';cases hp'
  | sink=>rw [htag] at hp';cases hp'
  | free=>rw [htag] at hp';cases hp'
theorem ow_ldS {σ0:Snap} {d t:Nat} {x:Operand} {T:List (Nat×TI)} (hT:TTok cf.P T) {ti:TI} {ad:Addr} {c:AT} (hq:(match it.tag with | .quiet=>true | _=>false)=true) (hop:it.o.op=.load t x) (hd:it.o.dst=some d) (hg:guardVal it.guard env=some true) (hN:Nat.blt d cf.N=true)
    (hx:evalO env x=some (.a (.v (.pointer (some ad))))) (ht:tget T t=some ti) (hag:ti.agg=false)
    (hv:σ0.cell ad=some c.val) (hc:c.lt 0) (k:OW cf rest Q (fun _ w=>Sealed σ0 w) σ ((d,.a c)::env) hp A nh):OW cf (it::rest) Q (fun _ w=>Sealed σ0 w) σ env hp A nh:=by
  refine ow_val (.a c) hd hg hN (AT.lt_mono (Nat.zero_le _) hc) (fun _ a β ha=>?_) k
  cases htag:it.tag with
  | quiet =>
    intro w hw
    obtain ⟨inf,d',z,hs⟩:=tiOf_spec (hT _ _ ht)
    have hcell:=sealed_cell hw hv
    have hx':a.eval x=.pointer (some ad):=evalO_eval ha hx
    have hload:(load ad).run cf.P w=.ok c.val w:=by rw [run_load,hcell]
    simp only [execOp,hop,Instr.loadAt,hx',Instr.sureAddr,loadVar,Sem.run_bind,Sem.run_pure,Result.andThen_ok,run_isAgg hs.und,hs.agg,hag,Bool.false_eq_true,if_false,hload]
    simp only [SV.den,AT.den_val hc β]
  | pure=>rw [htag] at hq;cases hq
  | keep=>rw [htag] at hq;cases hq
  | sink=>rw [htag] at hq;cases hq
  | free=>rw [htag] at hq;cases hq
theorem ow_minus {d:Nat} {x y:Operand} {xt yt:TypeId} {m n:Int} (hp':isPure it.tag=true) (hop:it.o.op=.binOp .sub xt x y yt) (hd:it.o.dst=some d) (hg:guardVal it.guard env=some true) (hN:Nat.blt d cf.N=true)
    (hx:evalO env x=some (.a (.v (.int .i64 m)))) (hy:evalO env y=some (.a (.v (.int .i64 n)))) (hb:-9223372036854775808<=m - n/\m - n<=9223372036854775807)
    (hk:OW cf rest Q W σ ((d,.a (.v (.int .i64 (m - n))))::env) hp A nh):OW cf (it::rest) Q W σ env hp A nh:=by
  refine ow_val (.a (.v (.int .i64 (m - n)))) hd hg hN trivial (fun _ a β ha=>?_) hk
  cases htag:it.tag with
  | pure =>
    intro w
    have h1:a.eval x=.int .i64 m:=evalO_eval ha hx
    have h2:a.eval y=.int .i64 n:=evalO_eval ha hy
    have hr:=run_sub (xt:=xt) (k:=.i64) (m:=m) (n:=n) (r:=m - n) (IntWalk.i64_in _ (by omega)) w cf.P
    simp only [execOp,hop,h1,h2,eqGuard_at_int,Sem.run_bind,hr,Result.andThen_ok,Sem.run_pure]
    rfl
  | quiet=>rw [htag] at hp';cases hp'
  | keep=>rw [htag] at hp';cases hp'
  | sink=>rw [htag] at hp';cases hp'
  | free=>rw [htag] at hp';cases hp'
theorem ow_add {d:Nat} {x y:Operand} {xt yt:TypeId} {m n:Int} (hp':isPure it.tag=true) (hop:it.o.op=.binOp .add xt x y yt) (hd:it.o.dst=some d) (hg:guardVal it.guard env=some true) (hN:Nat.blt d cf.N=true)
    (hx:evalO env x=some (.a (.v (.int .i64 m)))) (hy:evalO env y=some (.a (.v (.int .i64 n)))) (hb:-9223372036854775808<=m+n/\m+n<=9223372036854775807)
    (hk:OW cf rest Q W σ ((d,.a (.v (.int .i64 (m+n))))::env) hp A nh):OW cf (it::rest) Q W σ env hp A nh:=by
  refine ow_val (.a (.v (.int .i64 (m+n)))) hd hg hN trivial (fun _ a β ha=>?_) hk
  cases htag:it.tag with
  | pure =>
    intro w
    have h1:a.eval x=.int .i64 m:=evalO_eval ha hx
    have h2:a.eval y=.int .i64 n:=evalO_eval ha hy
    have hr:=run_add (xt:=xt) (k:=.i64) (m:=m) (n:=n) (r:=m+n) (IntWalk.i64_in _ (by omega)) w cf.P
    simp only [execOp,hop,h1,h2,eqGuard_at_int,Sem.run_bind,hr,Result.andThen_ok,Sem.run_pure]
    rfl
  | quiet=>rw [htag] at hp';cases hp'
  | keep=>rw [htag] at hp';cases hp'
  | sink=>rw [htag] at hp';cases hp'
  | free=>rw [htag] at hp';cases hp'
theorem ow_callP {d:Nat} {f:FuncId} {ys:List SV} {Φ:Value->Prop} (hW:∀ β w,StW cf σ hp A β w->W β w)
    (hc:callee env it.o.op=some (f,ys)) (hd:it.o.dst=some d) (hg:guardVal it.guard env=some true)
    (hN:Nat.blt d cf.N=true) (hk:(match it.tag with | .keep=>true | _=>false)=true) (hcall:∀ args w,(callFunc f args).run cf.P w=.ok (.enter f args) w) (hlt:LtAll ys)
    (hC:PlainS cf.P f ys σ Φ)
    (k:∀ v,Φ v->∃ y:SV,y.lt 0/\y.den β0=v/\OW cf rest Q W σ ((d,y)::env) hp A nh):OW cf (it::rest) Q W σ env hp A nh:=by
  refine ⟨fun hb a β ha hex=>?_⟩
  have hN':d<cf.N:=by simpa [Nat.blt_eq] using hN
  have den0:∀ {y:SV},y.lt 0->y.den β=y.den β0:=fun hy=>SV.den_congr (n:=0) (fun i hi=>by omega) hy
  have hargs:(ys.map (SV.den β)).toArray=(ys.map (SV.den β0)).toArray:=by
    rw [List.map_congr_left fun y hy=>den0 (hlt.of y hy)]
  simp only [RunT]
  rw [if_pos (guardVal_ok ha hg)]
  cases htag:it.tag with
  | keep =>
    intro w hw
    unfold Oper.wq
    rw [callee_ok ha hc hcall]
    simp only [Oper.uponIn]
    rw [hargs]
    refine ⟨fun h=>(by cases h),CallsIn.mono (callsIn_FR.2 (hC w hw.sealed)) fun e w' ⟨v,σ',he,h1,h2,h3,h4⟩=>?_⟩
    subst he
    obtain ⟨y,hy,hyv,hk⟩:=k v h4
    have hw':StW cf σ hp A β w':=hw.after h1 ⟨Snap.le_refl σ,fun b hb=>.inl hb⟩ (fun b o hb=>h3 b o (h2.le b o hb))
    refine ⟨W β,_,hw',fun x hx=>hW β x hx,fun _ h=>h,?_⟩
    have:=hk.run (hb.put (SV.lt_mono (Nat.zero_le _) hy) d) (a.put (some d) (y.den β)) β (ha.put hN' y) ⟨_,hw'⟩
    rw [hd,<-hyv,<-den0 hy]
    exact this
  | _=>rw [htag] at hk;cases hk
def capOf:Op->Option (Operand×TypeId)
  | .call c =>
    match c.callee,c.args.toList,c.argTypes.toList with
    | .builtin .cap,[x],[t]=>some (x,t)
    | _,_,_=>none
  | _=>none
theorem capOf_run {o:Oper} {x:Operand} {t:TypeId} (h:capOf o.op=some (x,t)) {P:Program} {a:Act} {w w':World} {v:Value}
    (hr:(Builtin.cap_ #[t] o.type #[a.eval x]).run P w=.ok v w'):(execOp a.eval o).run P w=.ok (.value v) w':=by
  unfold capOf at h
  split at h
  · rename_i c hop
    split at h
    · rename_i x' t' hcal hargs htys
      injection h with h
      simp only [Prod.mk.injEq] at h
      obtain ⟨rfl,rfl⟩:=h
      have e1:c.args=#[x']:=by
        cases hq:c.args with
        | mk l=>rw [hq] at hargs;simp only at hargs;rw [hargs]
      have e2:c.argTypes=#[t']:=by
        cases hq:c.argTypes with
        | mk l=>rw [hq] at htys;simp only at htys;rw [htys]
      simp only [execOp,hop,resolve,hcal,e1,e2,invoke,builtin,Sem.run_bind,Sem.run_pure,Result.andThen_ok,List.map_toArray,List.map_cons,List.map_nil,hr]
    · cases h
  · cases h
theorem oj_cap {d:Nat} {x:Operand} {t e:TypeId} {T:List (Nat×TI)} (hT:TTok cf.P T) {ti:TI} {ao:Option Addr} {n cap:Nat} (hop:capOf it.o.op=some (x,t)) (hd:it.o.dst=some d)
    (hg:guardVal it.guard env=some true) (hN:Nat.blt d cf.N=true) (hx:evalO env x=some (.a (.v (.slice ao n cap)))) (ht:tget T t=some ti) (hkd:ti.kind=.slice e)
    (hk:OJ cf rest Q σ ((d,.a (.v (.int .i64 cap)))::env) hp A nh):OJ cf (it::rest) Q σ env hp A nh:=by
  refine oj_val (.a (.v (.int .i64 cap))) hd hg hN trivial (fun _ a β ha w=>?_) hk
  obtain ⟨i2,d2,z2,hs2⟩:=tiOf_spec (hT _ _ ht)
  have h1:=hs2.kind
  have hun:cf.P.underlying t=some (.slice e):=by
    rw [hkd] at h1
    have h2:=hs2.und
    cases d2<;>first
      | (simp only [kindD,TK.slice.injEq] at h1;subst h1;exact h2)
      | (simp only [kindD] at h1;cases h1)
  have h2:a.eval x=.slice ao n cap:=evalO_eval ha hx
  refine capOf_run hop ?_
  rw [h2]
  simp only [Builtin.cap_,List.getElem?_toArray,List.getElem?_cons_zero,Sem.run_bind,run_underlying hun,Result.andThen_ok,Sem.run_pure]
  rfl
theorem oj_quo {d:Nat} {x y:Operand} {xt yt:TypeId} {m n:Int} (hop:it.o.op=.binOp .quo xt x y yt) (hd:it.o.dst=some d) (hg:guardVal it.guard env=some true) (hN:Nat.blt d cf.N=true)
    (hx:evalO env x=some (.a (.v (.int .i64 m)))) (hy:evalO env y=some (.a (.v (.int .i64 n)))) (hn:n≠0) (hb:-9223372036854775808<=m.tdiv n/\m.tdiv n<=9223372036854775807)
    (hk:OJ cf rest Q σ ((d,.a (.v (.int .i64 (m.tdiv n))))::env) hp A nh):OJ cf (it::rest) Q σ env hp A nh :=
  oj_arith _ hop hd hg hN hx hy (fun w P=>run_quo hn (IntWalk.i64_in _ (by omega)) w P) hk
theorem tdiv_bd {a b c:Int} (h:-c<=a/\a<=c):-c<=a.tdiv b/\a.tdiv b<=c:=by
  have h1:(a.tdiv b).natAbs<=a.natAbs:=by rw [Int.natAbs_tdiv];exact Nat.div_le_self _ _
  omega
theorem mul_bd {a b:Int} {c d:Nat} (h1:a.natAbs<=c) (h2:b.natAbs<=d):(a*b).natAbs<=c*d:=by
  rw [Int.natAbs_mul]
  exact Nat.mul_le_mul h1 h2
theorem ow_stA (i:Nat) {E:AE} {A':List AE} {t:Nat} {x y:Operand} {T:List (Nat×TI)} (hT:TTok cf.P T) {ti:TI} {g off:Nat} {c:AT} (hop:it.o.op=.store t x y) (hd:it.o.dst=none) (hg:guardVal it.guard env=some true)
    (htag:(match it.tag with | .keep=>true | _=>false)=true) (hW:∀ β w,StW cf σ hp A' β w->W β w) (hx:evalO env x=some (.a (.v (.pointer (some ⟨g,off,none⟩))))) (hy:evalO env y=some (.a c)) (hi:A[i]?=some E) (hE:E.ao=some ⟨g,0,none⟩) (ht:tget T t=some ti) (hsz:ti.size=1)
    (hoff:off<E.n*E.sz) (hc:c.lt 0) (hone:c.one=true) (hA:A.set i ⟨E.ao,E.n,E.cap,E.e,E.sz,E.xs.set off c.val⟩=A') (k:OW cf rest Q W σ env hp A' nh):OW cf (it::rest) Q W σ env hp A nh:=by
  subst hA
  refine ⟨fun hb a β ha hex=>?_⟩
  have key:∀ w,StW cf σ hp A β w->∀ Q',it.o.wq cf.P a w (fun a' w'=>∃ E' S':World->Prop,S' w'/\(∀ x,S' x->E' x)/\(∀ x,E' x->W β x)/\RunT cf.P Q rest E' S' a') Q':=by
    intro w hw Q'
    obtain ⟨inf,d',z,hs⟩:=tiOf_spec (hT _ _ ht)
    have hx':a.eval x=.pointer (some ⟨g,off,none⟩):=evalO_eval ha hx
    have hy':a.eval y=c.val:=by rw [<-AT.den_val hc β];exact evalO_eval ha hy
    have hE0:=hw.arr i E hi
    rcases hE0.2 with h1 | ⟨g',cur,h3,h4,h5,h6,h7,h8,h9,h10⟩
    · rw [h1.1] at hE;cases hE
    · rw [hE] at h3
      injection h3 with h3
      simp only [Addr.mk.injEq,and_true] at h3
      subst h3
      have hnc:E.n*E.sz<=E.cap*E.sz:=Nat.mul_le_mul_right _ h5
      have h1v:c.val.oneCell'=true:=AT.one_den β0 hone
      have hcell:c.val.cells=#[c.val]:=by
        unfold Value.cells
        split
        · rename_i q hq;rw [hq] at h1v;cases h1v
        · rfl
      have hst:=run_storeCells_at cf.P g off E.e [c.val] 0 cur w h4 (by simp only [List.length_singleton];omega) (fun v hv=>by
        simp only [List.mem_singleton] at hv;subst hv;exact h1v)
      simp only [Nat.add_zero] at hst
      have hset:cur.toList.take off++[c.val]++cur.toList.drop (off+1)=cur.toList.set off c.val:=by
        rw [List.set_eq_take_append_cons_drop,if_pos (by rw [Array.length_toList];omega)]
        simp
      have hrun:(execOp a.eval it.o).run cf.P w=.ok .skip (w.setRow g (cur.toList.set off c.val).toArray):=by
        have hsz':inf.size=1:=by rw [hs.size,hsz]
        simp only [execOp,hop,Instr.storeAt,hx',hy',Instr.sureAddr,storeVar,Sem.run_bind,Sem.run_pure,Result.andThen_ok,hcell,run_size hs.info,hsz',List.size_toArray,List.length_singleton,ne_eq,not_true,if_false,Sem.run_ite,hst]
        rw [hset]
      unfold Oper.wq
      rw [hrun]
      have hw':=hw.setArr (E':=⟨E.ao,E.n,E.cap,E.e,E.sz,E.xs.set off c.val⟩) (cur':=(cur.toList.set off c.val).toArray) hi hE h4 rfl rfl rfl rfl h5 (by simp [hE0.1]) (by simp [h7]) (by
        simp only [<-h8,List.take_set])
      refine ⟨W β,_,hw',fun x hx=>hW β x hx,fun _ h=>h,?_⟩
      rw [hd]
      exact k.run hb a β ha ⟨_,hw'⟩
  simp only [RunT]
  rw [if_pos (guardVal_ok ha hg)]
  cases htag':it.tag with
  | keep=>exact fun w hw=>key w hw _
  | pure=>rw [htag'] at htag;cases htag
  | quiet=>rw [htag'] at htag;cases htag
  | sink=>rw [htag'] at htag;cases htag
  | free=>rw [htag'] at htag;cases htag
theorem StW.dropA {β:Nat->Addr} {w:World} (h:StW cf σ hp A β w):StW cf σ hp [] β w :=
  { h with arr:=fun i E hi=>(by simp at hi),arrd:=fun i j E F hi=>(by simp at hi),arrh:=fun i j E e cs hi=>(by simp at hi) }
end
end Go.Sy
