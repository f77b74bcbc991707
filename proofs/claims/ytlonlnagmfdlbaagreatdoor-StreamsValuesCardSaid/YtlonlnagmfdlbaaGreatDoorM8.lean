/- Parts of the proof of CStreamsValues: La, Lb, F19, Lc, F26, F27, Le, F29, Lg, Jb, Jd, F30, H1, H5. No conditions. -/
import Derived.Test.YtlonlnagmfdlbaaGreatDoorM7
/- Plain laws on a value's records: they are nested, named, and the value is built of them again. No program in sight. -/
namespace Go.Sy
def stE (φ:Int->Int) (r:GRec):GRec:=⟨φ r.st,φ r.en,r.lv,r.kd,r.nm,r.name,r.b,r.n,r.s⟩
def Incr (φ:Int->Int):Prop:=∀ a b,0<=a->a<b->φ a<φ b
theorem stE_id:stE (fun x=>x)=id:=by funext r;rfl
mutual
def kindOk:GVal->Prop
  | .mk k _ _ _ l _ vs=>(l≠[]->k≠5)/\(vs≠[]->k=5)/\kindOks l/\kindOks vs
def kindOks:List GVal->Prop
  | []=>True
  | g::gs=>kindOk g/\kindOks gs
end
theorem fields_kind {g:GVal} (h:fieldsG g=true):(g.l≠[]->g.kind=4)/\(g.ks≠[]->g.kind=5):=by
  have key:∀ (P:Prop) (hl:g.l=[]\/P) (_:g.l≠[]),P:=fun P hl h=>hl.resolve_left h
  by_cases h0:g.kind=0
  · rw [fieldsG_0 h0] at h
    simp only [Bool.and_eq_true,decide_eq_true_eq,List.length_eq_zero_iff] at h
    exact ⟨fun hh=>absurd h.1.2 hh,fun hh=>absurd h.2 hh⟩
  by_cases h1:g.kind=1
  · rw [fieldsG_1 h1] at h
    simp only [Bool.and_eq_true,decide_eq_true_eq,List.length_eq_zero_iff] at h
    exact ⟨fun hh=>absurd h.1.2 hh,fun hh=>absurd h.2 hh⟩
  by_cases h2:g.kind=2
  · rw [fieldsG_2 h2] at h
    simp only [Bool.and_eq_true,decide_eq_true_eq,List.length_eq_zero_iff] at h
    exact ⟨fun hh=>absurd h.1.2 hh,fun hh=>absurd h.2 hh⟩
  by_cases h3:g.kind=3
  · rw [fieldsG_3 h3] at h
    simp only [Bool.and_eq_true,decide_eq_true_eq,List.length_eq_zero_iff] at h
    exact ⟨fun hh=>absurd h.1.2 hh,fun hh=>absurd h.2 hh⟩
  by_cases h4:g.kind=4
  · rw [fieldsG_4 h4] at h
    simp only [Bool.and_eq_true,decide_eq_true_eq,List.length_eq_zero_iff] at h
    exact ⟨fun _=>h4,fun hh=>absurd h.2 hh⟩
  by_cases h5:g.kind=5
  · rw [fieldsG_5 h5] at h
    simp only [Bool.and_eq_true,decide_eq_true_eq,List.length_eq_zero_iff] at h
    exact ⟨fun hh=>absurd h.2 hh,fun _=>h5⟩
  · rw [fieldsG_x h0 h1 h2 h3 h4 h5] at h;cases h
mutual
theorem sane_kind:∀ (g:GVal) (deep c:Int),g.wf->(saneG g deep c).1=0->kindOk g
  | .mk k b n s l ks vs,deep,c,hw,h=>by
    simp only [GVal.wf] at hw
    simp only [saneG] at h
    split at h
    · simp at h
    rename_i hf
    have hf:fieldsG (.mk k b n s l ks vs)=true:=by simpa using hf
    obtain ⟨h1,h2⟩:=fields_kind hf
    simp only [GVal.l,GVal.ks,GVal.kind] at h1 h2
    split at h
    · simp at h
    split at h
    · simp at h
    split at h
    · simp at h
    simp only [kindOk]
    have hl:(saneL l deep (c+1)).1=0:=by
      by_cases h0:(saneL l deep (c+1)).1=0
      · exact h0
      · rw [if_pos h0] at h;exact h
    rw [if_neg (by simp [hl])] at h
    refine ⟨fun hh e=>?_,fun hh=>h2 fun e=>hh ?_,sane_kinds l _ _ hw.2.1 hl,sane_kinds vs _ _ hw.2.2 h⟩
    · have:=h1 hh;omega
    · have:=hw.1
      rw [e] at this
      exact List.eq_nil_of_length_eq_zero this.symm
theorem sane_kinds:∀ (gs:List GVal) (deep c:Int),GVal.wfs gs->(saneL gs deep c).1=0->kindOks gs
  | [],_,_,_,_=>trivial
  | g::gs,deep,c,hw,h=>by
    simp only [GVal.wfs] at hw
    simp only [saneL] at h
    have hg:(saneG g (deep+1) c).1=0:=by
      by_cases h0:(saneG g (deep+1) c).1=0
      · exact h0
      · rw [if_pos h0] at h;exact h
    rw [if_neg (by simp [hg])] at h
    exact ⟨sane_kind g _ _ hw.1 hg,sane_kinds gs _ _ hw.2 h⟩
end
theorem closeTo_same {lv:Int} {ro:List GRec} (e:Int) (h:(ro.length:Int)=lv):closeTo lv ro e=some (ro,e):=by
  cases ro with
  | nil=>rfl
  | cons t ro =>
    simp only [List.length_cons] at h
    rw [closeTo,if_neg (by omega)]
theorem closeTo_suffix:∀ (lv:Int) (ro:List GRec) (last:Int) (p:List GRec×Int),closeTo lv ro last=some p->∃ x,ro=x++p.1
  | lv,[],last,p,h=>by simp only [closeTo,Option.some.injEq] at h;subst h;exact ⟨[],rfl⟩
  | lv,t::ro,last,p,h=>by
    simp only [closeTo] at h
    split at h
    · split at h
      · cases h
      · obtain ⟨x,hx⟩:=closeTo_suffix lv ro t.en p h
        exact ⟨t::x,by rw [hx];rfl⟩
    · simp only [Option.some.injEq] at h;subst h;exact ⟨[],rfl⟩
theorem closeTo_trans:∀ (ro1 ro:List GRec) (last1 last:Int),closeTo ro.length (ro1++ro) last1=some (ro,last)->∀ lv:Int,lv<=ro.length->closeTo lv (ro1++ro) last1=closeTo lv ro last
  | [],ro,last1,last,h,lv,hl=>by
    rw [List.nil_append,closeTo_same last1 rfl] at h
    simp only [Option.some.injEq,Prod.mk.injEq,true_and] at h
    rw [h,List.nil_append]
  | t::ro1,ro,last1,last,h,lv,hl=>by
    simp only [List.cons_append,closeTo,List.length_append] at h ⊢
    rw [if_pos (by omega)] at h ⊢
    split at h
    · cases h
    · rename_i he
      rw [if_neg he]
      exact closeTo_trans ro1 ro t.en last h lv hl
theorem closeAll_of:∀ (ro:List GRec) (last e:Int),closeTo 0 ro last=some ([],e)->closeAll ro last=true
  | [],_,_,_=>rfl
  | t::ro,last,e,h=>by
    simp only [closeTo] at h
    rw [if_pos (by omega)] at h
    split at h
    · cases h
    · rename_i he
      simp only [closeAll,if_neg he]
      exact closeAll_of ro t.en e h
structure AtN (lv:Int) (ro0:List GRec) (last0:Int) (ro:List GRec) (last:Int):Prop where
  cl:closeTo lv ro0 last0=some (ro,last)
  len:(ro.length:Int)=lv
  le:lv<=ro0.length
section
variable {φ:Int->Int} (hφ:Incr φ) {gap:Int} (hg:1<=gap)
include hφ hg
mutual
theorem nestV:∀ (g:GVal) (lv:Int) (nm:Bool) (name:ByteArray) (now:Int) (k:Nat) (ro0 ro:List GRec) (last0 last:Int) (rest:List GRec),AtN lv ro0 last0 ro last->0<=lv->decide (lv=0)=decide ((k:Int)=0)->0<=now->last<φ (now+gap) ->
    ∃ ro1 last1,AtN lv ro1 last1 ro (φ (shredV gap g lv nm name now).2)/\nestFrom k ro0 last0 ((shredV gap g lv nm name now).1.map (stE φ)++rest)=nestFrom (k+(shredV gap g lv nm name now).1.length) ro1 last1 rest
  | .mk kd b n s l ks vs,lv,nm,name,now,k,ro0,ro,last0,last,rest,hA,h0,hk,hn,hl=>by
    simp only [shredV,List.map_cons,List.map_append,List.cons_append,List.append_assoc,nestFrom,stE,List.length_cons,List.length_append]
    have h1:=(shredL_len gap l (lv+1) (now+gap)).2
    have h2:=(shredM_len gap vs ks (lv+1) (shredL gap l (lv+1) (now+gap)).2).2
    have e1:0<=2*gap*((shredL gap l (lv+1) (now+gap)).1.length:Int):=Int.mul_nonneg (by omega) (by omega)
    have e2:0<=2*gap*((shredM gap vs ks (lv+1) (shredL gap l (lv+1) (now+gap)).2).1.length:Int):=Int.mul_nonneg (by omega) (by omega)
    have hlen:=hA.len
    have hle:=hA.le
    rw [if_neg (by rw [hk];simp;omega),hA.cl]
    simp only []
    rw [if_neg (by omega)]
    generalize hr0:(⟨φ (now+gap),φ ((shredM gap vs ks (lv+1) (shredL gap l (lv+1) (now+gap)).2).2+gap),lv,kd,nm,name,b,n,s⟩:GRec)=r0
    have hst:r0.st=φ (now+gap):=by rw [<-hr0]
    have hen:r0.en=φ ((shredM gap vs ks (lv+1) (shredL gap l (lv+1) (now+gap)).2).2+gap):=by rw [<-hr0]
    obtain ⟨ro1,last1,last2,hA1,hl2,he1⟩:=nestL l (lv+1) (now+gap) (k+1) (r0::ro) (r0::ro) (φ (now+gap)) (φ (now+gap)) ((shredM gap vs ks (lv+1) (shredL gap l (lv+1) (now+gap)).2).1.map (stE φ)++rest)
      ⟨closeTo_same _ (by simp only [List.length_cons];omega),by simp only [List.length_cons];omega,by simp only [List.length_cons];omega⟩ (by omega) (Nat.succ_pos k) (by omega) (Int.le_refl _)
    obtain ⟨ro2,last3,last4,hA2,hl4,he2⟩:=nestM vs ks (lv+1) (shredL gap l (lv+1) (now+gap)).2 (k+1+(shredL gap l (lv+1) (now+gap)).1.length) ro1 (r0::ro) last1 last2 rest hA1 (by omega) (by omega) (by omega) hl2
    refine ⟨ro2,last3,⟨?_,hlen,by have:=hA2.le;omega⟩,?_⟩
    · obtain ⟨x,hx⟩:=closeTo_suffix _ _ _ _ hA2.cl
      have hx:ro2=x++(r0::ro):=hx
      have hlr:(((r0::ro).length:Nat):Int)=lv+1:=hA2.len
      have hcl:=hA2.cl
      rw [<-hlr,hx] at hcl
      rw [hx,closeTo_trans x (r0::ro) last3 last4 hcl lv (by omega),closeTo,if_pos (by omega),if_neg,hen]
      · exact closeTo_same _ hlen
      · rw [hen]
        have:=hφ (shredM gap vs ks (lv+1) (shredL gap l (lv+1) (now+gap)).2).2 ((shredM gap vs ks (lv+1) (shredL gap l (lv+1) (now+gap)).2).2+gap) (by omega) (by omega)
        omega
    · rw [he1,he2]
      congr 1
      omega
theorem nestL:∀ (gs:List GVal) (lv:Int) (now:Int) (k:Nat) (ro0 ro:List GRec) (last0 last:Int) (rest:List GRec),AtN lv ro0 last0 ro last->1<=lv->0<k->0<=now->last<=φ now ->
    ∃ ro1 last1 last2,AtN lv ro1 last1 ro last2/\last2<=φ (shredL gap gs lv now).2/\nestFrom k ro0 last0 ((shredL gap gs lv now).1.map (stE φ)++rest)=nestFrom (k+(shredL gap gs lv now).1.length) ro1 last1 rest
  | [],lv,now,k,ro0,ro,last0,last,rest,hA,h0,hk,hn,hl=>⟨ro0,last0,last,hA,hl,rfl⟩
  | g::gs,lv,now,k,ro0,ro,last0,last,rest,hA,h0,hk,hn,hl=>by
    simp only [shredL,List.map_append,List.append_assoc,List.length_append]
    have hinc:=hφ now (now+gap) hn (by omega)
    obtain ⟨h1,h1'⟩:=shredV_len gap g lv false ⟨#[]⟩ now
    have e1:0<=2*gap*((shredV gap g lv false ⟨#[]⟩ now).1.length:Int):=Int.mul_nonneg (by omega) (by omega)
    obtain ⟨ro1,last1,hA1,he1⟩:=nestV g lv false ⟨#[]⟩ now k ro0 ro last0 last ((shredL gap gs lv (shredV gap g lv false ⟨#[]⟩ now).2).1.map (stE φ)++rest) hA (by omega) (by rw [decide_eq_false (by omega),decide_eq_false (by omega)]) hn (by omega)
    obtain ⟨ro2,last3,last4,hA2,hl4,he2⟩:=nestL gs lv (shredV gap g lv false ⟨#[]⟩ now).2 (k+(shredV gap g lv false ⟨#[]⟩ now).1.length) ro1 ro last1 _ rest hA1 h0 (by omega) (by omega) (Int.le_refl _)
    exact ⟨ro2,last3,last4,hA2,hl4,by rw [he1,he2,Nat.add_assoc]⟩
theorem nestM:∀ (gs:List GVal) (ks:List ByteArray) (lv:Int) (now:Int) (k:Nat) (ro0 ro:List GRec) (last0 last:Int) (rest:List GRec),AtN lv ro0 last0 ro last->1<=lv->0<k->0<=now->last<=φ now ->
    ∃ ro1 last1 last2,AtN lv ro1 last1 ro last2/\last2<=φ (shredM gap gs ks lv now).2/\nestFrom k ro0 last0 ((shredM gap gs ks lv now).1.map (stE φ)++rest)=nestFrom (k+(shredM gap gs ks lv now).1.length) ro1 last1 rest
  | [],ks,lv,now,k,ro0,ro,last0,last,rest,hA,h0,hk,hn,hl=>by simp only [shredM];exact ⟨ro0,last0,last,hA,hl,rfl⟩
  | g::gs,[],lv,now,k,ro0,ro,last0,last,rest,hA,h0,hk,hn,hl=>by simp only [shredM];exact ⟨ro0,last0,last,hA,hl,rfl⟩
  | g::gs,nk::ks,lv,now,k,ro0,ro,last0,last,rest,hA,h0,hk,hn,hl=>by
    simp only [shredM,List.map_append,List.append_assoc,List.length_append]
    have hinc:=hφ now (now+gap) hn (by omega)
    obtain ⟨h1,h1'⟩:=shredV_len gap g lv true nk now
    have e1:0<=2*gap*((shredV gap g lv true nk now).1.length:Int):=Int.mul_nonneg (by omega) (by omega)
    obtain ⟨ro1,last1,hA1,he1⟩:=nestV g lv true nk now k ro0 ro last0 last ((shredM gap gs ks lv (shredV gap g lv true nk now).2).1.map (stE φ)++rest) hA (by omega) (by rw [decide_eq_false (by omega),decide_eq_false (by omega)]) hn (by omega)
    obtain ⟨ro2,last3,last4,hA2,hl4,he2⟩:=nestM gs ks lv (shredV gap g lv true nk now).2 (k+(shredV gap g lv true nk now).1.length) ro1 ro last1 _ rest hA1 h0 (by omega) (by omega) (Int.le_refl _)
    exact ⟨ro2,last3,last4,hA2,hl4,by rw [he1,he2,Nat.add_assoc]⟩
end
theorem nested_shred (g:GVal) (nm:Bool) (name:ByteArray) (h0:-1<φ gap):nestedG ((shredV gap g 0 nm name 0).1.map (stE φ))=true:=by
  unfold nestedG
  obtain ⟨ro1,last1,hA,he⟩:=nestV hφ hg g 0 nm name 0 0 [] [] (-1) (-1) [] ⟨rfl,rfl,Int.le_refl _⟩ (Int.le_refl _) rfl (Int.le_refl _) (by rw [Int.zero_add];exact h0)
  rw [List.append_nil] at he
  rw [he,nestFrom,closeAll_of ro1 last1 _ hA.cl,Bool.true_and]
  have:0<(shredV gap g 0 nm name 0).1.length:=by rw [shredV_eq];simp
  simp only [List.length_map]
  exact decide_eq_true (by omega)
end
mutual
theorem namedV (φ:Int->Int) (gap:Int):∀ (g:GVal) (lv:Nat) (nm:Bool) (name:ByteArray) (now:Int) (op o:List Int) (rest:List GRec),kindOk g->op.take lv=o->lv<=op.length->nm=(o.getLast? == some 5)->(nm=false->name=⟨#[]⟩) ->
    ∃ op1,op1.take lv=o/\lv<=op1.length/\namedFrom op ((shredV gap g lv nm name now).1.map (stE φ)++rest)=namedFrom op1 rest
  | .mk kd b n s l ks vs,lv,nm,name,now,op,o,rest,hk,ho,hl,hnm,hna=>by
    simp only [kindOk] at hk
    simp only [shredV,List.map_cons,List.map_append,List.cons_append,List.append_assoc,namedFrom,stE,Int.toNat_natCast,ho]
    have hc:((nm != (o.getLast? == some 5))||(!nm&&!decide (name=⟨#[]⟩)))=false:=by
      rw [<-hnm]
      cases nm with
      | true=>simp
      | false=>simp [hna rfl]
    rw [hc]
    simp only [Bool.false_eq_true,if_false]
    have hol:o.length=lv:=by rw [<-ho,List.length_take];omega
    have hlast:(o++[kd]).getLast?=some kd:=by simp
    have htk:(o++[kd]).take (lv+1)=o++[kd]:=List.take_of_length_le (by simp;omega)
    obtain ⟨op1,h1,h2,h3⟩:=namedL φ gap l (lv+1) (now+gap) (o++[kd]) (o++[kd]) ((shredM gap vs ks ((lv:Int)+1) (shredL gap l ((lv:Int)+1) (now+gap)).2).1.map (stE φ)++rest) hk.2.2.1 htk (by simp;omega) (fun hne=>by rw [hlast];have:=hk.1 hne;simp;exact this)
    obtain ⟨op2,h4,h5,h6⟩:=namedM φ gap vs ks (lv+1) (shredL gap l ((lv:Int)+1) (now+gap)).2 op1 (o++[kd]) rest hk.2.2.2 h1 h2 (fun hne=>by rw [hlast];have:=hk.2.1 hne;simp;exact this)
    refine ⟨op2,?_,by omega,?_⟩
    · have:op2.take lv=(op2.take (lv+1)).take lv:=by rw [List.take_take];congr 1;omega
      rw [this,h4,List.take_append_of_le_length (by omega),List.take_of_length_le (by omega)]
    · exact h3.trans h6
theorem namedL (φ:Int->Int) (gap:Int):∀ (gs:List GVal) (lv:Nat) (now:Int) (op o:List Int) (rest:List GRec),kindOks gs->op.take lv=o->lv<=op.length->(gs≠[]->(o.getLast? == some 5)=false) ->
    ∃ op1,op1.take lv=o/\lv<=op1.length/\namedFrom op ((shredL gap gs lv now).1.map (stE φ)++rest)=namedFrom op1 rest
  | [],lv,now,op,o,rest,hk,ho,hl,hnm=>⟨op,ho,hl,rfl⟩
  | g::gs,lv,now,op,o,rest,hk,ho,hl,hnm=>by
    simp only [kindOks] at hk
    simp only [shredL,List.map_append,List.append_assoc]
    obtain ⟨op1,h1,h2,h3⟩:=namedV φ gap g lv false ⟨#[]⟩ now op o ((shredL gap gs lv (shredV gap g lv false ⟨#[]⟩ now).2).1.map (stE φ)++rest) hk.1 ho hl (hnm (by simp)).symm (fun _=>rfl)
    obtain ⟨op2,h4,h5,h6⟩:=namedL φ gap gs lv (shredV gap g lv false ⟨#[]⟩ now).2 op1 o rest hk.2 h1 h2 (fun _=>hnm (by simp))
    exact ⟨op2,h4,h5,h3.trans h6⟩
theorem namedM (φ:Int->Int) (gap:Int):∀ (gs:List GVal) (ks:List ByteArray) (lv:Nat) (now:Int) (op o:List Int) (rest:List GRec),kindOks gs->op.take lv=o->lv<=op.length->(gs≠[]->(o.getLast? == some 5)=true) ->
    ∃ op1,op1.take lv=o/\lv<=op1.length/\namedFrom op ((shredM gap gs ks lv now).1.map (stE φ)++rest)=namedFrom op1 rest
  | [],ks,lv,now,op,o,rest,hk,ho,hl,hnm=>by simp only [shredM];exact ⟨op,ho,hl,rfl⟩
  | g::gs,[],lv,now,op,o,rest,hk,ho,hl,hnm=>by simp only [shredM];exact ⟨op,ho,hl,rfl⟩
  | g::gs,nk::ks,lv,now,op,o,rest,hk,ho,hl,hnm=>by
    simp only [kindOks] at hk
    simp only [shredM,List.map_append,List.append_assoc]
    obtain ⟨op1,h1,h2,h3⟩:=namedV φ gap g lv true nk now op o ((shredM gap gs ks lv (shredV gap g lv true nk now).2).1.map (stE φ)++rest) hk.1 ho hl (hnm (by simp)).symm (fun h=>by cases h)
    obtain ⟨op2,h4,h5,h6⟩:=namedM φ gap gs ks lv (shredV gap g lv true nk now).2 op1 o rest hk.2 h1 h2 (fun _=>hnm (by simp))
    exact ⟨op2,h4,h5,h3.trans h6⟩
end
theorem named_shred (φ:Int->Int) (gap:Int) (g:GVal) (hk:kindOk g):namedG ((shredV gap g 0 false emptyS 0).1.map (stE φ))=true:=by
  unfold namedG
  obtain ⟨op1,_,_,h⟩:=namedV φ gap g 0 false ⟨#[]⟩ 0 [] [] [] hk rfl (Nat.le_refl _) rfl (fun _=>rfl)
  rw [List.append_nil] at h
  exact h.trans rfl
def behind (lv:Int):List GRec->Prop
  | []=>True
  | r::_=>r.lv<=lv
theorem behind.mono {lv lv':Int} (h:lv<=lv'):∀ {l:List GRec},behind lv l->behind lv' l
  | [],_=>trivial
  | r::_,hb=>by simp only [behind] at hb ⊢;omega
theorem behindV (φ:Int->Int) (gap:Int) (g:GVal) (lv:Int) (nm:Bool) (name:ByteArray) (now:Int) (Y:List GRec):behind lv ((shredV gap g lv nm name now).1.map (stE φ)++Y):=by
  rw [shredV_eq]
  exact Int.le_refl _
theorem behindL (φ:Int->Int) (gap:Int) (gs:List GVal) (lv:Int) (now:Int) (Y:List GRec) (h:behind lv Y):behind lv ((shredL gap gs lv now).1.map (stE φ)++Y):=by
  cases gs with
  | nil=>exact h
  | cons g gs =>
    simp only [shredL,List.map_append,List.append_assoc]
    exact behindV φ gap g lv _ _ now _
theorem behindM (φ:Int->Int) (gap:Int) (gs:List GVal) (ks:List ByteArray) (lv:Int) (now:Int) (Y:List GRec) (h:behind lv Y):behind lv ((shredM gap gs ks lv now).1.map (stE φ)++Y):=by
  cases gs with
  | nil=>simp only [shredM];exact h
  | cons g gs =>
    cases ks with
    | nil=>simp only [shredM];exact h
    | cons k ks =>
      simp only [shredM,List.map_append,List.append_assoc]
      exact behindV φ gap g lv _ _ now _
theorem kids_step (φ:Int->Int) (gap:Int) (g:GVal) (lv:Int) (nm:Bool) (name:ByteArray) (now:Int) (n:Nat) (X:List GRec) (h:buildN n ((shredV gap g (lv+1) nm name now).1.map (stE φ)++X)=(g,X)) :
    kidsN (n+1) lv ((shredV gap g (lv+1) nm name now).1.map (stE φ)++X)=if nm then ⟨(kidsN n lv X).ls,name::(kidsN n lv X).ks,g::(kidsN n lv X).vs,(kidsN n lv X).rest⟩ else ⟨g::(kidsN n lv X).ls,(kidsN n lv X).ks,(kidsN n lv X).vs,(kidsN n lv X).rest⟩:=by
  rw [shredV_eq] at h ⊢
  simp only [List.map_cons,List.cons_append] at h ⊢
  rw [kidsN,h,if_pos (by simp only [stE];omega)]
  rfl
mutual
theorem buildV (φ:Int->Int) (gap:Int):∀ (g:GVal) (lv:Int) (nm:Bool) (name:ByteArray) (now:Int) (n:Nat) (rest:List GRec),g.wf->behind lv rest->2*(shredV gap g lv nm name now).1.length<=n ->
    buildN n ((shredV gap g lv nm name now).1.map (stE φ)++rest)=(g,rest)
  | .mk kd b n s l ks vs,lv,nm,name,now,m,rest,hw,hb,hm=>by
    simp only [GVal.wf] at hw
    simp only [shredV,List.length_cons,List.length_append] at hm
    obtain ⟨m,rfl⟩:∃ m',m=m'+1:=⟨m - 1,by omega⟩
    simp only [shredV,List.map_cons,List.map_append,List.cons_append,List.append_assoc,buildN,stE]
    rw [kidsL φ gap l lv (now+gap) m _ ⟨[],ks,vs,rest⟩ (2*(shredM gap vs ks (lv+1) (shredL gap l (lv+1) (now+gap)).2).1.length+1) (by omega) hw.2.1 (fun m' hm'=>kidsM φ gap vs ks lv (shredL gap l (lv+1) (now+gap)).2 m' rest hw.2.2 hw.1 hb hm') (behindM φ gap vs ks (lv+1) _ _ (hb.mono (by omega))) (by omega)]
    simp
theorem kidsL (φ:Int->Int) (gap:Int):∀ (gs:List GVal) (lv:Int) (now:Int) (n:Nat) (T:List GRec) (K:Kids) (c:Nat),1<=c->GVal.wfs gs->(∀ m,c<=m->kidsN m lv T=K)->behind (lv+1) T ->
    2*(shredL gap gs (lv+1) now).1.length+c<=n->kidsN n lv ((shredL gap gs (lv+1) now).1.map (stE φ)++T)=⟨gs++K.ls,K.ks,K.vs,K.rest⟩
  | [],lv,now,n,T,K,c,hc,hw,hT,hb,hn2=>by
    simp only [shredL,List.map_nil,List.nil_append,List.length_nil] at hn2 ⊢
    exact hT n (by omega)
  | g::gs,lv,now,n,T,K,c,hc,hw,hT,hb,hn2=>by
    simp only [GVal.wfs] at hw
    simp only [shredL,List.map_append,List.append_assoc,List.length_append] at hn2 ⊢
    have hpos:0<(shredV gap g (lv+1) false ⟨#[]⟩ now).1.length:=by rw [shredV_eq];simp
    obtain ⟨n,rfl⟩:∃ m',n=m'+1:=⟨n - 1,by omega⟩
    have hB:=buildV φ gap g (lv+1) false ⟨#[]⟩ now n ((shredL gap gs (lv+1) (shredV gap g (lv+1) false ⟨#[]⟩ now).2).1.map (stE φ)++T) hw.1 (behindL φ gap gs (lv+1) _ _ hb) (by omega)
    rw [kids_step φ gap g lv false ⟨#[]⟩ now n _ hB,kidsL φ gap gs lv (shredV gap g (lv+1) false ⟨#[]⟩ now).2 n T K c hc hw.2 hT hb (by omega)]
    rfl
theorem kidsM (φ:Int->Int) (gap:Int):∀ (vs:List GVal) (ks:List ByteArray) (lv:Int) (now:Int) (n:Nat) (rest:List GRec),GVal.wfs vs->ks.length=vs.length->behind lv rest->2*(shredM gap vs ks (lv+1) now).1.length+1<=n ->
    kidsN n lv ((shredM gap vs ks (lv+1) now).1.map (stE φ)++rest)=⟨[],ks,vs,rest⟩
  | [],ks,lv,now,n,rest,hw,hk,hb,hn=>by
    have hk0:ks=[]:=List.eq_nil_of_length_eq_zero hk
    subst hk0
    simp only [shredM,List.map_nil,List.nil_append,List.length_nil] at hn ⊢
    obtain ⟨n,rfl⟩:∃ m',n=m'+1:=⟨n - 1,by omega⟩
    cases rest with
    | nil=>rfl
    | cons r rest =>
      simp only [behind] at hb
      rw [kidsN,if_neg (by omega)]
  | g::gs,[],lv,now,n,rest,hw,hk,hb,hn=>by simp at hk
  | g::gs,nk::ks,lv,now,n,rest,hw,hk,hb,hn=>by
    simp only [GVal.wfs] at hw
    simp only [shredM,List.map_append,List.append_assoc,List.length_append] at hn ⊢
    have hpos:0<(shredV gap g (lv+1) true nk now).1.length:=by rw [shredV_eq];simp
    obtain ⟨n,rfl⟩:∃ m',n=m'+1:=⟨n - 1,by omega⟩
    have hB:=buildV φ gap g (lv+1) true nk now n ((shredM gap gs ks (lv+1) (shredV gap g (lv+1) true nk now).2).1.map (stE φ)++rest) hw.1 (behindM φ gap gs ks (lv+1) _ _ (hb.mono (by omega))) (by omega)
    rw [kids_step φ gap g lv true nk now n _ hB,kidsM φ gap gs ks lv (shredV gap g (lv+1) true nk now).2 n rest hw.2 (by simpa using hk) hb (by omega)]
    rfl
end
theorem build_shred (φ:Int->Int) (gap:Int) (g:GVal) (nm:Bool) (name:ByteArray) (now:Int) (hw:g.wf):buildG ((shredV gap g 0 nm name now).1.map (stE φ))=(g,[]):=by
  unfold buildG
  have:=buildV φ gap g 0 nm name now (enough ((shredV gap g 0 nm name now).1.map (stE φ))) [] hw trivial (by unfold enough;rw [List.length_map];omega)
  rw [List.append_nil] at this
  exact this
theorem buildR_shred {φ:Int->Int} (hφ:Incr φ) {gap:Int} (hg:1<=gap) (h0:-1<φ gap) (g:GVal) (hw:g.wf) (hs:sane g=0) (hl:(shredV gap g 0 false emptyS 0).1.length<=4096)
    (hen:φ (shredV gap g 0 false emptyS 0).2<=1099511627776):buildR ((shredV gap g 0 false emptyS 0).1.map (stE φ))=(g,0):=by
  have hk:=sane_kind g 0 0 hw hs
  have hB:=build_shred φ gap g false emptyS 0 hw
  have hhead:((((shredV gap g 0 false emptyS 0).1.map (stE φ)).head?.map GRec.en).getD 0)=φ (shredV gap g 0 false emptyS 0).2:=by rw [shredV_eq];rfl
  unfold buildR
  rw [if_neg,if_neg,hB]
  · rw [hB];simp [hs]
  · rw [hhead,List.length_map,nested_shred hφ hg g false emptyS h0,named_shred φ gap g hk]
    rintro (h | h | h | h)
    · omega
    · cases h
    · cases h
    · omega
end Go.Sy
/- Bounds on a value's records. No program in sight. -/
namespace Go.Sy
mutual
theorem shredV_fit {σ:Snap} (gap:Int):∀ (g:GVal) (r:List AT) (lv:Int) (nm:Bool) (name:ByteArray) (now:Int),RepV σ g r->name.size<=mostLen->RecsFit (shredV gap g lv nm name now).1
  | .mk kd b n s l ks vs,r,lv,nm,name,now,h,hn=>by
    simp only [RepV] at h
    obtain ⟨_,_,_,_,_,_,_,_,h3,h4,_,h6,h7,h8,_,_,h9⟩:=h
    simp only [shredV]
    intro x hx
    rcases List.mem_cons.1 hx with rfl | hx
    · exact ⟨h7,h8,hn⟩
    · rcases List.mem_append.1 hx with hx | hx
      · exact shredL_fit gap l _ _ _ h3 x hx
      · exact shredM_fit gap vs _ ks _ _ h6 h9 x hx
theorem shredL_fit {σ:Snap} (gap:Int):∀ (gs:List GVal) (rs:List (List AT)) (lv:Int) (now:Int),RepL σ gs rs->RecsFit (shredL gap gs lv now).1
  | [],_,_,_,_=>fun x hx=>by cases hx
  | g::gs,rs,lv,now,h=>by
    simp only [RepL] at h
    obtain ⟨r,rs',_,h2,h3⟩:=h
    simp only [shredL]
    intro x hx
    rcases List.mem_append.1 hx with hx | hx
    · exact shredV_fit gap g r _ _ _ _ h2 (by simp [mostLen,ByteArray.size]) x hx
    · exact shredL_fit gap gs rs' _ _ h3 x hx
theorem shredM_fit {σ:Snap} (gap:Int):∀ (gs:List GVal) (rs:List (List AT)) (ks:List ByteArray) (lv:Int) (now:Int),RepL σ gs rs->(∀ k∈ks,k.size<=mostLen)->RecsFit (shredM gap gs ks lv now).1
  | [],_,ks,_,_,_,_=>by simp only [shredM];exact fun x hx=>by cases hx
  | g::gs,_,[],_,_,_,_=>by simp only [shredM];exact fun x hx=>by cases hx
  | g::gs,rs,nk::ks,lv,now,h,hk=>by
    simp only [RepL] at h
    obtain ⟨r,rs',_,h2,h3⟩:=h
    simp only [shredM]
    intro x hx
    rcases List.mem_append.1 hx with hx | hx
    · exact shredV_fit gap g r _ _ _ _ h2 (hk nk (List.mem_cons_self ..)) x hx
    · exact shredM_fit gap gs rs' ks _ _ h3 (fun k hk'=>hk k (List.mem_cons_of_mem _ hk')) x hx
end
end Go.Sy
namespace Go.Sy
open Go.Proofs
mutual
def cntV:GVal->Nat
  | .mk _ _ _ _ l _ vs=>1+(cntL l+cntL vs)
def cntL:List GVal->Nat
  | []=>0
  | g::gs=>cntV g+cntL gs
end
theorem cntV_eq (g:GVal):cntV g=1+(cntL g.l+cntL g.vs):=by cases g;rw [cntV];rfl
mutual
theorem shredV_cnt (gap:Int):∀ (g:GVal) (lv:Int) (nm:Bool) (name:ByteArray) (now:Int),g.wf->(shredV gap g lv nm name now).1.length=cntV g
  | .mk k b n s l ks vs,lv,nm,name,now,h=>by
    simp only [GVal.wf] at h
    simp only [shredV,List.length_cons,List.length_append,cntV,shredL_cnt gap l _ _ h.2.1,shredM_cnt gap vs ks _ _ h.1 h.2.2]
    omega
theorem shredL_cnt (gap:Int):∀ (gs:List GVal) (lv now:Int),GVal.wfs gs->(shredL gap gs lv now).1.length=cntL gs
  | [],lv,now,_=>by simp [shredL,cntL]
  | g::gs,lv,now,h=>by
    simp only [GVal.wfs] at h
    simp only [shredL,List.length_append,cntL,shredV_cnt gap g _ _ _ _ h.1,shredL_cnt gap gs _ _ h.2]
theorem shredM_cnt (gap:Int):∀ (gs:List GVal) (ks:List ByteArray) (lv now:Int),ks.length=gs.length->GVal.wfs gs->(shredM gap gs ks lv now).1.length=cntL gs
  | [],ks,lv,now,_,_=>by simp [shredM,cntL]
  | g::gs,[],lv,now,h,_=>by simp at h
  | g::gs,k::ks,lv,now,h,h'=>by
    simp only [GVal.wfs] at h'
    simp only [shredM,List.length_append,cntL,shredV_cnt gap g _ _ _ _ h'.1,shredM_cnt gap gs ks _ _ (by simpa using h) h'.2]
end
theorem shredG_k {g:GVal} {gap:Int} (h1:1<=gap) (h2:gap<=1000):shredG g gap=if sane g≠0 then ([],sane g) else ((shredV gap g 0 false emptyS 0).1,0):=by
  unfold shredG
  rw [if_neg (by omega)]
end Go.Sy
/- Plain laws about the shred as a list: whose records stand under whose. -/
namespace Go.Sy
abbrev Sk:=List (Int×Int)
def front (en:Int) (rest:Sk):Prop:=∀ x,rest.head?=some x->en<=x.1
theorem cntV_pos (g:GVal):0<cntV g:=by rw [cntV_eq];omega
def chain (S:Sk) (en:Int):Int->List Nat->Prop
  | _,[]=>True
  | last,m::ms=>∃ x,S[m]?=some x/\last<x.1/\x.2<en/\chain S en x.2 ms
end Go.Sy
namespace Go.Sy
open Go.Proofs
def strRows (l:List ByteArray):List (List AT):=l.map fun s=>[.v (.string s)]
theorem strRows_get {l:List ByteArray} {i:Nat} {s:ByteArray} (h:l[i]?=some s):(strRows l)[i]?=some [.v (.string s)]:=by unfold strRows;rw [List.getElem?_map,h];rfl
theorem take_succ_eq {α:Type} {a b:List α} {k:Nat} (h:a.take k=b.take k) (ha:k<a.length) (hb:k<b.length):a.take (k+1)=b.take (k+1)↔a[k]=b[k]:=by
  rw [List.take_succ_eq_append_getElem ha,List.take_succ_eq_append_getElem hb,h,List.append_cancel_left_eq,List.cons.injEq]
  simp
set_option maxRecDepth 100000 in
set_option maxHeartbeats 1000000 in
theorem Equal_c (σ:Snap) (a b:List ByteArray) (hl:a.length<=140737488355328) (ao bo:Option Addr) (ac bc:Nat) (HA:SlAt σ ao a.length ac 1 (strRows a)) (HB:SlAt σ bo b.length bc 1 (strRows b)) :
    PlainS Tryz.prog 181 [.a (.v (.slice ao a.length ac)),.a (.v (.slice bo b.length bc))] σ (fun x=>x=.bool (decide (a=b))):=by
  refine enter_p Tryz.func181 rfl rfl (by (repeat' (first | exact trivial | constructor))) fun w=>?_
  (repeat (first | refine cj_seq ?_ | refine cjr TT rfl ?_ | refine oj_then ?_))
  refine cj_if rfl (fun h=>?_) (fun h=>?_)
  · have h:¬ (a.length:Int)=b.length:=by simpa using h
    (repeat (first | refine cj_seq ?_ | refine cjr TT rfl ?_ | refine oj_then ?_ | refine cj_ret ?_ | refine nj_then_ret ?_))
    refine nj_ret TT rfl fun β w' _ _=>?_
    rw [decide_eq_false (fun e=>h (by rw [e]))]
    rfl
  have hlen:a.length=b.length:=by
    have h:(a.length:Int)=b.length:=by simpa using h
    omega
  (repeat (first | refine cj_seq ?_ | refine cjr TT rfl ?_ | refine oj_then ?_ | refine cj_skip ?_ | refine cj_block ?_ | refine nj_then ?_))
  refine cj_loop (fun (_:Nat)=>σ) (fun k=>[(0,.a (.v (.slice ao a.length ac))),(1,.a (.v (.slice bo b.length bc))),(12,.a (.v (.int .i64 a.length))),(13,.a (.v (.int .i64 k)))]) (fun _=>[]) (fun _=>[]) 0
    (fun k=>k<=a.length/\a.take k=b.take k) (fun k=>a.length - k) 0 ⟨Nat.zero_le _,rfl⟩ rfl (by (repeat first | exact trivial | refine ⟨rfl,?_⟩)) (by (repeat first | exact trivial | refine ⟨rfl,?_⟩)) rfl (by (repeat' (first | exact trivial | constructor))) (by (repeat' exact trivial)) fun k ⟨hk,hp⟩=>?_
  (repeat (first | refine cj_seq ?_ | refine cjr TT rfl ?_ | refine oj_then ?_))
  refine cj_if rfl (fun h=>?_) (fun h=>?_)
  rotate_left
  · have hk0:k=a.length:=by have:=of_decide_eq_false h;omega
    subst hk0
    rw [List.take_length,hlen,List.take_length] at hp
    (repeat (first | refine cj_seq ?_ | refine cjr TT rfl ?_ | refine oj_then ?_ | refine cj_exit ?_ | refine cj_ret ?_ | refine nj_then ?_ | refine nj_then_exit ?_ | refine nj_block_out ?_))
    refine nj_ret TT rfl fun β w' _ _=>?_
    rw [decide_eq_true hp]
    rfl
  have hkl:k<a.length:=by have:=of_decide_eq_true h;omega
  have hkl':k<b.length:=by omega
  have hra:=strRows_get (List.getElem?_eq_getElem hkl)
  have hrb:=strRows_get (List.getElem?_eq_getElem hkl')
  have hne:a[k]≠b[k]->a≠b:=fun hn e=>hn (by subst e;rfl)
  have hiff:=take_succ_eq hp hkl hkl'
  generalize a[k]=x at *
  generalize b[k]=y at *
  (repeat (first | refine cj_seq ?_ | refine cjr TT rfl ?_ | refine oj_then ?_ | refine cj_skip ?_ | refine cj_block ?_ | refine nj_then ?_))
  refine cj_draw [(0,.pure),(1,.pure),(2,.pure),(3,.quiet),(4,.pure),(5,.pure),(6,.pure),(7,.quiet),(8,.pure)] mixed (by kernel_rfl) (oj_run TT rfl ?_)
  refine oj_idx TT rfl rfl rfl rfl rfl rfl rfl rfl rfl HA (by omega) hra (oj_run TT rfl ?_)
  refine oj_idx TT rfl rfl rfl rfl rfl rfl rfl rfl rfl HB (by omega) hrb (oj_run TT rfl ?_)
  (repeat refine oj_then ?_)
  refine cj_if rfl (fun h=>?_) (fun h=>?_)
  · have h:¬ x=y:=by simpa using h
    (repeat (first | refine cj_seq ?_ | refine cjr TT rfl ?_ | refine oj_then ?_ | refine cj_ret ?_ | refine nj_then_ret ?_ | refine nj_block_ret ?_))
    refine nj_ret TT rfl fun β w' _ _=>?_
    rw [decide_eq_false (hne h)]
    rfl
  · have h:x=y:=by simpa using h
    (repeat (first | refine cjr TT rfl ?_ | refine oj_nil ?_ | refine cj_skip ?_ | refine nj_then ?_ | refine nj_block ?_ | (refine oj_add rfl rfl rfl rfl rfl rfl (by omega) ?_;refine oj_run TT rfl ?_)))
    refine nj_again (k+1) ⟨hkl,hiff.2 h⟩ (by omega) rfl (by (repeat first | exact trivial | refine ⟨rfl,?_⟩)) (by (repeat first | exact trivial | refine ⟨rfl,?_⟩)) rfl (by (repeat' (first | exact trivial | constructor))) (by (repeat' exact trivial))
structure GLine where
  id:Int
  ao:Option Addr
  cap:Nat
  st:List ByteArray
  cnt:Int
def lnCells (x:GLine):List AT:=[.v (.int .i64 x.id),.v (.slice x.ao x.st.length x.cap),.v (.int .i64 x.cnt)]
theorem lnCells_lt (n:Nat) (x:GLine):∀ c∈lnCells x,c.lt n:=by simp [lnCells,AT.lt]
def lnRows (l:List GLine):List (List AT):=l.map lnCells
theorem lnRows_get {l:List GLine} {i:Nat} {x:GLine} (h:l[i]?=some x):(lnRows l)[i]?=some (lnCells x):=by unfold lnRows;rw [List.getElem?_map,h];rfl
def LnOk (σ:Snap) (x:GLine):Prop:=x.st.length<=140737488355328/\SlAt σ x.ao x.st.length x.cap 1 (strRows x.st)
theorem LnOk.mono {σ σ':Snap} {x:GLine} (h:LnOk σ x) (hle:σ.le σ'):LnOk σ' x:=⟨h.1,h.2.mono hle⟩
def findG {α:Type} (q:α->Bool):List α->Nat->Int
  | [],_ => -1
  | x::l,k=>if q x then k else findG q l (k+1)
theorem findG_bd {α:Type} (q:α->Bool):∀ (l:List α) (k:Nat),-1<=findG q l k/\findG q l k<(k+l.length:Nat)
  | [],k=>by simp only [findG,List.length_nil];omega
  | x::l,k=>by
    have:=findG_bd q l (k+1)
    simp only [findG,List.length_cons]
    split<;>omega
set_option maxRecDepth 100000 in
set_option maxHeartbeats 1000000 in
theorem IndexFuncL_c (σ:Snap) (xs:List GLine) (hl:xs.length<=140737488355328) (ao:Option Addr) (cap:Nat) (H:SlAt σ ao xs.length cap 3 (lnRows xs)) (f:FuncId) (caps:List PT) (hcap:LtAll (caps.map ptSV))
    (hcall:∀ args w,(callFunc f args).run Tryz.prog w=.ok (.enter f args) w) (q:GLine->Bool) (hq:∀ x∈xs,PlainS Tryz.prog f (.agg (lnCells x)::caps.map ptSV) σ (fun v=>v=.bool (q x))) (hlt:(SV.a (.fn (.func f) caps)).lt 0) :
    PlainS Tryz.prog 217 [.a (.v (.slice ao xs.length cap)),.a (.fn (.func f) caps)] σ (fun x=>x=.int .i64 (findG q xs 0)):=by
  refine enter_p Tryz.func217 rfl rfl ⟨trivial,hlt,trivial⟩ fun w=>?_
  (repeat (first | refine cj_seq ?_ | refine cjr TT rfl ?_ | refine oj_then ?_ | refine cj_block ?_))
  refine cj_loop (fun (_:Nat)=>σ) (fun k=>[(0,.a (.v (.slice ao xs.length cap))),(1,.a (.fn (.func f) caps)),(7,.a (.v (.int .i64 xs.length))),(8,.a (.v (.int .i64 k)))]) (fun _=>[]) (fun _=>[]) 0
    (fun k=>k<=xs.length/\findG q (xs.drop k) k=findG q xs 0) (fun k=>xs.length - k) 0 ⟨Nat.zero_le _,rfl⟩ rfl (by (repeat first | exact trivial | refine ⟨rfl,?_⟩)) (by (repeat first | exact trivial | refine ⟨rfl,?_⟩)) rfl ⟨trivial,hlt,trivial,trivial,trivial⟩ trivial fun k ⟨hk,hp⟩=>?_
  (repeat (first | refine cj_seq ?_ | refine cjr TT rfl ?_ | refine oj_then ?_))
  refine cj_if rfl (fun h=>?_) (fun h=>?_)
  rotate_left
  · have hk0:k=xs.length:=by have:=of_decide_eq_false h;omega
    subst hk0
    rw [List.drop_length] at hp
    (repeat (first | refine cj_seq ?_ | refine cjr TT rfl ?_ | refine oj_then ?_ | refine cj_exit ?_ | refine cj_ret ?_ | refine nj_then ?_ | refine nj_then_exit ?_ | refine nj_block_out ?_))
    refine nj_ret TT rfl fun β w' _ _=>?_
    rw [<-hp]
    rfl
  have hkl:k<xs.length:=by have:=of_decide_eq_true h;omega
  have hra:=lnRows_get (List.getElem?_eq_getElem hkl)
  have hqx:=hq xs[k] (List.getElem_mem hkl)
  rw [List.drop_eq_getElem_cons hkl,findG] at hp
  generalize xs[k]=x at *
  (repeat (first | refine cj_seq ?_ | refine cjr TT rfl ?_ | refine oj_then ?_ | refine cj_skip ?_ | refine cj_block ?_ | refine nj_then ?_))
  refine oj_idx TT rfl rfl rfl rfl rfl rfl rfl rfl rfl H (by omega) hra (oj_run TT rfl ?_)
  refine oj_callP (ys:=.agg (lnCells x)::caps.map ptSV) rfl rfl rfl rfl rfl hcall ⟨lnCells_lt 0 x,hcap⟩ hqx fun v hv=>⟨.a (.b (q x)),trivial,hv.symm,?_⟩
  refine oj_run TT rfl ?_
  (repeat refine oj_then ?_)
  refine cj_if rfl (fun h=>?_) (fun h=>?_)
  · rw [h] at hp
    (repeat (first | refine cj_seq ?_ | refine cjr TT rfl ?_ | refine oj_then ?_ | refine cj_ret ?_ | refine nj_then_ret ?_ | refine nj_block_ret ?_))
    refine nj_ret TT rfl fun β w' _ _=>?_
    rw [<-hp]
    rfl
  · rw [h] at hp
    (repeat (first | refine cjr TT rfl ?_ | refine oj_nil ?_ | refine cj_skip ?_ | refine nj_then ?_ | refine nj_block ?_ | (refine oj_add rfl rfl rfl rfl rfl rfl (by omega) ?_;refine oj_run TT rfl ?_)))
    refine nj_again (k+1) ⟨hkl,hp⟩ (by omega) rfl (by (repeat first | exact trivial | refine ⟨rfl,?_⟩)) (by (repeat first | exact trivial | refine ⟨rfl,?_⟩)) rfl ⟨trivial,hlt,trivial,trivial,trivial⟩ trivial
set_option maxRecDepth 100000 in
set_option maxHeartbeats 1000000 in
theorem where_c (σ:Snap) (xs:List GLine) (hl:xs.length<=140737488355328) (ao:Option Addr) (cap:Nat) (next:Int) (H:SlAt σ ao xs.length cap 3 (lnRows xs)) (f:FuncId) (caps:List PT) (hcap:LtAll (caps.map ptSV))
    (hcall:∀ args w,(callFunc f args).run Tryz.prog w=.ok (.enter f args) w) (q:GLine->Bool) (hq:∀ x∈xs,PlainS Tryz.prog f (.agg (lnCells x)::caps.map ptSV) σ (fun v=>v=.bool (q x))) (hlt:(SV.a (.fn (.func f) caps)).lt 0) :
    PlainS Tryz.prog 179 [.agg [.v (.slice ao xs.length cap),.v (.int .i64 next)],.a (.fn (.func f) caps)] σ (fun x=>x=.int .i64 (findG q xs 0)):=by
  refine enter_p Tryz.func179 rfl rfl ⟨(by (repeat' (first | exact trivial | refine AllLt.of ?_ | constructor))),hlt,trivial⟩ fun w=>?_
  (repeat (first | refine cj_seq ?_ | refine cjr TT rfl ?_ | refine oj_then ?_))
  refine oj_callP rfl rfl rfl rfl rfl Tryz.call217 ⟨trivial,hlt,trivial⟩ (IndexFuncL_c σ xs hl ao cap H f caps hcap hcall q hq hlt) fun v hv=>⟨.a (.v (.int .i64 (findG q xs 0))),trivial,hv.symm,?_⟩
  refine oj_run TT rfl ?_
  (repeat (first | refine oj_then ?_ | refine cj_ret ?_))
  refine nj_ret TT rfl fun β w' _ _=>?_
  rfl
def ptrTo (g:Nat):PT:=.val (.pointer (some ⟨g,0,none⟩))
theorem fn_lt1 (f:Fn) (g n:Nat):(SV.a (.fn f [ptrTo g])).lt n:=by
  intro x hx
  rw [List.mem_singleton] at hx
  subst hx
  trivial
set_option maxRecDepth 100000 in
set_option maxHeartbeats 1000000 in
theorem line1_c (σ:Snap) (x:GLine) (hx:LnOk σ x) (s:List ByteArray) (so:Option Addr) (sc:Nat) (S:SlAt σ so s.length sc 1 (strRows s)) (g:Nat) (hg:σ.cell ⟨g,0,none⟩=some (.slice so s.length sc)) :
    PlainS Tryz.prog 180 (.agg (lnCells x)::[ptrTo g].map ptSV) σ (fun v=>v=.bool (decide (x.st=s))):=by
  refine enter_p Tryz.func180 rfl rfl ⟨lnCells_lt 0 x,trivial,trivial⟩ fun w=>?_
  (repeat (first | refine cj_seq ?_ | refine cjr TT rfl ?_ | refine oj_then ?_))
  refine oj_ldS (c:=.v (.slice so s.length sc)) TT rfl rfl rfl rfl rfl rfl rfl rfl hg trivial (oj_run TT rfl ?_)
  refine oj_callP rfl rfl rfl rfl rfl Tryz.call181 (by (repeat' (first | exact trivial | constructor))) (Equal_c σ x.st s hx.1 x.ao so x.cap sc hx.2 S) fun v hv=>⟨.a (.b (decide (x.st=s))),trivial,hv.symm,?_⟩
  refine oj_run TT rfl ?_
  (repeat (first | refine oj_then ?_ | refine cj_ret ?_))
  refine nj_ret TT rfl fun β w' _ _=>?_
  rfl
def lineG (xs:List GLine) (s:List ByteArray):Int:=findG (fun x=>decide (x.st=s)) xs 0
set_option maxRecDepth 100000 in
set_option maxHeartbeats 1000000 in
theorem line_c (σ:Snap) (xs:List GLine) (hl:xs.length<=140737488355328) (ao:Option Addr) (cap:Nat) (next:Int) (H:SlAt σ ao xs.length cap 3 (lnRows xs)) (hx:∀ x∈xs,LnOk σ x)
    (s:List ByteArray) (so:Option Addr) (sc:Nat) (S:SlAt σ so s.length sc 1 (strRows s)) :
    PlainS Tryz.prog 116 [.agg [.v (.slice ao xs.length cap),.v (.int .i64 next)],.a (.v (.slice so s.length sc))] σ (fun v=>v=.int .i64 (lineG xs s)):=by
  refine enter_p Tryz.func116 rfl rfl (by (repeat' (first | exact trivial | refine AllLt.of ?_ | constructor))) fun w=>?_
  (repeat (first | refine cj_seq ?_ | refine cjr TT rfl ?_ | refine oj_then ?_))
  refine oj_own 1 1 1 rfl (by (repeat' (first | exact trivial | refine AllLt.of ?_ | constructor))) rfl (by decide) fun g=>?_
  refine oj_seal 0 rfl rfl rfl fun σ1 hle1 hS=>?_
  have hg:σ1.cell ⟨g,0,none⟩=some (.slice so s.length sc):=by
    rcases hS with ⟨h,_⟩ | ⟨g',h1,h2⟩
    · cases h
    · obtain rfl:g=g':=by simpa using h1
      exact h2 0 _ rfl
  refine oj_callP rfl rfl rfl rfl rfl Tryz.call179 ⟨(by (repeat' (first | exact trivial | refine AllLt.of ?_ | constructor))),fn_lt1 (.func 180) g 0,trivial⟩ (where_c σ1 xs hl ao cap next (H.mono hle1) 180 [ptrTo g] ⟨trivial,trivial⟩ Tryz.call180 (fun x=>decide (x.st=s)) (fun x hm=>line1_c σ1 x ((hx x hm).mono hle1) s so sc (S.mono hle1) g hg) (fn_lt1 (.func 180) g 0)) fun v hv=>⟨.a (.v (.int .i64 (lineG xs s))),trivial,hv.symm,?_⟩
  refine oj_run TT rfl ?_
  (repeat (first | refine oj_then ?_ | refine cj_ret ?_))
  refine nj_ret TT rfl fun β w' _ _=>?_
  rfl
end Go.Sy
namespace Go.Sy
open Go.Proofs
structure SRow where
  ao:Option Addr
  cap:Nat
  ss:List ByteArray
def srCells (r:SRow):List AT:=[.v (.slice r.ao r.ss.length r.cap)]
def srRows (l:List SRow):List (List AT):=l.map srCells
theorem srRows_get {l:List SRow} {i:Nat} {x:SRow} (h:l[i]?=some x):(srRows l)[i]?=some (srCells x):=by unfold srRows;rw [List.getElem?_map,h];rfl
def SrOk (σ:Snap) (x:SRow):Prop:=x.ss.length<=140737488355328/\SlAt σ x.ao x.ss.length x.cap 1 (strRows x.ss)
theorem SrOk.mono {σ σ':Snap} {x:SRow} (h:SrOk σ x) (hle:σ.le σ'):SrOk σ' x:=⟨h.1,h.2.mono hle⟩
def lnXs (l:List GLine):List Value:=(lnRows l).flatten.map AT.val
def lnE (bo:Option Addr) (bc:Nat) (l:List GLine):AE:=⟨bo,l.length,bc,211,3,lnXs l⟩
theorem lnXs_append (a b:List GLine):lnXs (a++b)=lnXs a++lnXs b:=by simp [lnXs,lnRows]
theorem lnRows_all (a:List GLine):∀ r∈lnRows a,r.length=3/\(∀ c∈r,c.lt 0)/\r.all AT.one=true:=by
  intro r hr
  obtain ⟨x,_,rfl⟩:=List.mem_map.1 hr
  exact ⟨rfl,lnCells_lt 0 x,rfl⟩
theorem lnXs_get {l:List GLine} {i j:Nat} {r:GLine} {c:AT} (h:l[i]?=some r) (hj:(lnCells r)[j]?=some c):(lnXs l)[i*3+j]?=some c.val:=by
  unfold lnXs
  rw [List.getElem?_map,flat_get (sz:=3) (fun r hr=>(lnRows_all l r hr).1) (lnRows_get h) hj]
  rfl
theorem lnXs_set {l:List GLine} {i j:Nat} {r r':GLine} (c:AT) (h:l[i]?=some r) (hj:j<3) (hr:(lnCells r).set j c=lnCells r'):(lnXs l).set (i*3+j) c.val=lnXs (l.set i r'):=by
  unfold lnXs
  rw [<-List.map_set,flat_set (sz:=3) (fun r hr=>(lnRows_all l r hr).1) c (lnRows_get h) hj,hr]
  congr 2
  unfold lnRows
  rw [List.map_set]
theorem ln_sealed {σ:Snap} {bo:Option Addr} {bc:Nat} {l:List GLine} (h:ArrSealed σ (lnE bo bc l)) (hc:l.length<=bc):SlAt σ bo l.length bc 3 (lnRows l) :=
  h.sl (E:=lnE bo bc l) rfl (fun r hr=>⟨(lnRows_all l r hr).1,(lnRows_all l r hr).2.1⟩) (by simp [lnRows]) rfl hc
def idXs (l:List Int):List Value:=l.map fun k=>Value.int .i64 k
def idRows (l:List Int):List (List AT):=l.map fun k=>[.v (.int .i64 k)]
def idE (bo:Option Addr) (bc:Nat) (l:List Int):AE:=⟨bo,l.length,bc,3,1,idXs l⟩
theorem idRows_flat:∀ o:List Int,idXs o=(idRows o).flatten.map AT.val
  | []=>rfl
  | k::o=>by
    show Value.int .i64 k::idXs o=_
    rw [idRows_flat o]
    rfl
theorem idRows_get {l:List Int} {i:Nat} {x:Int} (h:l[i]?=some x):(idRows l)[i]?=some [.v (.int .i64 x)]:=by unfold idRows;rw [List.getElem?_map,h];rfl
theorem id_sealed {σ:Snap} {oo:Option Addr} {oc:Nat} {o:List Int} (h:ArrSealed σ (idE oo oc o)) (hc:o.length<=oc):SlAt σ oo o.length oc 1 (idRows o) :=
  h.sl (E:=idE oo oc o) (idRows_flat o) (fun r hr=>by
    obtain ⟨k,_,rfl⟩:=List.mem_map.1 hr
    exact ⟨rfl,fun c hc=>by cases hc with | head=>trivial | tail _ h=>cases h⟩) (by simp [idRows]) rfl hc
set_option maxRecDepth 100000 in
set_option maxHeartbeats 1000000 in
theorem CloneLn_c (σ:Snap) (xs:List GLine) (hl:xs.length<=1000000) (ao:Option Addr) (cap:Nat) (H:SlAt σ ao xs.length cap 3 (lnRows xs)) :
    FnS Tryz.prog 170 [.a (.v (.slice ao xs.length cap))] σ [] (fun v _ A'=>∃ bo bc,v=.slice bo xs.length bc/\xs.length<=bc/\A'=[lnE bo bc xs]):=by
  refine enter_f Tryz.func170 rfl rfl (by (repeat' (first | exact trivial | constructor))) fun w=>?_
  (repeat (first | refine cj_seq ?_ | refine cjr TT rfl ?_ | refine oj_then ?_ | (refine oj_slnil TT rfl rfl rfl rfl rfl rfl rfl rfl ?_;refine oj_run TT rfl ?_)))
  refine cj_if rfl (fun h=>?_) (fun h=>?_)
  · have h0:ao=none:=by simpa using h
    have hn0:xs.length=0:=by
      rcases H.at_ with h1 | ⟨ad,h1,_⟩
      · exact h1
      · rw [h0] at h1;cases h1
    have hr:xs=[]:=List.eq_nil_of_length_eq_zero hn0
    subst hr
    (repeat (first | refine cj_seq ?_ | refine cjr TT rfl ?_ | refine oj_then ?_ | refine cj_ret ?_ | refine nj_then_ret ?_))
    refine nj_nilarr 211 3 ?_
    refine nj_fret TT rfl fun β w' _ _=>?_
    exact ⟨none,0,rfl,Nat.le_refl _,rfl⟩
  (repeat (first | refine cj_seq ?_ | refine cjr TT rfl ?_ | refine cj_skip ?_ | refine nj_then ?_))
  refine oj_own 0 0 3 rfl (by (repeat' (first | exact trivial | refine AllLt.of ?_))) rfl (by decide) fun gb=>?_
  refine oj_append_sl TT 0 rfl rfl rfl rfl rfl rfl rfl H rfl rfl rfl rfl rfl rfl rfl rfl rfl (fun r hr=>(lnRows_all xs r hr).2.2) (by omega) (by show (0+xs.length)*40<=_;omega) fun ao' cap' hcap'=>oj_run TT rfl ?_
  (repeat (first | refine oj_then ?_ | refine cj_ret ?_))
  refine nj_fret TT rfl fun β w' _ _=>?_
  refine ⟨ao',cap',by show Value.slice ao' (0+xs.length) cap'=_;rw [Nat.zero_add],by omega,?_⟩
  show [_]=[_]
  rw [Nat.zero_add]
  rfl
structure GSt where
  xs:List GLine
  next:Int
  ids:List Int
def GLine.more (x:GLine):GLine:=⟨x.id,x.ao,x.cap,x.st,x.cnt+1⟩
def newLn (next:Int) (p:SRow):GLine:=⟨next,p.ao,p.cap,p.ss,0⟩
def addOne (s:GSt) (p:SRow):GSt :=
  if lineG s.xs p.ss<0 then ⟨s.xs++[(newLn s.next p).more],s.next+1,s.ids++[s.next]⟩
  else match s.xs[(lineG s.xs p.ss).toNat]? with
    | some x=>⟨s.xs.set (lineG s.xs p.ss).toNat x.more,s.next,s.ids++[x.id]⟩
    | none=>s
def addAll (s:GSt) (ps:List SRow):GSt:=ps.foldl addOne s
structure GFit (m:Nat) (s:GSt):Prop where
  xs:s.xs.length<=m
  ids:s.ids.length<=m
  next:-m<=s.next/\s.next<=m
  cnt:∀ x∈s.xs,-m<=x.cnt/\x.cnt<=m
theorem GFit.mono {m n:Nat} {s:GSt} (h:GFit m s) (hmn:m<=n):GFit n s :=
  ⟨Nat.le_trans h.xs hmn,Nat.le_trans h.ids hmn,by have:=h.next;omega,fun x hx=>by have:=h.cnt x hx;omega⟩
theorem lineG_bd (xs:List GLine) (s:List ByteArray):-1<=lineG xs s/\lineG xs s<xs.length:=by
  have:=findG_bd (fun x:GLine=>decide (x.st=s)) xs 0
  unfold lineG
  omega
theorem addOne_fit {m:Nat} {s:GSt} (h:GFit m s) (p:SRow):GFit (m+1) (addOne s p):=by
  unfold addOne
  split
  · refine ⟨by have:=h.xs;simp;omega,by have:=h.ids;simp;omega,by have:=h.next;dsimp only;omega,fun x hx=>?_⟩
    rcases List.mem_append.1 hx with hx | hx
    · have:=h.cnt x hx;omega
    · rw [List.mem_singleton] at hx
      subst hx
      show -((m+1:Nat):Int)<=(0:Int)+1/\(0:Int)+1<=((m+1:Nat):Int)
      omega
  · split
    · rename_i x hx
      refine ⟨by have:=h.xs;rw [List.length_set];omega,by have:=h.ids;simp;omega,by have:=h.next;dsimp only;omega,fun y hy=>?_⟩
      rcases List.mem_or_eq_of_mem_set hy with hy | hy
      · have:=h.cnt y hy;omega
      · subst hy
        have:=h.cnt x (List.mem_of_getElem? hx)
        show -((m+1:Nat):Int)<=x.cnt+1/\x.cnt+1<=((m+1:Nat):Int)
        omega
    · exact h.mono (by omega)
theorem addAll_fit:∀ (ps:List SRow) {m:Nat} {s:GSt},GFit m s->GFit (m+ps.length) (addAll s ps)
  | [],m,s,h=>h
  | p::ps,m,s,h=>(addAll_fit ps (addOne_fit h p)).mono (by simp only [List.length_cons];omega)
theorem addOne_ok {σ:Snap} {s:GSt} (h:∀ x∈s.xs,LnOk σ x) {p:SRow} (hp:SrOk σ p):∀ x∈(addOne s p).xs,LnOk σ x:=by
  unfold addOne
  split
  · intro x hx
    rcases List.mem_append.1 hx with hx | hx
    · exact h x hx
    · rw [List.mem_singleton] at hx;subst hx;exact hp
  · split
    · rename_i x hx
      intro y hy
      rcases List.mem_or_eq_of_mem_set hy with hy | hy
      · exact h y hy
      · subst hy;exact h x (List.mem_of_getElem? hx)
    · exact h
theorem addAll_ok {σ:Snap}:∀ (ps:List SRow) {s:GSt},(∀ x∈s.xs,LnOk σ x)->(∀ p∈ps,SrOk σ p)->∀ x∈(addAll s ps).xs,LnOk σ x
  | [],_,h,_=>h
  | p::ps,_,h,hp=>addAll_ok ps (addOne_ok h (hp p List.mem_cons_self)) fun q hq=>hp q (List.mem_cons_of_mem _ hq)
structure AdS where
  s:GSt
  bo:Option Addr
  bc:Nat
  io:Option Addr
  ic:Nat
structure AdM where
  xs:List GLine
  next:Int
  j:Nat
  bo:Option Addr
  bc:Nat
set_option maxRecDepth 100000 in
set_option maxHeartbeats 1000000 in
theorem Add_c (σ:Snap) (xs:List GLine) (next:Int) (ao:Option Addr) (cap:Nat) (H:SlAt σ ao xs.length cap 3 (lnRows xs)) (hx:∀ x∈xs,LnOk σ x) (ps:List SRow) (po:Option Addr) (pc:Nat) (P:SlAt σ po ps.length pc 1 (srRows ps)) (hp:∀ p∈ps,SrOk σ p)
    (m:Nat) (hfit:GFit m ⟨xs,next,[]⟩) (hm:m+ps.length<=1000000) :
    PureS Tryz.prog 106 [.agg [.v (.slice ao xs.length cap),.v (.int .i64 next)],.a (.v (.slice po ps.length pc))] σ (fun v σ'=>∃ bo bc io ic,v=.tuple #[.agg #[.slice bo (addAll ⟨xs,next,[]⟩ ps).xs.length bc,.int .i64 (addAll ⟨xs,next,[]⟩ ps).next],.slice io (addAll ⟨xs,next,[]⟩ ps).ids.length ic] /\
      SlAt σ' bo (addAll ⟨xs,next,[]⟩ ps).xs.length bc 3 (lnRows (addAll ⟨xs,next,[]⟩ ps).xs)/\SlAt σ' io (addAll ⟨xs,next,[]⟩ ps).ids.length ic 1 (idRows (addAll ⟨xs,next,[]⟩ ps).ids)):=by
  have hxl:=hfit.xs
  dsimp only at hxl
  refine enter_s Tryz.func106 rfl rfl (by (repeat' (first | exact trivial | refine AllLt.of ?_ | constructor))) fun w=>?_
  (repeat (first | refine cj_seq ?_ | refine cjr TT rfl ?_ | refine oj_then ?_))
  refine oj_callF [] (A0:=[]) (Ar:=[]) rfl rfl rfl rfl rfl rfl rfl Tryz.call170 (by (repeat' (first | exact trivial | constructor))) (CloneLn_c σ xs (by omega) ao cap H) fun v σ1 A1 hle ⟨bo0,bc0,hv,hcap,hA⟩=>⟨.a (.v (.slice bo0 xs.length bc0)),trivial,hv.symm,?_⟩
  subst hA
  have hx:=fun x h=>(hx x h).mono hle
  have hp:=fun p h=>(hp p h).mono hle
  have P:=P.mono hle
  refine oj_run TT rfl ?_
  (repeat (first | refine cj_seq ?_ | refine cjr TT rfl ?_ | refine oj_then ?_ | refine cj_block ?_))
  refine cj_nilarr 3 1 ?_
  refine cj_cutB (fun (s:AdS)=>σ1) (fun s=>[(2,.a (.p 0 0)),(4,.a (.p 1 0)),(6,.a (.v (.slice s.io s.s.ids.length s.ic)))]) (fun s=>[(0,.loc 57,[.v (.slice s.bo s.s.xs.length s.bc),.v (.int .i64 s.s.next)]),(1,.loc 57,[.v (.slice none 0 0),.v (.int .i64 0)])])
    (fun s=>[lnE s.bo s.bc s.s.xs,idE s.io s.ic s.s.ids]) 2 (fun s=>s.s=addAll ⟨xs,next,[]⟩ ps/\s.s.xs.length<=s.bc/\s.s.ids.length<=s.ic) ?_ (fun s hs=>?_)
  rotate_left
  · obtain ⟨h1,h2,h3⟩:=hs
    obtain ⟨s,bo,bc,io,ic⟩:=s
    dsimp only at h1 h2 h3 ⊢
    subst h1
    (repeat (first | refine cj_seq ?_ | refine cjr TT rfl ?_ | refine oj_then ?_ | refine cj_ret ?_))
    refine nj_seal 0 rfl rfl fun σ2 hle2 hS1=>?_
    refine nj_seal 0 rfl rfl fun σ3 hle3 hS2=>?_
    refine nj_ret TT rfl fun β w' _ _=>?_
    exact ⟨bo,bc,io,ic,rfl,(ln_sealed hS1 h2).mono hle3,id_sealed hS2 h3⟩
  refine cj_loop2 (fun _ (_:AdS)=>σ1) (fun (k:Nat) s=>[(2,.a (.p 0 0)),(4,.a (.p 1 0)),(6,.a (.v (.slice s.io s.s.ids.length s.ic))),(14,.a (.v (.slice po ps.length pc))),(15,.a (.v (.int .i64 ps.length))),(16,.a (.v (.int .i64 k)))])
    (fun _ s=>[(0,.loc 57,[.v (.slice s.bo s.s.xs.length s.bc),.v (.int .i64 s.s.next)]),(1,.loc 57,[.v (.slice none 0 0),.v (.int .i64 0)])]) (fun _ s=>[lnE s.bo s.bc s.s.xs,idE s.io s.ic s.s.ids]) 2
    (fun k s=>k<=ps.length/\s.s=addAll ⟨xs,next,[]⟩ (ps.take k)/\s.s.xs.length<=s.bc/\s.s.ids.length<=s.ic) (fun k _=>ps.length - k) 0 ⟨⟨xs,next,[]⟩,bo0,bc0,none,0⟩ ⟨Nat.zero_le _,rfl,hcap,Nat.le_refl _⟩ rfl (by (repeat first | exact trivial | refine ⟨rfl,?_⟩)) (by (repeat first | exact trivial | refine ⟨rfl,?_⟩)) rfl (by (repeat' (first | exact trivial | exact Nat.le_of_ble_eq_true rfl | constructor))) (by (repeat' (first | exact trivial | exact Nat.le_of_ble_eq_true rfl | refine AllLt.of ?_ | constructor))) fun k ⟨s,bo,bc,io,ic⟩ ⟨hk,hs,hbc,hic⟩=>?_
  dsimp only at hs hbc hic ⊢
  (repeat (first | refine cj_seq ?_ | refine cjr TT rfl ?_ | refine oj_then ?_))
  refine cj_if rfl (fun h=>?_) (fun h=>?_)
  rotate_left
  · have hk0:k=ps.length:=by have:=of_decide_eq_false h;omega
    subst hk0
    rw [List.take_length] at hs
    (repeat (first | refine cj_exit ?_ | refine nj_then_exit ?_ | refine nj_block_out ?_))
    refine nj_again (⟨s,bo,bc,io,ic⟩:AdS) ⟨hs,hbc,hic⟩ Nat.zero_lt_one rfl (by (repeat first | exact trivial | refine ⟨rfl,?_⟩)) (by (repeat first | exact trivial | refine ⟨rfl,?_⟩)) rfl (by (repeat' (first | exact trivial | exact Nat.le_of_ble_eq_true rfl | constructor))) (by (repeat' (first | exact trivial | exact Nat.le_of_ble_eq_true rfl | refine AllLt.of ?_ | constructor)))
  have hkl:k<ps.length:=by have:=of_decide_eq_true h;omega
  have hrow:=srRows_get (List.getElem?_eq_getElem hkl)
  have hpo:=hp ps[k] (List.getElem_mem hkl)
  have hnext:addAll ⟨xs,next,[]⟩ (ps.take (k+1))=addOne s ps[k]:=by
    rw [List.take_succ_eq_append_getElem hkl,hs]
    unfold addAll
    rw [List.foldl_append]
    rfl
  have hF:GFit 999999 s:=by
    have:=addAll_fit (ps.take k) hfit
    rw [<-hs,List.length_take] at this
    exact this.mono (by omega)
  have hF1:=hF.xs
  have hF2:=hF.ids
  have hF3:=hF.next
  have hxs:∀ x∈s.xs,LnOk σ1 x:=by
    have:=addAll_ok (σ:=σ1) (ps.take k) (s:=⟨xs,next,[]⟩) hx fun p h=>hp p (List.mem_of_mem_take h)
    rw [<-hs] at this
    exact this
  clear hs
  generalize ps[k]=p at *
  (repeat (first | refine cj_seq ?_ | refine cjr TT rfl ?_ | refine cj_skip ?_ | refine cj_block ?_ | refine nj_then ?_))
  refine oj_idx TT rfl rfl rfl rfl rfl rfl rfl rfl rfl P (by omega) hrow (oj_run TT rfl ?_)
  (repeat (first | refine cj_seq ?_ | refine cjr TT rfl ?_ | refine oj_then ?_))
  refine oj_peekP rfl rfl rfl rfl rfl Tryz.call116 (by (repeat' (first | exact trivial | refine AllLt.of ?_ | constructor))) (fun σ' h1 h2=>line_c σ' s.xs (by omega) bo bc s.next (ln_sealed (h2 0 _ rfl) hbc) (fun x h=>(hxs x h).mono h1) p.ss p.ao p.cap (hpo.mono h1).2) fun v hv=>⟨.a (.v (.int .i64 (lineG s.xs p.ss))),trivial,hv.symm,?_⟩
  refine oj_run TT rfl ?_
  (repeat (first | refine cj_seq ?_ | refine cjr TT rfl ?_ | refine oj_then ?_))
  refine cj_cutN (fun (_:AdM)=>σ1) (fun q=>[(2,.a (.p 0 0)),(4,.a (.p 1 0)),(6,.a (.v (.slice io s.ids.length ic))),(9,.a (.v (.int .i64 q.j))),(14,.a (.v (.slice po ps.length pc))),(15,.a (.v (.int .i64 ps.length))),(16,.a (.v (.int .i64 k)))])
    (fun q=>[(0,.loc 57,[.v (.slice q.bo q.xs.length q.bc),.v (.int .i64 q.next)]),(1,.loc 57,[.v (.slice none 0 0),.v (.int .i64 0)])]) (fun q=>[lnE q.bo q.bc q.xs,idE io ic s.ids]) 2
    (fun q=>q.xs.length<=q.bc/\∃ x,q.xs[q.j]?=some x/\(-1000000<=x.cnt/\x.cnt<=1000000)/\(⟨q.xs.set q.j x.more,q.next,s.ids++[x.id]⟩:GSt)=addOne s p) ?_ (fun q hq=>?_)
  · have hlb:=lineG_bd s.xs p.ss
    refine cj_if rfl (fun h=>?_) (fun h=>?_)
    · have h:=of_decide_eq_true h
      have e:(s.xs++[newLn s.next p]).length=s.xs.length+1:=by simp
      have hadd:addOne s p=⟨(s.xs++[newLn s.next p]).set s.xs.length (newLn s.next p).more,s.next+1,s.ids++[s.next]⟩:=by
        unfold addOne
        rw [if_pos h,List.set_append_right _ _ (Nat.le_refl _),Nat.sub_self]
        rfl
      (repeat (first | refine cj_seq ?_ | refine cjr TT rfl ?_ | refine oj_then ?_))
      refine oj_append_lit TT 0 rfl rfl rfl rfl rfl rfl rfl rfl rfl rfl rfl rfl rfl rfl rfl rfl rfl rfl (by (repeat' (first | exact trivial | refine AllLt.of ?_ | constructor))) rfl (by omega) (by show (s.xs.length+1)*40<=_;omega) fun ao' cap' hcap'=>oj_run TT rfl ?_
      (repeat (first | refine cjr TT rfl ?_ | refine oj_then ?_ | refine oj_nil ?_ | (refine oj_add rfl rfl rfl rfl rfl rfl (by omega) ?_;refine oj_run TT rfl ?_)))
      refine nj_again (⟨s.xs++[newLn s.next p],s.next+1,s.xs.length,ao',cap'⟩:AdM) ⟨by dsimp only;omega,newLn s.next p,by simp,by show (-1000000:Int)<=0/\(0:Int)<=1000000;omega,hadd.symm⟩ Nat.zero_lt_one rfl (by (repeat first | exact trivial | refine ⟨rfl,?_⟩)) ?_ ?_ (by (repeat' (first | exact trivial | exact Nat.le_of_ble_eq_true rfl | constructor))) (by (repeat' (first | exact trivial | exact Nat.le_of_ble_eq_true rfl | refine AllLt.of ?_ | constructor)))
      · dsimp only
        rw [e]
        (repeat first | exact trivial | refine ⟨rfl,?_⟩)
      · show [_,_]=[_,_]
        dsimp only
        unfold lnE
        rw [lnXs_append,e]
        rfl
    · have h:=of_decide_eq_false h
      obtain ⟨j,hj⟩:∃ j:Nat,lineG s.xs p.ss=j:=⟨(lineG s.xs p.ss).toNat,by omega⟩
      have hjl:j<s.xs.length:=by omega
      have hadd:addOne s p=⟨s.xs.set j s.xs[j].more,s.next,s.ids++[s.xs[j].id]⟩:=by
        unfold addOne
        rw [if_neg h,hj,Int.toNat_natCast,List.getElem?_eq_getElem hjl]
      rw [hj]
      have hc:=hF.cnt _ (List.getElem_mem hjl)
      (repeat refine cj_skip ?_)
      refine nj_again (⟨s.xs,s.next,j,bo,bc⟩:AdM) ⟨hbc,s.xs[j],List.getElem?_eq_getElem hjl,by omega,hadd.symm⟩ Nat.zero_lt_one rfl (by (repeat first | exact trivial | refine ⟨rfl,?_⟩)) (by (repeat first | exact trivial | refine ⟨rfl,?_⟩)) rfl (by (repeat' (first | exact trivial | exact Nat.le_of_ble_eq_true rfl | constructor))) (by (repeat' (first | exact trivial | exact Nat.le_of_ble_eq_true rfl | refine AllLt.of ?_ | constructor)))
  obtain ⟨mxs,mnext,j,mbo,mbc⟩:=q
  obtain ⟨hmc,x,hxj,hxc,hadd⟩:=hq
  dsimp only at hmc hxj hxc hadd ⊢
  have hjl:=(List.getElem?_eq_some_iff.1 hxj).1
  refine cj_arrAt 0 (E:=lnE mbo mbc mxs) rfl (show 0<mxs.length by omega) fun gb hgb=>?_
  have hgb:mbo=some ⟨gb,0,none⟩:=hgb
  subst hgb
  have had:∀ q:Nat,some (SV.a (AT.v (.pointer (some (Addr.add (Addr.add ⟨gb,0,none⟩ ((j:Int).toNat*3)) q)))))=some (SV.a (AT.v (.pointer (some ⟨gb,j*3+q,none⟩)))):=fun q=>by
    rw [Int.toNat_natCast,add0,Addr.add_lit]
  (repeat (first | refine cj_seq ?_ | refine cjr TT rfl ?_))
  refine oj_indexAddr TT rfl rfl rfl rfl rfl rfl rfl rfl rfl ⟨by omega,by omega⟩ (oj_run TT rfl ?_)
  refine oj_ldA 0 (off:=j*3+2) (c:=.v (.int .i64 x.cnt)) TT rfl rfl rfl rfl rfl (had 2) rfl rfl rfl rfl (lnXs_get hxj rfl) trivial (oj_run TT rfl ?_)
  refine oj_add rfl rfl rfl rfl rfl rfl (by omega) (oj_run TT rfl ?_)
  refine oj_indexAddr TT rfl rfl rfl rfl rfl rfl rfl rfl rfl ⟨by omega,by omega⟩ (oj_run TT rfl ?_)
  refine oj_stA 0 (off:=j*3+2) (A':=[lnE (some ⟨gb,0,none⟩) mbc (mxs.set j x.more),idE io ic s.ids]) TT rfl rfl rfl rfl (had 2) rfl rfl rfl rfl rfl (by show j*3+2<mxs.length*3;omega) trivial rfl ?_ (oj_run TT rfl ?_)
  · show [_,_]=[_,_]
    unfold lnE
    rw [<-lnXs_set (j:=2) (r':=x.more) (.v (.int .i64 (x.cnt+1))) hxj (by omega) rfl,List.length_set]
  have hxj':(mxs.set j x.more)[j]?=some x.more:=by rw [List.getElem?_set,if_pos rfl,if_pos hjl]
  (repeat (first | refine cjr TT rfl ?_ | refine oj_then ?_))
  refine oj_indexAddr TT rfl rfl rfl rfl rfl rfl rfl rfl rfl ⟨by omega,by omega⟩ (oj_run TT rfl ?_)
  refine oj_ldA 0 (off:=j*3+0) (c:=.v (.int .i64 x.id)) TT rfl rfl rfl rfl rfl (had 0) rfl rfl rfl rfl (lnXs_get (j:=0) hxj' rfl) trivial (oj_run TT rfl ?_)
  refine oj_append_lit TT 1 rfl rfl rfl rfl rfl rfl rfl rfl rfl rfl rfl rfl rfl rfl rfl rfl rfl rfl (by (repeat' (first | exact trivial | refine AllLt.of ?_ | constructor))) rfl (by omega) (by show (s.ids.length+1)*8<=_;omega) fun io' ic' hic'=>oj_run TT rfl ?_
  (repeat (first | refine cjr TT rfl ?_ | refine oj_nil ?_ | refine nj_then ?_ | refine nj_block ?_ | (refine oj_add rfl rfl rfl rfl rfl rfl (by omega) ?_;refine oj_run TT rfl ?_)))
  refine nj_again (k+1,(⟨⟨mxs.set j x.more,mnext,s.ids++[x.id]⟩,some ⟨gb,0,none⟩,mbc,io',ic'⟩:AdS)) ⟨hkl,by dsimp only;rw [hadd,hnext],by dsimp only;rw [List.length_set];exact hmc,by dsimp only;rw [List.length_append];exact hic'⟩ (by dsimp only;omega) rfl ?_ ?_ ?_ (by (repeat' (first | exact trivial | exact Nat.le_of_ble_eq_true rfl | constructor))) (by (repeat' (first | exact trivial | exact Nat.le_of_ble_eq_true rfl | refine AllLt.of ?_ | constructor)))
  · dsimp only
    rw [List.length_append]
    (repeat first | exact trivial | refine ⟨rfl,?_⟩)
  · dsimp only
    rw [List.length_set]
    (repeat first | exact trivial | refine ⟨rfl,?_⟩)
  · show [_,_]=[_,_]
    dsimp only
    unfold idE idXs
    rw [List.map_append,List.length_append]
    rfl
end Go.Sy
/- Plain laws on summaries that paths are counted in. No program in sight. -/
namespace Go.Sy
theorem findG_map {α β:Type} (q:β->Bool) (f:α->β):∀ (l:List α) (k:Nat),findG q (l.map f) k=findG (fun x=>q (f x)) l k
  | [],_=>rfl
  | x::l,k=>by simp only [List.map_cons,findG,findG_map q f l]
theorem findG_ge {α:Type} (q:α->Bool):∀ (l:List α) (k:Nat),findG q l k = -1\/(k:Int)<=findG q l k
  | [],_=>.inl rfl
  | x::l,k=>by
    simp only [findG]
    split
    · exact .inr (Int.le_refl _)
    · rcases findG_ge q l (k+1) with h | h
      · exact .inl h
      · exact .inr (by omega)
theorem findG_app {α:Type} (q:α->Bool):∀ (l m:List α) (k:Nat),findG q (l++m) k=if findG q l k<0 then findG q m (k+l.length) else findG q l k
  | [],m,k=>by simp [findG]
  | x::l,m,k=>by
    simp only [List.cons_append,findG,List.length_cons]
    split
    · rw [if_neg (by omega)]
    · rw [findG_app q l m (k+1),show k+1+l.length=k+(l.length+1) by omega]
theorem findG_some {α:Type} {q:α->Bool}:∀ {l:List α} {k:Nat} {j:Nat},findG q l k=(k+j:Nat)->∃ x,l[j]?=some x/\q x=true
  | x::l,k,j,h=>by
    simp only [findG] at h
    split at h
    · rename_i hx
      have:j=0:=by omega
      subst this
      exact ⟨x,rfl,hx⟩
    · have hb:=findG_ge q l (k+1)
      obtain ⟨j,rfl⟩:∃ i,j=i+1:=⟨j - 1,by omega⟩
      obtain ⟨y,h1,h2⟩:=findG_some (l:=l) (k:=k+1) (j:=j) (by rw [h];congr 1;omega)
      exact ⟨y,by simpa using h1,h2⟩
  | [],k,j,h=>by simp only [findG] at h;omega
theorem lineG_st (xs:List GLine) (s:List ByteArray):lineG xs s=findG (fun t=>decide (t=s)) (xs.map GLine.st) 0:=by
  rw [findG_map]
  rfl
theorem lineG_at {xs:List GLine} {s:List ByteArray} {j:Nat} (h:lineG xs s=j):∃ x,xs[j]?=some x/\x.st=s:=by
  obtain ⟨x,h1,h2⟩:=findG_some (k:=0) (j:=j) (by rw [Nat.zero_add];exact h)
  exact ⟨x,h1,of_decide_eq_true h2⟩
theorem addOne_new {s:GSt} {p:SRow} (h:lineG s.xs p.ss<0):addOne s p=⟨s.xs++[(newLn s.next p).more],s.next+1,s.ids++[s.next]⟩:=if_pos h
theorem addOne_old {s:GSt} {p:SRow} {j:Nat} {x:GLine} (h:lineG s.xs p.ss=j) (hx:s.xs[j]?=some x):addOne s p=⟨s.xs.set j x.more,s.next,s.ids++[x.id]⟩:=by
  unfold addOne
  rw [if_neg (by omega),h,Int.toNat_natCast,hx]
theorem map_st_set {xs:List GLine} {j:Nat} {x:GLine} (hx:xs[j]?=some x):(xs.set j x.more).map GLine.st=xs.map GLine.st:=by
  rw [List.map_set]
  apply List.ext_getElem?
  intro i
  rw [List.getElem?_set]
  split
  · rename_i h
    subst h
    have hlt:=(List.getElem?_eq_some_iff.1 hx).1
    rw [if_pos (by simpa using hlt),List.getElem?_map,hx]
    rfl
  · rfl
structure GInv (s:GSt):Prop where
  next:s.next=s.xs.length
  at_:∀ (j:Nat) x,s.xs[j]?=some x->x.id=j/\1<=x.cnt/\lineG s.xs x.st=j
theorem addOne_spec {s:GSt} (h:GInv s) (p:SRow):GInv (addOne s p)/\(∀ (j:Nat) x,s.xs[j]?=some x->∃ y,(addOne s p).xs[j]?=some y/\y.st=x.st/\y.id=x.id) /\
    ∃ (j:Nat) (y:GLine),(addOne s p).xs[j]?=some y/\y.st=p.ss/\(addOne s p).ids=s.ids++[y.id]:=by
  have hbd:=lineG_bd s.xs p.ss
  by_cases hn:lineG s.xs p.ss<0
  · rw [addOne_new hn]
    refine ⟨⟨by rw [h.next];simp,fun j x hx=>?_⟩,fun j x hx=>⟨x,?_,rfl,rfl⟩,s.xs.length,(newLn s.next p).more,by simp,rfl,rfl⟩
    · dsimp only at hx ⊢
      by_cases hj:j<s.xs.length
      · rw [List.getElem?_append_left hj] at hx
        obtain ⟨h1,h2,h3⟩:=h.at_ j x hx
        refine ⟨h1,h2,?_⟩
        unfold lineG at h3 ⊢
        rw [findG_app,if_neg (by omega),h3]
      · rw [List.getElem?_append_right (by omega)] at hx
        have hj0:j - s.xs.length=0:=by
          have:=(List.getElem?_eq_some_iff.1 hx).1
          simpa using this
        rw [hj0] at hx
        simp only [List.getElem?_cons_zero,Option.some.injEq] at hx
        subst hx
        have hjl:j=s.xs.length:=by omega
        subst hjl
        refine ⟨h.next,Int.le_refl _,?_⟩
        unfold lineG at hn ⊢
        rw [findG_app]
        show (if findG (fun x=>decide (x.st=p.ss)) s.xs 0<0 then findG (fun x=>decide (x.st=p.ss)) [(newLn s.next p).more] (0+s.xs.length) else _)=_
        rw [if_pos hn]
        simp only [findG]
        rw [if_pos (show decide ((newLn s.next p).more.st=p.ss)=true from decide_eq_true rfl),Nat.zero_add]
    · dsimp only
      rw [List.getElem?_append_left (List.getElem?_eq_some_iff.1 hx).1]
      exact hx
  · obtain ⟨j,hj⟩:∃ j:Nat,lineG s.xs p.ss=j:=⟨(lineG s.xs p.ss).toNat,by omega⟩
    obtain ⟨x,hx,hst⟩:=lineG_at hj
    have hlt:=(List.getElem?_eq_some_iff.1 hx).1
    rw [addOne_old hj hx]
    have hl:∀ t,lineG (s.xs.set j x.more) t=lineG s.xs t:=fun t=>by rw [lineG_st,lineG_st,map_st_set hx]
    have hself:(s.xs.set j x.more)[j]?=some x.more:=by rw [List.getElem?_set,if_pos rfl,if_pos hlt]
    refine ⟨⟨by dsimp only;rw [List.length_set];exact h.next,fun i y hy=>?_⟩,fun i y hy=>?_,j,x.more,hself,hst,rfl⟩
    · dsimp only at hy ⊢
      rw [hl]
      by_cases hij:j=i
      · subst hij
        rw [hself] at hy
        obtain rfl:=Option.some.inj hy
        obtain ⟨h1,h2,h3⟩:=h.at_ j x hx
        exact ⟨h1,by show 1<=x.cnt+1;omega,h3⟩
      · rw [List.getElem?_set,if_neg hij] at hy
        exact h.at_ i y hy
    · dsimp only
      by_cases hij:j=i
      · subst hij
        rw [hx] at hy
        obtain rfl:=Option.some.inj hy
        exact ⟨x.more,hself,rfl,rfl⟩
      · exact ⟨y,by rw [List.getElem?_set,if_neg hij];exact hy,rfl,rfl⟩
theorem addAll_inv:∀ (ps:List SRow) {s:GSt},GInv s->GInv (addAll s ps)/\(∀ (j:Nat) x,s.xs[j]?=some x->∃ y,(addAll s ps).xs[j]?=some y/\y.st=x.st/\y.id=x.id) /\
    ∃ t,(addAll s ps).ids=s.ids++t/\t.length=ps.length
  | [],s,h=>⟨h,fun j x hx=>⟨x,hx,rfl,rfl⟩,[],by rw [List.append_nil];rfl,rfl⟩
  | p::ps,s,h=>by
    obtain ⟨h1,h2,j0,y0,h3,h4,h5⟩:=addOne_spec h p
    obtain ⟨g1,g2,t,g3,g4⟩:=addAll_inv ps h1
    refine ⟨g1,fun j x hx=>?_,y0.id::t,?_,by simp [g4]⟩
    · obtain ⟨y,a1,a2,a3⟩:=h2 j x hx
      obtain ⟨z,b1,b2,b3⟩:=g2 j y a1
      exact ⟨z,b1,b2.trans a2,b3.trans a3⟩
    · show (addAll (addOne s p) ps).ids=_
      rw [g3,h5,List.append_assoc]
      rfl
end Go.Sy
namespace Go.Sy
open Go.Proofs
def strXs (l:List ByteArray):List Value:=l.map fun s=>Value.string s
def stE9 (bo:Option Addr) (bc:Nat) (l:List ByteArray):AE:=⟨bo,l.length,bc,9,1,strXs l⟩
theorem strRows_flat:∀ o:List ByteArray,strXs o=(strRows o).flatten.map AT.val
  | []=>rfl
  | k::o=>by
    show Value.string k::strXs o=_
    rw [strRows_flat o]
    rfl
theorem strRows_all (a:List ByteArray):∀ r∈strRows a,r.length=1/\(∀ c∈r,c.lt 0)/\r.all AT.one=true:=by
  intro r hr
  obtain ⟨x,_,rfl⟩:=List.mem_map.1 hr
  exact ⟨rfl,fun c hc=>(by cases hc with | head=>trivial | tail _ h=>cases h),rfl⟩
theorem st9_sealed {σ:Snap} {oo:Option Addr} {oc:Nat} {o:List ByteArray} (h:ArrSealed σ (stE9 oo oc o)) (hc:o.length<=oc):SlAt σ oo o.length oc 1 (strRows o) :=
  h.sl (E:=stE9 oo oc o) (strRows_flat o) (fun r hr=>⟨(strRows_all o r hr).1,(strRows_all o r hr).2.1⟩) (by simp [strRows]) rfl hc
def srXs (l:List SRow):List Value:=(srRows l).flatten.map AT.val
def srE (bo:Option Addr) (bc:Nat) (l:List SRow):AE:=⟨bo,l.length,bc,209,1,srXs l⟩
theorem srXs_append (a b:List SRow):srXs (a++b)=srXs a++srXs b:=by simp [srXs,srRows]
theorem srRows_all (a:List SRow):∀ r∈srRows a,r.length=1/\(∀ c∈r,c.lt 0)/\r.all AT.one=true:=by
  intro r hr
  obtain ⟨x,_,rfl⟩:=List.mem_map.1 hr
  exact ⟨rfl,fun c hc=>(by cases hc with | head=>trivial | tail _ h=>cases h),rfl⟩
theorem sr_sealed {σ:Snap} {oo:Option Addr} {oc:Nat} {o:List SRow} (h:ArrSealed σ (srE oo oc o)) (hc:o.length<=oc):SlAt σ oo o.length oc 1 (srRows o) :=
  h.sl (E:=srE oo oc o) rfl (fun r hr=>⟨(srRows_all o r hr).1,(srRows_all o r hr).2.1⟩) (by simp [srRows]) rfl hc
set_option maxRecDepth 100000 in
set_option maxHeartbeats 1000000 in
theorem CloneSt_c (σ:Snap) (xs:List ByteArray) (hl:xs.length<=1000000) (ao:Option Addr) (cap:Nat) (H:SlAt σ ao xs.length cap 1 (strRows xs)) :
    FnS Tryz.prog 171 [.a (.v (.slice ao xs.length cap))] σ [] (fun v _ A'=>∃ bo bc,v=.slice bo xs.length bc/\xs.length<=bc/\A'=[stE9 bo bc xs]):=by
  refine enter_f Tryz.func171 rfl rfl (by (repeat' (first | exact trivial | constructor))) fun w=>?_
  (repeat (first | refine cj_seq ?_ | refine cjr TT rfl ?_ | refine oj_then ?_ | (refine oj_slnil TT rfl rfl rfl rfl rfl rfl rfl rfl ?_;refine oj_run TT rfl ?_)))
  refine cj_if rfl (fun h=>?_) (fun h=>?_)
  · have h0:ao=none:=by simpa using h
    have hn0:xs.length=0:=by
      rcases H.at_ with h1 | ⟨ad,h1,_⟩
      · exact h1
      · rw [h0] at h1;cases h1
    have hr:xs=[]:=List.eq_nil_of_length_eq_zero hn0
    subst hr
    (repeat (first | refine cj_seq ?_ | refine cjr TT rfl ?_ | refine oj_then ?_ | refine cj_ret ?_ | refine nj_then_ret ?_))
    refine nj_nilarr 9 1 ?_
    refine nj_fret TT rfl fun β w' _ _=>?_
    exact ⟨none,0,rfl,Nat.le_refl _,rfl⟩
  (repeat (first | refine cj_seq ?_ | refine cjr TT rfl ?_ | refine cj_skip ?_ | refine nj_then ?_))
  refine oj_own 0 0 1 rfl (by (repeat' (first | exact trivial | refine AllLt.of ?_))) rfl (by decide) fun gb=>?_
  refine oj_append_sl TT 0 rfl rfl rfl rfl rfl rfl rfl H rfl rfl rfl rfl rfl rfl rfl rfl rfl (fun r hr=>(strRows_all xs r hr).2.2) (by omega) (by show (0+xs.length)*16<=_;omega) fun ao' cap' hcap'=>oj_run TT rfl ?_
  (repeat (first | refine oj_then ?_ | refine cj_ret ?_))
  refine nj_fret TT rfl fun β w' _ _=>?_
  refine ⟨ao',cap',by show Value.slice ao' (0+xs.length) cap'=_;rw [Nat.zero_add],by omega,?_⟩
  show [_]=[_]
  rw [Nat.zero_add]
  unfold stE9
  rw [strRows_flat]
  rfl
def dotS:ByteArray:=⟨#[46]⟩
def elemS:ByteArray:=⟨#[91,93]⟩
def pathStep (way:List ByteArray) (r:GRec):List ByteArray :=
  way.take (r.lv - 1).toNat++(if r.nm then [dotS++r.name] else if 0<r.lv then [elemS] else [])
def pathsF:List ByteArray->List GRec->List (List ByteArray)
  | _,[]=>[]
  | way,r::l=>pathStep way r::pathsF (pathStep way r) l
def pathsG (L:List GRec):List (List ByteArray):=pathsF [] L
theorem levelsOk.mono:∀ {l:List GRec} {m n:Nat},levelsOk m l->m<=n->levelsOk n l
  | [],_,_,_,_=>trivial
  | _::_,_,_,⟨h1,h2,h3⟩,hmn=>⟨h1,by omega,h3⟩
structure PaW where
  way:List ByteArray
  wo:Option Addr
  wc:Nat
structure PaS where
  way:List ByteArray
  wo:Option Addr
  wc:Nat
  out:List SRow
  oo:Option Addr
  oc:Nat
set_option maxRecDepth 100000 in
set_option maxHeartbeats 1000000 in
theorem Paths_c (σ:Snap) (L:List GRec) (R:RecsOk L) (hL:L.length<=100000) (hs:soundG L=true) (hlev:levelsOk 0 L) (ao:Option Addr) (cap:Nat) (H:SlAt σ ao L.length cap 11 (recRows L)) :
    PureS Tryz.prog 107 [.a (.v (.slice ao L.length cap))] σ (fun v σ'=>∃ ps oo oc,v=.slice oo ps.length oc/\SlAt σ' oo ps.length oc 1 (srRows ps)/\(∀ p∈ps,SrOk σ' p)/\ps.map SRow.ss=pathsG L):=by
  refine enter_s Tryz.func107 rfl rfl (by (repeat' (first | exact trivial | constructor))) fun w=>?_
  (repeat (first | refine cj_seq ?_ | refine cjr TT rfl ?_ | refine oj_then ?_))
  refine oj_callP rfl rfl rfl rfl rfl Tryz.call105 (by (repeat' (first | exact trivial | constructor))) (Sound_c σ L R.len R.fit R.bw ao cap H) fun v hv=>⟨.a .tt,trivial,by rw [hv,hs];rfl,?_⟩
  refine oj_run TT rfl ?_
  (repeat (first | refine cj_seq ?_ | refine cjr TT rfl ?_ | refine oj_then ?_ | refine cj_if_f rfl ?_ | refine cj_skip ?_ | refine cj_block ?_ | refine nj_then ?_))
  refine cj_nilarr 9 1 ?_
  refine cj_nilarr 209 1 ?_
  refine cj_cutB (fun (p:Snap×PaS)=>p.1) (fun p=>[(3,.a (.v (.slice p.2.oo p.2.out.length p.2.oc)))]) (fun _=>[]) (fun p=>[stE9 p.2.wo p.2.wc p.2.way,srE p.2.oo p.2.oc p.2.out]) 0
    (fun p=>p.2.out.map SRow.ss=pathsG L/\(∀ q∈p.2.out,SrOk p.1 q)/\p.2.out.length<=p.2.oc) ?_ (fun p hp=>?_)
  rotate_left
  · obtain ⟨s,way,wo,wc,out,oo,oc⟩:=p
    obtain ⟨h1,h2,h3⟩:=hp
    dsimp only at h1 h2 h3 ⊢
    (repeat (first | refine cj_seq ?_ | refine cjr TT rfl ?_ | refine oj_then ?_ | refine cj_ret ?_))
    refine nj_seal 1 rfl rfl fun σ2 hle2 hS=>?_
    refine nj_ret TT rfl fun β w' _ _=>?_
    exact ⟨out,oo,oc,rfl,sr_sealed hS h3,fun q hq=>(h2 q hq).mono hle2,h1⟩
  refine cj_loop2 (fun (s:Snap) (_:Nat×PaS)=>s) (fun _ t=>[(3,.a (.v (.slice t.2.oo t.2.out.length t.2.oc))),(4,.a (.v (.slice t.2.wo t.2.way.length t.2.wc))),(10,.a (.v (.slice ao L.length cap))),(11,.a (.v (.int .i64 L.length))),(12,.a (.v (.int .i64 (t.1:Nat))))])
    (fun _ _=>[]) (fun _ t=>[stE9 t.2.wo t.2.wc t.2.way,srE t.2.oo t.2.oc t.2.out]) 0
    (fun s t=>σ.le s/\t.1<=L.length/\t.2.out.map SRow.ss++pathsF t.2.way (L.drop t.1)=pathsG L/\levelsOk (t.2.way.length+1) (L.drop t.1)/\t.2.way.length<=t.1/\t.2.way.length<=t.2.wc/\t.2.out.length<=t.2.oc/\t.2.out.length<=t.1/\∀ q∈t.2.out,SrOk s q)
    (fun _ t=>L.length - t.1) σ (0,⟨[],none,0,[],none,0⟩) ⟨Snap.le_refl _,Nat.zero_le _,rfl,hlev.mono (Nat.zero_le _),Nat.le_refl _,Nat.le_refl _,Nat.le_refl _,Nat.le_refl _,fun _ h=>(by cases h)⟩ rfl (by (repeat first | exact trivial | refine ⟨rfl,?_⟩)) (by (repeat first | exact trivial | refine ⟨rfl,?_⟩)) rfl (by (repeat' (first | exact trivial | constructor))) (by (repeat' exact trivial)) fun s ⟨k,way,wo,wc,out,oo,oc⟩ ⟨hle,hk,hp,hlv,hwk,hwc,hoc,hok,hout⟩=>?_
  dsimp only at hk hp hlv hwk hwc hoc hok hout ⊢
  have H:=H.mono hle
  (repeat (first | refine cj_seq ?_ | refine cjr TT rfl ?_ | refine oj_then ?_))
  refine cj_if rfl (fun h=>?_) (fun h=>?_)
  rotate_left
  · have hk0:k=L.length:=by have:=of_decide_eq_false h;omega
    subst hk0
    rw [List.drop_length,pathsF,List.append_nil] at hp
    (repeat (first | refine cj_exit ?_ | refine nj_then_exit ?_ | refine nj_block_out ?_))
    refine nj_again (s,(⟨way,wo,wc,out,oo,oc⟩:PaS)) ⟨hp,hout,hoc⟩ Nat.zero_lt_one rfl (by (repeat first | exact trivial | refine ⟨rfl,?_⟩)) (by (repeat first | exact trivial | refine ⟨rfl,?_⟩)) rfl (by (repeat' (first | exact trivial | constructor))) (by (repeat' exact trivial))
  have hkl:k<L.length:=by have:=of_decide_eq_true h;omega
  have hrow:=recRows_get (List.getElem?_eq_getElem hkl)
  have hfit:=R.fit L[k] (List.getElem_mem hkl)
  rw [List.drop_eq_getElem_cons hkl] at hp hlv
  rw [pathsF] at hp
  generalize L[k]=x at *
  obtain ⟨hlv1,hlv2,hlv3⟩:=hlv
  obtain ⟨j,hj⟩:∃ j:Nat,(x.lv - 1).toNat=j:=⟨_,rfl⟩
  have hjw:j<=way.length:=by omega
  have hps:pathStep way x=way.take j++(if x.nm then [dotS++x.name] else if 0<x.lv then [elemS] else []):=by unfold pathStep;rw [hj]
  rw [hps] at hp
  (repeat (first | refine cj_seq ?_ | refine cjr TT rfl ?_ | refine cj_skip ?_ | refine cj_block ?_ | refine nj_then ?_))
  refine oj_idx TT rfl rfl rfl rfl rfl rfl rfl rfl rfl H (by omega) hrow (oj_run TT rfl ?_)
  (repeat (first | refine cj_seq ?_ | refine cjr TT rfl ?_ | refine oj_then ?_ | (refine oj_minus rfl rfl rfl rfl rfl rfl (by omega) ?_;refine oj_run TT rfl ?_)))
  have hmx:(if x.lv - 1 > 0 then x.lv - 1 else 0)=(j:Int):=by split<;>omega
  refine oj_mm rfl rfl rfl rfl rfl rfl rfl (oj_run TT rfl ?_)
  refine oj_slice_to TT j rfl rfl rfl rfl rfl rfl rfl rfl rfl hmx (by omega) hwc (oj_run TT rfl ?_)
  have hl1:(way.take j).length=j:=by rw [List.length_take];omega
  have hcut:[stE9 wo wc way,srE oo oc out].set 0 (AE.cut (stE9 wo wc way) j)=[stE9 wo wc (way.take j),srE oo oc out]:=by
    show [_,_]=[_,_]
    unfold stE9
    rw [hl1]
    simp [AE.cut,strXs,List.map_take]
  refine oj_cutArr 0 j rfl rfl hjw hcut ?_
  have hwcj:j<=wc:=by omega
  have hjk:j<=k:=by omega
  generalize way.take j=w1 at *
  subst hl1
  have hname:=hfit.2.2
  simp only [mostLen] at hname
  refine oj_then ?_
  refine cj_cut (fun (_:PaW)=>s) (fun q=>[(3,.a (.v (.slice oo out.length oc))),(4,.a (.v (.slice q.wo q.way.length q.wc))),(10,.a (.v (.slice ao L.length cap))),(11,.a (.v (.int .i64 L.length))),(12,.a (.v (.int .i64 k)))]) (fun _=>[])
    (fun q=>[stE9 q.wo q.wc q.way,srE oo oc out]) 0 (fun q=>q.way=w1++(if x.nm then [dotS++x.name] else if 0<x.lv then [elemS] else [])/\q.way.length<=q.wc) ?_ (fun q hq=>?_)
  · (repeat (first | refine cj_seq ?_ | refine cjr TT rfl ?_ | refine oj_then ?_ | refine cj_block ?_))
    refine cj_if rfl (fun h=>?_) (fun h=>?_)
    · (repeat refine cjr TT rfl ?_)
      refine oj_strcat rfl rfl rfl rfl rfl rfl (by show 1+x.name.size<=_;omega) (oj_run TT rfl ?_)
      refine oj_append_lit TT 0 rfl rfl rfl rfl rfl rfl rfl rfl rfl rfl rfl rfl rfl rfl rfl rfl rfl rfl (by (repeat' (first | exact trivial | refine AllLt.of ?_ | constructor))) rfl (by omega) (by show (w1.length+1)*16<=_;omega) fun wo' wc' hwc'=>oj_run TT rfl ?_
      (repeat (first | refine oj_nil ?_ | refine nj_block ?_))
      refine nj_again (⟨w1++[dotS++x.name],wo',wc'⟩:PaW) ⟨by dsimp only;rw [if_pos h],by dsimp only;rw [List.length_append];exact hwc'⟩ Nat.zero_lt_one rfl ?_ (by (repeat first | exact trivial | refine ⟨rfl,?_⟩)) ?_ (by (repeat' (first | exact trivial | constructor))) (by (repeat' exact trivial))
      · dsimp only
        rw [List.length_append]
        (repeat first | exact trivial | refine ⟨rfl,?_⟩)
      · show [_,_]=[_,_]
        dsimp only
        unfold stE9 strXs
        rw [List.map_append,List.length_append]
        rfl
    · (repeat (first | refine cj_seq ?_ | refine cjr TT rfl ?_ | refine oj_then ?_))
      refine cj_if rfl (fun h2=>?_) (fun h2=>?_)
      · have h2:=of_decide_eq_true h2
        (repeat refine cjr TT rfl ?_)
        refine oj_append_lit TT 0 rfl rfl rfl rfl rfl rfl rfl rfl rfl rfl rfl rfl rfl rfl rfl rfl rfl rfl (by (repeat' (first | exact trivial | refine AllLt.of ?_ | constructor))) rfl (by omega) (by show (w1.length+1)*16<=_;omega) fun wo' wc' hwc'=>oj_run TT rfl ?_
        (repeat (first | refine oj_nil ?_ | refine nj_block ?_))
        refine nj_again (⟨w1++[elemS],wo',wc'⟩:PaW) ⟨by dsimp only;rw [h,if_neg (by simp),if_pos (by omega)],by dsimp only;rw [List.length_append];exact hwc'⟩ Nat.zero_lt_one rfl ?_ (by (repeat first | exact trivial | refine ⟨rfl,?_⟩)) ?_ (by (repeat' (first | exact trivial | constructor))) (by (repeat' exact trivial))
        · dsimp only
          rw [List.length_append]
          (repeat first | exact trivial | refine ⟨rfl,?_⟩)
        · show [_,_]=[_,_]
          dsimp only
          unfold stE9 strXs
          rw [List.map_append,List.length_append]
          rfl
      · have h2:=of_decide_eq_false h2
        (repeat (first | refine cj_skip ?_ | refine nj_block ?_))
        refine nj_again (⟨w1,wo,wc⟩:PaW) ⟨by dsimp only;rw [h,if_neg (by simp),if_neg (by omega),List.append_nil],hwcj⟩ Nat.zero_lt_one rfl (by (repeat first | exact trivial | refine ⟨rfl,?_⟩)) (by (repeat first | exact trivial | refine ⟨rfl,?_⟩)) rfl (by (repeat' (first | exact trivial | constructor))) (by (repeat' exact trivial))
  obtain ⟨way',wo',wc'⟩:=q
  obtain ⟨hq,hqc⟩:=hq
  dsimp only at hq hqc ⊢
  rw [<-hq] at hp
  have hwl:x.lv.toNat<=way'.length/\way'.length<=k+1:=by
    rw [hq,List.length_append]
    split
    · rw [List.length_singleton];omega
    · split
      · rw [List.length_singleton];omega
      · rw [List.length_nil];omega
  clear hq hps
  (repeat refine cjr TT rfl ?_)
  refine oj_peekF (Φ:=fun v A'=>∃ bo bc,v=.slice bo way'.length bc/\way'.length<=bc/\A'=[stE9 bo bc way']) rfl rfl rfl rfl rfl Tryz.call171 (by (repeat' (first | exact trivial | constructor))) (fun σ' h1 h2=>CloneSt_c σ' way' (by omega) wo' wc' (st9_sealed (h2 0 _ rfl) hqc)) fun v A' ⟨bo,bc,hv,hbc,hA⟩=>⟨.a (.v (.slice bo way'.length bc)),trivial,hv.symm,?_⟩
  subst hA
  refine oj_seal 2 rfl rfl rfl fun σ2 hle2 hS=>?_
  have hnew:SrOk σ2 ⟨bo,bc,way'⟩:=⟨by dsimp only;omega,st9_sealed hS hbc⟩
  refine oj_run TT rfl ?_
  refine oj_append_lit TT 1 rfl rfl rfl rfl rfl rfl rfl rfl rfl rfl rfl rfl rfl rfl rfl rfl rfl rfl (by (repeat' (first | exact trivial | refine AllLt.of ?_ | constructor))) rfl (by omega) (by show (out.length+1)*24<=_;omega) fun oo' oc' hoc'=>oj_run TT rfl ?_
  (repeat (first | refine cjr TT rfl ?_ | refine oj_nil ?_ | refine nj_then ?_ | refine nj_block ?_ | (refine oj_add rfl rfl rfl rfl rfl rfl (by omega) ?_;refine oj_run TT rfl ?_)))
  refine nj_again (σ2,k+1,(⟨way',wo',wc',out++[⟨bo,bc,way'⟩],oo',oc'⟩:PaS)) ⟨Snap.le_trans hle hle2,hkl,by dsimp only;rw [List.map_append,List.append_assoc];exact hp,hlv3.mono (by dsimp only;omega),hwl.2,hqc,by dsimp only;rw [List.length_append];exact hoc',by dsimp only;rw [List.length_append,List.length_singleton];omega,fun q hq=>?_⟩ (by dsimp only;omega) rfl ?_ (by (repeat first | exact trivial | refine ⟨rfl,?_⟩)) ?_ (by (repeat' (first | exact trivial | constructor))) (by (repeat' exact trivial))
  · rcases List.mem_append.1 hq with hq | hq
    · exact (hout q hq).mono hle2
    · rw [List.mem_singleton] at hq;subst hq;exact hnew
  · dsimp only
    rw [List.length_append]
    (repeat first | exact trivial | refine ⟨rfl,?_⟩)
  · show [_,_]=[_,_]
    dsimp only
    unfold srE
    rw [srXs_append,List.length_append]
    rfl
end Go.Sy
/- Plain laws: counts of lines; single patterns; paths of records. No program in sight. -/
namespace Go.Sy
theorem pathsF_len:∀ (L:List GRec) (way:List ByteArray),(pathsF way L).length=L.length
  | [],_=>rfl
  | r::l,way=>by rw [pathsF,List.length_cons,List.length_cons,pathsF_len l]
end Go.Sy
/- Plain law: how many stand in how many, of values' records. No program in sight. -/
namespace Go.Sy
def itemOf (id:Int) (r:GRec) (i:Nat):GItem:=⟨id,i,r.st,r.en,r.lv⟩
def itemsD (id:Int) (L:List GRec):List GItem:=L.zipIdx.map fun x=>itemOf id x.1 x.2
theorem itemsD_len (id:Int) (L:List GRec):(itemsD id L).length=L.length:=by simp [itemsD]
theorem itemsD_get {id:Int} {L:List GRec} {i:Nat} {r:GRec} (h:L[i]?=some r):(itemsD id L)[i]?=some (itemOf id r i):=by
  unfold itemsD
  rw [List.getElem?_map,List.getElem?_zipIdx,h]
  simp
end Go.Sy
/- Plain law: an index of documents: its items, and what is asked of paths. No program in sight. -/
namespace Go.Sy
structure GDoc where
  id:Int
  o:Option Addr
  cap:Nat
  L:List GRec
  lo:Option Addr
  lcap:Nat
  ids:List Int
structure SInv (ps:List SRow) (s:GSt):Prop where
  inv:GInv s
  len:s.ids.length=ps.length
  st:∀ (k:Nat) (d:Int),s.ids[k]?=some d->∃ (j:Nat) (x:GLine) (p:SRow),s.xs[j]?=some x/\x.id=d/\ps[k]?=some p/\x.st=p.ss
theorem SInv.step {ps:List SRow} {s:GSt} (h:SInv ps s) (p:SRow):SInv (ps++[p]) (addOne s p):=by
  obtain ⟨h1,h2,j,y,h3,h4,h5⟩:=addOne_spec h.inv p
  refine ⟨h1,by rw [h5,List.length_append,List.length_append,h.len];rfl,fun k d hd=>?_⟩
  rw [h5] at hd
  by_cases hk:k<s.ids.length
  · rw [List.getElem?_append_left hk] at hd
    obtain ⟨j',x,q,e1,e2,e3,e4⟩:=h.st k d hd
    obtain ⟨y',f1,f2,f3⟩:=h2 j' x e1
    exact ⟨j',y',q,f1,by rw [f3,e2],by rw [List.getElem?_append_left (by rw [<-h.len];exact hk)];exact e3,by rw [f2,e4]⟩
  · rw [List.getElem?_append_right (by omega)] at hd
    have h0:k - s.ids.length=0:=by
      have:=(List.getElem?_eq_some_iff.1 hd).1
      simp only [List.length_singleton] at this
      omega
    rw [h0] at hd
    injection hd with hd
    refine ⟨j,y,p,h3,hd,?_,h4⟩
    rw [List.getElem?_append_right (by rw [<-h.len];omega),<-h.len,h0]
    rfl
theorem SInv.all:∀ (qs ps:List SRow) {s:GSt},SInv ps s->SInv (ps++qs) (addAll s qs)
  | [],ps,s,h=>by rw [List.append_nil];exact h
  | q::qs,ps,s,h=>by
    have:=SInv.all qs (ps++[q]) (h.step q)
    rw [List.append_assoc] at this
    exact this
theorem SInv.start {xs:List GLine} {next:Int} {ids:List Int} (h:GInv ⟨xs,next,ids⟩):SInv [] ⟨xs,next,[]⟩:=⟨⟨h.next,h.at_⟩,rfl,fun k d hd=>by cases hd⟩
def LinesOk (xs:List GLine) (d:GDoc):Prop:=d.ids.length=d.L.length/\∀ (i:Nat) (k:Int) (p:List ByteArray),d.ids[i]?=some k->(pathsG d.L)[i]?=some p->∃ (j:Nat) (x:GLine),xs[j]?=some x/\x.st=p/\x.id=k
structure IdxP (ds:List GDoc) (xs:List GLine) (next:Int):Prop where
  inv:GInv ⟨xs,next,[]⟩
  ord:ds.Pairwise fun x y=>x.id<y.id
  doc:∀ d∈ds,LinesOk xs d
theorem IdxP.nil:IdxP [] [] 0:=⟨⟨rfl,fun j x h=>(by cases h)⟩,List.Pairwise.nil,fun _ h=>(by cases h)⟩
theorem IdxP.add {ds:List GDoc} {xs:List GLine} {next:Int} (h:IdxP ds xs next) {d:GDoc} (hd:∀ x∈ds,x.id<d.id) {rows:List SRow} (hr:rows.map SRow.ss=pathsG d.L) (hi:d.ids=(addAll ⟨xs,next,[]⟩ rows).ids) :
    IdxP (ds++[d]) (addAll ⟨xs,next,[]⟩ rows).xs (addAll ⟨xs,next,[]⟩ rows).next:=by
  have hS:=SInv.all rows [] (SInv.start h.inv)
  obtain ⟨h1,h2,-⟩:=addAll_inv rows h.inv
  rw [List.nil_append] at hS
  have hpl:(pathsG d.L).length=d.L.length:=pathsF_len _ _
  refine ⟨⟨h1.next,h1.at_⟩,?_,fun x hx=>?_⟩
  · rw [List.pairwise_append]
    refine ⟨h.ord,List.pairwise_singleton _ _,fun x hx y hy=>?_⟩
    rw [List.mem_singleton] at hy
    subst hy
    exact hd x hx
  · rcases List.mem_append.1 hx with hx | hx
    · obtain ⟨e1,e2⟩:=h.doc x hx
      refine ⟨e1,fun i k p hk hp=>?_⟩
      obtain ⟨j,y,f1,f2,f3⟩:=e2 i k p hk hp
      obtain ⟨z,g1,g2,g3⟩:=h2 j y f1
      exact ⟨j,z,g1,by rw [g2,f2],by rw [g3,f3]⟩
    · rw [List.mem_singleton] at hx
      subst hx
      refine ⟨by rw [hi,hS.len,<-hpl,<-hr,List.length_map],fun i k p hk hp=>?_⟩
      rw [hi] at hk
      obtain ⟨j,y,q,f1,f2,f3,f4⟩:=hS.st i k hk
      rw [<-hr,List.getElem?_map,f3] at hp
      injection hp with hp
      exact ⟨j,y,f1,by rw [f4];exact hp,f2⟩
def onD (lines:Int->Bool) (d:GDoc):List GItem:=(((itemsD d.id d.L).zip d.ids).filter fun x=>lines x.2).map Prod.fst
def onG (lines:Int->Bool) (ds:List GDoc):List GItem:=ds.flatMap (onD lines)
end Go.Sy
namespace Go.Sy
open Go.Proofs
def aS:ByteArray:=⟨#[46,97]⟩
end Go.Sy
namespace Go.Sy
open Go.Proofs
def itCells (x:GItem):List AT:=[.v (.int .i64 x.doc),.v (.int .i64 x.at_),.v (.int .i64 x.st),.v (.int .i64 x.en),.v (.int .i64 x.lv)]
theorem itCells_lt (n:Nat) (x:GItem):∀ c∈itCells x,c.lt n:=by simp [itCells,AT.lt]
def itRows (l:List GItem):List (List AT):=l.map itCells
theorem itRows_get {l:List GItem} {i:Nat} {x:GItem} (h:l[i]?=some x):(itRows l)[i]?=some (itCells x):=by unfold itRows;rw [List.getElem?_map,h];rfl
theorem itRows_all (a:List GItem):∀ r∈itRows a,r.length=5/\(∀ c∈r,c.lt 0)/\r.all AT.one=true:=by
  intro r hr
  obtain ⟨x,_,rfl⟩:=List.mem_map.1 hr
  exact ⟨rfl,itCells_lt 0 x,rfl⟩
def itXs (l:List GItem):List Value:=(itRows l).flatten.map AT.val
theorem itXs_append (a b:List GItem):itXs (a++b)=itXs a++itXs b:=by simp [itXs,itRows]
theorem itXs_push (L:List GItem) (x:GItem):itXs L++(itCells x).map AT.val=itXs (L++[x]):=by
  rw [itXs_append]
  simp [itXs,itRows]
theorem itXs_get {l:List GItem} {i j:Nat} {x:GItem} {c:AT} (h:l[i]?=some x) (hj:(itCells x)[j]?=some c):(itXs l)[i*5+j]?=some c.val:=by
  unfold itXs
  rw [List.getElem?_map,flat_get (sz:=5) (fun r hr=>(itRows_all l r hr).1) (itRows_get h) hj]
  rfl
theorem itXs_take (l:List GItem) (k:Nat):(itXs l).take (k*5)=itXs (l.take k):=by
  unfold itXs
  rw [<-List.map_take,flat_take (sz:=5) (fun r hr=>(itRows_all l r hr).1)]
  unfold itRows
  rw [List.map_take]
def itE (ao:Option Addr) (cap:Nat) (l:List GItem):AE:=⟨ao,l.length,cap,71,5,itXs l⟩
theorem it_sealed {σ:Snap} {ao:Option Addr} {cap:Nat} {l:List GItem} (hS:ArrSealed σ (itE ao cap l)) (hc:l.length<=cap):SlAt σ ao l.length cap 5 (itRows l) :=
  hS.sl rfl (fun r hr=>⟨(itRows_all l r hr).1,(itRows_all l r hr).2.1⟩) (by simp [itRows]) rfl hc
end Go.Sy
namespace Go.Sy
open Go.Proofs
def doCells (d:GDoc):List AT:=[.v (.int .i64 d.id),.v (.slice d.o d.L.length d.cap)]
def liCells (d:GDoc):List AT:=[.v (.slice d.lo d.ids.length d.lcap)]
theorem doCells_lt (n:Nat) (d:GDoc):∀ c∈doCells d,c.lt n:=by simp [doCells,AT.lt]
def doRows (l:List GDoc):List (List AT):=l.map doCells
theorem doRows_get {l:List GDoc} {i:Nat} {x:GDoc} (h:l[i]?=some x):(doRows l)[i]?=some (doCells x):=by unfold doRows;rw [List.getElem?_map,h];rfl
theorem doRows_all (a:List GDoc):∀ r∈doRows a,r.length=2/\(∀ c∈r,c.lt 0)/\r.all AT.one=true:=by
  intro r hr
  obtain ⟨x,_,rfl⟩:=List.mem_map.1 hr
  exact ⟨rfl,doCells_lt 0 x,rfl⟩
def doXs (l:List GDoc):List Value:=(doRows l).flatten.map AT.val
def doE (ao:Option Addr) (cap:Nat) (l:List GDoc):AE:=⟨ao,l.length,cap,90,2,doXs l⟩
theorem doXs_append (a b:List GDoc):doXs (a++b)=doXs a++doXs b:=by simp [doXs,doRows]
theorem do_sealed {σ:Snap} {ao:Option Addr} {cap:Nat} {l:List GDoc} (hS:ArrSealed σ (doE ao cap l)) (hc:l.length<=cap):SlAt σ ao l.length cap 2 (doRows l) :=
  hS.sl rfl (fun r hr=>⟨(doRows_all l r hr).1,(doRows_all l r hr).2.1⟩) (by simp [doRows]) rfl hc
set_option maxRecDepth 100000 in
set_option maxHeartbeats 1000000 in
theorem doClone_c (σ:Snap) (xs:List GDoc) (hl:xs.length<=1000000) (ao:Option Addr) (cap:Nat) (H:SlAt σ ao xs.length cap 2 (doRows xs)) :
    FnS Tryz.prog 109 [.a (.v (.slice ao xs.length cap))] σ [] (fun v _ A'=>∃ bo bc,v=.slice bo xs.length bc/\xs.length<=bc/\A'=[doE bo bc xs]):=by
  refine enter_f Tryz.func109 rfl rfl (by (repeat' (first | exact trivial | constructor))) fun w=>?_
  (repeat (first | refine cj_seq ?_ | refine cjr TT rfl ?_ | refine oj_then ?_ | (refine oj_slnil TT rfl rfl rfl rfl rfl rfl rfl rfl ?_;refine oj_run TT rfl ?_)))
  refine cj_if rfl (fun h=>?_) (fun h=>?_)
  · have h0:ao=none:=by simpa using h
    have hn0:xs.length=0:=by
      rcases H.at_ with h1 | ⟨ad,h1,_⟩
      · exact h1
      · rw [h0] at h1;cases h1
    have hr:xs=[]:=List.eq_nil_of_length_eq_zero hn0
    subst hr
    (repeat (first | refine cj_seq ?_ | refine cjr TT rfl ?_ | refine oj_then ?_ | refine cj_ret ?_ | refine nj_then_ret ?_))
    refine nj_nilarr 90 2 ?_
    refine nj_fret TT rfl fun β w' _ _=>?_
    exact ⟨none,0,rfl,Nat.le_refl _,rfl⟩
  (repeat (first | refine cj_seq ?_ | refine cjr TT rfl ?_ | refine cj_skip ?_ | refine nj_then ?_))
  refine oj_own 0 0 2 rfl (by (repeat' (first | exact trivial | refine AllLt.of ?_))) rfl (by decide) fun gb=>?_
  refine oj_append_sl TT 0 rfl rfl rfl rfl rfl rfl rfl H rfl rfl rfl rfl rfl rfl rfl rfl rfl (fun r hr=>(doRows_all xs r hr).2.2) (by omega) (by show (0+xs.length)*32<=_;omega) fun ao' cap' hcap'=>oj_run TT rfl ?_
  (repeat (first | refine oj_then ?_ | refine cj_ret ?_))
  refine nj_fret TT rfl fun β w' _ _=>?_
  refine ⟨ao',cap',by show Value.slice ao' (0+xs.length) cap'=_;rw [Nat.zero_add],by omega,?_⟩
  show [_]=[_]
  rw [Nat.zero_add]
  rfl
set_option maxRecDepth 100000 in
set_option maxHeartbeats 1000000 in
theorem doInsert_c (σ:Snap) (l:List GDoc) (hl:l.length<=1000000) (so:Option Addr) (sc:Nat) (hsc:l.length<=sc) (d:GDoc) (vo:Option Addr) (vc:Nat) (V:SlAt σ vo 1 vc 2 (doRows [d])) :
    FnS Tryz.prog 108 [.a (.v (.slice so l.length sc)),.a (.v (.int .i64 l.length)),.a (.v (.slice vo 1 vc))] σ [doE so sc l]
      (fun v _ A'=>∃ so' sc',v=.slice so' (l++[d]).length sc'/\(l++[d]).length<=sc'/\A'=[doE so' sc' (l++[d])]):=by
  refine enter_f Tryz.func108 rfl rfl (by (repeat' (first | exact trivial | constructor))) fun w=>?_
  (repeat (first | refine cj_seq ?_ | refine cjr TT rfl ?_ | refine oj_then ?_))
  refine oj_slice TT l.length l.length rfl rfl rfl rfl rfl rfl rfl rfl rfl rfl (.inr ⟨_,_,rfl,rfl⟩) (.inl ⟨rfl,rfl⟩) (Nat.le_refl _) hsc hsc (oj_run TT rfl ?_)
  (repeat (first | refine cj_seq ?_ | refine cjr TT rfl ?_ | refine oj_then ?_))
  refine cj_if rfl (fun h=>absurd h (by decide)) (fun _=>?_)
  (repeat (first | refine cj_seq ?_ | refine cjr TT rfl ?_ | refine oj_then ?_ | refine cj_skip ?_ | refine nj_then ?_))
  refine cj_if rfl (fun _=>?_) (fun h=>absurd rfl (of_decide_eq_false h))
  (repeat (first | refine cj_seq ?_ | refine cjr TT rfl ?_))
  refine oj_append_sl TT 0 rfl rfl rfl rfl rfl rfl rfl V rfl rfl rfl rfl rfl rfl rfl rfl rfl (fun r hr=>(doRows_all [d] r hr).2.2) (by omega) (by show (l.length+1)*32<=_;omega) fun ao' cap' hcap'=>oj_run TT rfl ?_
  (repeat (first | refine oj_then ?_ | refine cj_ret ?_ | refine nj_then_ret ?_))
  refine nj_fret TT rfl fun β w' _ _=>?_
  have hlen:(l++[d]).length=l.length+1:=by simp
  rw [hlen]
  refine ⟨ao',cap',rfl,hcap',?_⟩
  unfold doE
  rw [hlen,doXs_append]
  rfl
theorem liCells_lt (n:Nat) (d:GDoc):∀ c∈liCells d,c.lt n:=by simp [liCells,AT.lt]
def liRows (l:List GDoc):List (List AT):=l.map liCells
theorem liRows_get {l:List GDoc} {i:Nat} {x:GDoc} (h:l[i]?=some x):(liRows l)[i]?=some (liCells x):=by unfold liRows;rw [List.getElem?_map,h];rfl
theorem liRows_all (a:List GDoc):∀ r∈liRows a,r.length=1/\(∀ c∈r,c.lt 0)/\r.all AT.one=true:=by
  intro r hr
  obtain ⟨x,_,rfl⟩:=List.mem_map.1 hr
  exact ⟨rfl,liCells_lt 0 x,rfl⟩
def liXs (l:List GDoc):List Value:=(liRows l).flatten.map AT.val
def liE (ao:Option Addr) (cap:Nat) (l:List GDoc):AE:=⟨ao,l.length,cap,74,1,liXs l⟩
theorem liXs_append (a b:List GDoc):liXs (a++b)=liXs a++liXs b:=by simp [liXs,liRows]
theorem li_sealed {σ:Snap} {ao:Option Addr} {cap:Nat} {l:List GDoc} (hS:ArrSealed σ (liE ao cap l)) (hc:l.length<=cap):SlAt σ ao l.length cap 1 (liRows l) :=
  hS.sl rfl (fun r hr=>⟨(liRows_all l r hr).1,(liRows_all l r hr).2.1⟩) (by simp [liRows]) rfl hc
set_option maxRecDepth 100000 in
set_option maxHeartbeats 1000000 in
theorem liClone_c (σ:Snap) (xs:List GDoc) (hl:xs.length<=1000000) (ao:Option Addr) (cap:Nat) (H:SlAt σ ao xs.length cap 1 (liRows xs)) :
    FnS Tryz.prog 111 [.a (.v (.slice ao xs.length cap))] σ [] (fun v _ A'=>∃ bo bc,v=.slice bo xs.length bc/\xs.length<=bc/\A'=[liE bo bc xs]):=by
  refine enter_f Tryz.func111 rfl rfl (by (repeat' (first | exact trivial | constructor))) fun w=>?_
  (repeat (first | refine cj_seq ?_ | refine cjr TT rfl ?_ | refine oj_then ?_ | (refine oj_slnil TT rfl rfl rfl rfl rfl rfl rfl rfl ?_;refine oj_run TT rfl ?_)))
  refine cj_if rfl (fun h=>?_) (fun h=>?_)
  · have h0:ao=none:=by simpa using h
    have hn0:xs.length=0:=by
      rcases H.at_ with h1 | ⟨ad,h1,_⟩
      · exact h1
      · rw [h0] at h1;cases h1
    have hr:xs=[]:=List.eq_nil_of_length_eq_zero hn0
    subst hr
    (repeat (first | refine cj_seq ?_ | refine cjr TT rfl ?_ | refine oj_then ?_ | refine cj_ret ?_ | refine nj_then_ret ?_))
    refine nj_nilarr 74 1 ?_
    refine nj_fret TT rfl fun β w' _ _=>?_
    exact ⟨none,0,rfl,Nat.le_refl _,rfl⟩
  (repeat (first | refine cj_seq ?_ | refine cjr TT rfl ?_ | refine cj_skip ?_ | refine nj_then ?_))
  refine oj_own 0 0 1 rfl (by (repeat' (first | exact trivial | refine AllLt.of ?_))) rfl (by decide) fun gb=>?_
  refine oj_append_sl TT 0 rfl rfl rfl rfl rfl rfl rfl H rfl rfl rfl rfl rfl rfl rfl rfl rfl (fun r hr=>(liRows_all xs r hr).2.2) (by omega) (by show (0+xs.length)*24<=_;omega) fun ao' cap' hcap'=>oj_run TT rfl ?_
  (repeat (first | refine oj_then ?_ | refine cj_ret ?_))
  refine nj_fret TT rfl fun β w' _ _=>?_
  refine ⟨ao',cap',by show Value.slice ao' (0+xs.length) cap'=_;rw [Nat.zero_add],by omega,?_⟩
  show [_]=[_]
  rw [Nat.zero_add]
  rfl
set_option maxRecDepth 100000 in
set_option maxHeartbeats 1000000 in
theorem liInsert_c (σ:Snap) (l:List GDoc) (hl:l.length<=1000000) (so:Option Addr) (sc:Nat) (hsc:l.length<=sc) (d:GDoc) (vo:Option Addr) (vc:Nat) (V:SlAt σ vo 1 vc 1 (liRows [d])) :
    FnS Tryz.prog 110 [.a (.v (.slice so l.length sc)),.a (.v (.int .i64 l.length)),.a (.v (.slice vo 1 vc))] σ [liE so sc l]
      (fun v _ A'=>∃ so' sc',v=.slice so' (l++[d]).length sc'/\(l++[d]).length<=sc'/\A'=[liE so' sc' (l++[d])]):=by
  refine enter_f Tryz.func110 rfl rfl (by (repeat' (first | exact trivial | constructor))) fun w=>?_
  (repeat (first | refine cj_seq ?_ | refine cjr TT rfl ?_ | refine oj_then ?_))
  refine oj_slice TT l.length l.length rfl rfl rfl rfl rfl rfl rfl rfl rfl rfl (.inr ⟨_,_,rfl,rfl⟩) (.inl ⟨rfl,rfl⟩) (Nat.le_refl _) hsc hsc (oj_run TT rfl ?_)
  (repeat (first | refine cj_seq ?_ | refine cjr TT rfl ?_ | refine oj_then ?_))
  refine cj_if rfl (fun h=>absurd h (by decide)) (fun _=>?_)
  (repeat (first | refine cj_seq ?_ | refine cjr TT rfl ?_ | refine oj_then ?_ | refine cj_skip ?_ | refine nj_then ?_))
  refine cj_if rfl (fun _=>?_) (fun h=>absurd rfl (of_decide_eq_false h))
  (repeat (first | refine cj_seq ?_ | refine cjr TT rfl ?_))
  refine oj_append_sl TT 0 rfl rfl rfl rfl rfl rfl rfl V rfl rfl rfl rfl rfl rfl rfl rfl rfl (fun r hr=>(liRows_all [d] r hr).2.2) (by omega) (by show (l.length+1)*24<=_;omega) fun ao' cap' hcap'=>oj_run TT rfl ?_
  (repeat (first | refine oj_then ?_ | refine cj_ret ?_ | refine nj_then_ret ?_))
  refine nj_fret TT rfl fun β w' _ _=>?_
  have hlen:(l++[d]).length=l.length+1:=by simp
  rw [hlen]
  refine ⟨ao',cap',rfl,hcap',?_⟩
  unfold liE
  rw [hlen,liXs_append]
  rfl
def cmpN (a b:Int):Int:=if a<b then -1 else if b<a then 1 else 0
set_option maxRecDepth 100000 in
set_option maxHeartbeats 1000000 in
theorem isNaN_c (σ:Snap) (a:Int):PlainS Tryz.prog 213 [.a (.v (.int .i64 a))] σ (fun v=>v=.bool false):=by
  refine enter_p Tryz.func213 rfl rfl (by (repeat' (first | exact trivial | constructor))) fun w=>?_
  (repeat (first | refine cj_seq ?_ | refine cjr TT rfl ?_ | refine oj_then ?_ | refine cj_ret ?_))
  refine nj_ret TT rfl fun β w' _ _=>?_
  show Value.bool (!decide (a=a))=_
  simp
set_option maxRecDepth 100000 in
set_option maxHeartbeats 1000000 in
theorem Compare_c (σ:Snap) (a b:Int):PlainS Tryz.prog 168 [.a (.v (.int .i64 a)),.a (.v (.int .i64 b))] σ (fun v=>v=.int .i64 (cmpN a b)):=by
  refine enter_p Tryz.func168 rfl rfl (by (repeat' (first | exact trivial | constructor))) fun w=>?_
  (repeat (first | refine cj_seq ?_ | refine cjr TT rfl ?_ | refine oj_then ?_))
  refine oj_callP rfl rfl rfl rfl rfl Tryz.call213 (by (repeat' (first | exact trivial | constructor))) (isNaN_c σ a) fun v hv=>⟨.a .ff,trivial,hv.symm,?_⟩
  refine oj_run TT rfl ?_
  (repeat (first | refine cj_seq ?_ | refine cjr TT rfl ?_ | refine oj_then ?_))
  refine oj_callP rfl rfl rfl rfl rfl Tryz.call213 (by (repeat' (first | exact trivial | constructor))) (isNaN_c σ b) fun v hv=>⟨.a .ff,trivial,hv.symm,?_⟩
  refine oj_run TT rfl ?_
  (repeat (first | refine cj_seq ?_ | refine cjr TT rfl ?_ | refine oj_then ?_ | refine cj_if_f rfl ?_ | refine cj_skip ?_ | refine nj_then ?_))
  refine cj_if rfl (fun h=>?_) (fun h=>?_)
  · have h:=of_decide_eq_true h
    (repeat (first | refine cj_seq ?_ | refine cjr TT rfl ?_ | refine oj_then ?_ | refine cj_ret ?_ | refine nj_then_ret ?_))
    refine nj_ret TT rfl fun β w' _ _=>?_
    show Value.int .i64 (-1)=_
    unfold cmpN
    rw [if_pos h]
  have h:=of_decide_eq_false h
  (repeat (first | refine cj_seq ?_ | refine cjr TT rfl ?_ | refine oj_then ?_ | refine cj_skip ?_ | refine nj_then ?_))
  refine cj_if rfl (fun h2=>?_) (fun h2=>?_)
  · have h2:=of_decide_eq_true h2
    (repeat (first | refine cj_seq ?_ | refine cjr TT rfl ?_ | refine oj_then ?_ | refine cj_ret ?_ | refine nj_then_ret ?_))
    refine nj_ret TT rfl fun β w' _ _=>?_
    show Value.int .i64 1=_
    unfold cmpN
    rw [if_neg h,if_pos h2]
  · have h2:=of_decide_eq_false h2
    (repeat (first | refine cj_seq ?_ | refine cjr TT rfl ?_ | refine oj_then ?_ | refine cj_skip ?_ | refine cj_ret ?_ | refine nj_then ?_))
    refine nj_ret TT rfl fun β w' _ _=>?_
    show Value.int .i64 0=_
    unfold cmpN
    rw [if_neg h,if_neg h2]
set_option maxRecDepth 100000 in
set_option maxHeartbeats 1000000 in
theorem place1_c (σ:Snap) (d:GDoc) (id:Int):PlainS Tryz.prog 167 [.agg (doCells d),.a (.v (.int .i64 id))] σ (fun v=>v=.int .i64 (cmpN d.id id)):=by
  refine enter_p Tryz.func167 rfl rfl ⟨doCells_lt 0 d,trivial,trivial⟩ fun w=>?_
  (repeat (first | refine cj_seq ?_ | refine cjr TT rfl ?_ | refine oj_then ?_))
  refine oj_callP rfl rfl rfl rfl rfl Tryz.call168 (by (repeat' (first | exact trivial | constructor))) (Compare_c σ d.id id) fun v hv=>⟨.a (.v (.int .i64 (cmpN d.id id))),trivial,hv.symm,?_⟩
  refine oj_run TT rfl ?_
  (repeat (first | refine oj_then ?_ | refine cj_ret ?_))
  refine nj_ret TT rfl fun β w' _ _=>?_
  rfl
theorem wU (k:Nat) (h:k<18446744073709551616):IntKind.u64.wrap (k:Int)=k:=by
  show ((k:Int) % 18446744073709551616)=k
  omega
theorem wI64 (k:Nat) (h:k<9223372036854775808):IntKind.i64.wrap (k:Int)=k:=by
  unfold IntKind.wrap
  show (if (true&&decide ((k:Int) % 18446744073709551616≥9223372036854775808))=true then _ else (k:Int) % 18446744073709551616)=_
  have e:(k:Int) % 18446744073709551616=k:=by omega
  rw [e,if_neg (by simp;omega)]
theorem half_eq (k:Nat):bShr .u64 (k:Int) 1=((k / 2:Nat):Int):=by
  show (k:Int).fdiv 2=_
  rw [Int.fdiv_eq_ediv_of_nonneg _ (by decide)]
  omega
structure BsS where
  i:Nat
  j:Nat
structure PlaceAt (ds:List GDoc) (id:Int) (p:Nat):Prop where
  le:p<=ds.length
  lo:∀ k d,k<p->ds[k]?=some d->d.id<id
  hi:∀ k d,p<=k->ds[k]?=some d->id<=d.id
def isAt (ds:List GDoc) (id:Int) (p:Nat):Bool:=match ds[p]? with | some d=>decide (d.id=id) | none=>false
set_option maxRecDepth 100000 in
set_option maxHeartbeats 4000000 in
theorem BinSearch_c (σ:Snap) (ds:List GDoc) (hl:ds.length<=1000000) (ho:ds.Pairwise fun x y=>x.id<y.id) (ao:Option Addr) (cap:Nat) (H:SlAt σ ao ds.length cap 2 (doRows ds)) (id:Int) :
    PlainS Tryz.prog 166 [.a (.v (.slice ao ds.length cap)),.a (.v (.int .i64 id)),.a (.fn (.func 167) [])] σ (fun v=>∃ p:Nat,v=.tuple #[.int .i64 p,.bool (isAt ds id p)]/\PlaceAt ds id p):=by
  have hmono:∀ (a b:Nat) x y,a<=b->ds[a]?=some x->ds[b]?=some y->x.id<=y.id:=by
    intro a b x y hab hx hy
    obtain ⟨ha,rfl⟩:=List.getElem?_eq_some_iff.1 hx
    obtain ⟨hb,rfl⟩:=List.getElem?_eq_some_iff.1 hy
    rcases Nat.lt_or_ge a b with h | h
    · have:=List.pairwise_iff_getElem.1 ho a b ha hb h
      omega
    · have:a=b:=by omega
      subst this
      exact Int.le_refl _
  refine enter_p Tryz.func166 rfl rfl (by (repeat' (first | exact trivial | exact SV.lt_fn0 | constructor))) fun w=>?_
  (repeat (first | refine cj_seq ?_ | refine cjr TT rfl ?_ | refine oj_then ?_ | refine cj_block ?_))
  refine cj_cutB (fun _=>σ) (fun (p:Nat)=>[(0,.a (.v (.slice ao ds.length cap))),(1,.a (.v (.int .i64 id))),(2,.a (.fn (.func 167) [])),(8,.a (.v (.int .i64 ds.length))),(9,.a (.v (.int .i64 p)))]) (fun _=>[]) (fun _=>[]) 0 (fun p=>PlaceAt ds id p) ?_ (fun p hp=>?_)
  · refine cj_loop (fun (_:BsS)=>σ) (fun t=>[(0,.a (.v (.slice ao ds.length cap))),(1,.a (.v (.int .i64 id))),(2,.a (.fn (.func 167) [])),(8,.a (.v (.int .i64 ds.length))),(9,.a (.v (.int .i64 (t.i:Nat)))),(10,.a (.v (.int .i64 (t.j:Nat))))]) (fun _=>[]) (fun _=>[]) 0
      (fun t=>t.i<=t.j/\t.j<=ds.length/\(∀ k d,k<t.i->ds[k]?=some d->d.id<id)/\(∀ k d,t.j<=k->ds[k]?=some d->id<=d.id)) (fun t=>t.j - t.i) ⟨0,ds.length⟩
      ⟨Nat.zero_le _,Nat.le_refl _,fun k d h=>by dsimp only at h;omega,fun k d h hd=>by have:=(List.getElem?_eq_some_iff.1 hd).1;dsimp only at h;omega⟩ rfl (by (repeat first | exact trivial | refine ⟨rfl,?_⟩)) (by (repeat first | exact trivial | refine ⟨rfl,?_⟩)) rfl (by (repeat' (first | exact trivial | exact SV.lt_fn0 | constructor))) (by (repeat' exact trivial)) fun ⟨i,j⟩ ⟨hij,hj,hlo,hhi⟩=>?_
    dsimp only at hij hj hlo hhi ⊢
    (repeat (first | refine cj_seq ?_ | refine cjr TT rfl ?_ | refine oj_then ?_))
    refine cj_if rfl (fun h=>?_) (fun h=>?_)
    rotate_left
    · have hij0:i=j:=by have:=of_decide_eq_false h;omega
      subst hij0
      (repeat (first | refine cj_exit ?_ | refine nj_then_exit ?_ | refine nj_block_out ?_))
      refine nj_again i ⟨by omega,hlo,hhi⟩ Nat.zero_lt_one rfl (by (repeat first | exact trivial | refine ⟨rfl,?_⟩)) (by (repeat first | exact trivial | refine ⟨rfl,?_⟩)) rfl (by (repeat' (first | exact trivial | exact SV.lt_fn0 | constructor))) (by (repeat' exact trivial))
    have hijl:i<j:=by have:=of_decide_eq_true h;omega
    have hml:(i+j) / 2<ds.length:=by omega
    have hrow:=doRows_get (List.getElem?_eq_getElem hml)
    have hdm:=List.getElem?_eq_getElem hml
    generalize ds[(i+j) / 2]=d at *
    (repeat (first | refine cj_seq ?_ | refine cjr TT rfl ?_ | refine oj_then ?_ | refine cj_skip ?_ | refine cj_block ?_ | refine nj_then ?_ | (refine oj_conv TT _ rfl rfl rfl rfl rfl rfl rfl rfl rfl ?_;refine oj_run TT rfl ?_) | (refine oj_bshr rfl rfl rfl rfl rfl rfl (by decide) ?_;refine oj_run TT rfl ?_) | (refine oj_add rfl rfl rfl rfl rfl rfl (by omega) ?_;refine oj_run TT rfl ?_)))
    have hmid:Value.int .i64 (IntKind.i64.wrap (bShr .u64 (IntKind.u64.wrap ((i:Int)+j)) 1))=Value.int .i64 (((i+j) / 2:Nat):Int):=by
      rw [show ((i:Int)+j)=((i+j:Nat):Int) by omega,wU _ (by omega),half_eq,wI64 _ (by omega)]
    refine oj_set 26 (.a (.v (.int .i64 (((i+j) / 2:Nat):Int)))) rfl trivial (fun _=>hmid) ?_
    refine oj_set 11 (.a (.v (.int .i64 (((i+j) / 2:Nat):Int)))) rfl trivial (fun _=>hmid) ?_
    refine oj_idx TT rfl rfl rfl rfl rfl rfl rfl rfl rfl H (by omega) hrow (oj_run TT rfl ?_)
    refine oj_callP rfl rfl rfl rfl rfl Tryz.call167 (by (repeat' (first | exact trivial | refine AllLt.of ?_ | constructor))) (place1_c σ d id) fun v hv=>⟨.a (.v (.int .i64 (cmpN d.id id))),trivial,hv.symm,?_⟩
    refine oj_run TT rfl ?_
    (repeat refine oj_then ?_)
    refine cj_if rfl (fun h=>?_) (fun h=>?_)
    · have h:=of_decide_eq_true h
      have hlt:d.id<id:=by
        unfold cmpN at h
        split at h
        · assumption
        · split at h<;>omega
      (repeat (first | refine cjr TT rfl ?_ | refine oj_nil ?_ | refine nj_block ?_ | (refine oj_add rfl rfl rfl rfl rfl rfl (by omega) ?_;refine oj_run TT rfl ?_)))
      refine nj_again (⟨(i+j) / 2+1,j⟩:BsS) ⟨by dsimp only;omega,hj,fun k d' hk hd'=>?_,hhi⟩ (by dsimp only;omega) rfl (by (repeat first | exact trivial | refine ⟨rfl,?_⟩)) (by (repeat first | exact trivial | refine ⟨rfl,?_⟩)) rfl (by (repeat' (first | exact trivial | exact SV.lt_fn0 | constructor))) (by (repeat' exact trivial))
      have:=hmono k ((i+j) / 2) d' d (by dsimp only at hk;omega) hd' hdm
      omega
    · have h:=of_decide_eq_false h
      have hge:id<=d.id:=by
        unfold cmpN at h
        split at h
        · omega
        · omega
      (repeat (first | refine cjr TT rfl ?_ | refine oj_nil ?_ | refine nj_block ?_))
      refine nj_again (⟨i,(i+j) / 2⟩:BsS) ⟨by dsimp only;omega,by dsimp only;omega,hlo,fun k d' hk hd'=>?_⟩ (by dsimp only;omega) rfl (by (repeat first | exact trivial | refine ⟨rfl,?_⟩)) (by (repeat first | exact trivial | refine ⟨rfl,?_⟩)) rfl (by (repeat' (first | exact trivial | exact SV.lt_fn0 | constructor))) (by (repeat' exact trivial))
      have:=hmono ((i+j) / 2) k d d' hk hdm hd'
      omega
  (repeat (first | refine cj_seq ?_ | refine cjr TT rfl ?_))
  refine oj_split 39 rfl (fun h=>?_) (fun h=>?_)
  · have h:decide ((p:Int)<ds.length)=true:=h
    have hpl:p<ds.length:=by have:=of_decide_eq_true h;omega
    have hrow:=doRows_get (List.getElem?_eq_getElem hpl)
    have hdp:=List.getElem?_eq_getElem hpl
    generalize ds[p]=d at *
    refine oj_run TT rfl ?_
    refine oj_idx TT rfl rfl rfl rfl rfl rfl rfl rfl rfl H (by omega) hrow (oj_run TT rfl ?_)
    refine oj_callP rfl rfl rfl rfl rfl Tryz.call167 (by (repeat' (first | exact trivial | refine AllLt.of ?_ | constructor))) (place1_c σ d id) fun v hv=>⟨.a (.v (.int .i64 (cmpN d.id id))),trivial,hv.symm,?_⟩
    refine oj_run TT rfl ?_
    (repeat (first | refine oj_then ?_ | refine cj_ret ?_))
    refine nj_ret TT rfl fun β w' _ _=>?_
    refine ⟨p,?_,hp⟩
    have hb:decide (cmpN d.id id=0)=isAt ds id p:=by
      unfold isAt
      rw [hdp]
      show _=decide (d.id=id)
      rw [Bool.eq_iff_iff,decide_eq_true_eq,decide_eq_true_eq]
      unfold cmpN
      split
      · omega
      · split<;>omega
    show Value.tuple #[.int .i64 p,.bool (decide (cmpN d.id id=0))]=_
    rw [hb]
  · have h:decide ((p:Int)<ds.length)=false:=h
    have hpl:ds.length<=p:=by have:=of_decide_eq_false h;omega
    refine oj_run TT rfl ?_
    (repeat (first | refine oj_then ?_ | refine cj_ret ?_))
    refine nj_ret TT rfl fun β w' _ _=>?_
    refine ⟨p,?_,hp⟩
    unfold isAt
    rw [List.getElem?_eq_none hpl]
    rfl
end Go.Sy
