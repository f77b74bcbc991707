/- Parts of the proof of CEditsBack: Lq, SyU, SyX, F55, F57, F58, XCl. No conditions. -/
import Derived.Test.YtadnijcgohflhaaDoorM10
import Derived.Carry
import Derived.RowKit
import Derived.ChangeStays
import Derived.ChangeSame
import Derived.ReadAgain
import Derived.SizedLaws
import Derived.Deep.DeepHandedRow
/- Plain laws: what is taken away from a shred's records, and what is laid in its place. No program in sight. -/
namespace Go.Sy

theorem sub_kinds {gap : Int} {g : GVal} {p : Nat} {now : Int} {P : List GStep} {h : GVal} {q : Nat} {now' : Int} (hs : Sub gap g p now P h q now') : g.wf → kinds g → kinds h := by
  induction hs with
  | refl => exact fun _ h => h
  | @step g p now m x P h q now' hx hs ih => exact fun hw hd => ih (its_wf hw (List.mem_of_getElem? hx)) (its_kinds hw hd (List.mem_of_getElem? hx))

/-! ### Delete -/

/-- A record taken away, with what stands in it. -/
def deleteG (L : List GRec) (i : Int) : List GRec × Int :=
  if placeE L i ≠ 0 then ([], placeE L i) else if i = 0 then ([], 6) else (L.take i.toNat ++ L.drop (lastG L i.toNat + 1).toNat, 0)

structure DelOk (gap : Int) (g : GVal) (L : List GRec) (a : Nat) (P : List GStep) (h : GVal) (P' : List GStep) (hp : GVal) (m : Nat) (x : Itm) (g' : GVal) : Prop where
  eP : P = P' ++ [stepOf m x]
  ex : (its hp)[m]? = some x
  ev : x.v = h
  at_ : atV g P' = some hp
  hpw : hp.wf
  hpk : keysOk hp
  hpd : kinds hp
  swap : Swap g g' P' hp (delIt hp m)
  wf : g'.wf
  sane : Go.Sy.sane g' = 0
  last : lastG L a = a + cntV h - 1
  le : a + cntV h ≤ L.length
  res : LayV g' 0 false emptyS 0 (L.take a ++ L.drop (a + cntV h)) (wV gap g)

theorem delete_law {g : GVal} (hw : g.wf) (hk : keysOk g) (hd : kinds g) (hs : Go.Sy.sane g = 0) {gap : Int} (hg : 1 ≤ gap) {L : List GRec} (hL : L = (shredV gap g 0 false emptyS 0).1) {a : Nat} (ha : 0 < a)
    {P : List GStep} {h : GVal} {now : Int} (hsub : Sub gap g 0 0 P h a now) (hloc : Loc gap L h a now P) : ∃ P' hp m x g', DelOk gap g L a P h P' hp m x g' := by
  have hP : P ≠ [] := by
    intro hP
    subst hP
    generalize ha0 : (0 : Nat) = z at hsub
    cases hsub
    omega
  obtain ⟨P', hp, qp, nowp, m, x, e1, e2, e3, e4, e5, e6⟩ := hsub.parent hP
  have hwp := (sub_bd (by omega) e2 hw).1
  have hwd := delIt_wf hwp m
  obtain ⟨g', hsw, pre, post, nm', name', p1, p2, p3, -⟩ := swap_all (by omega) hw hk e2 hwd
  obtain ⟨s1, s2, s3, s4, s5⟩ := shred_half (gap := gap) hwp m P'.length nm' name' nowp
  have hdr : (its hp).drop m = x :: (its hp).drop (m + 1) := by
    rw [List.drop_eq_getElem_cons (List.getElem?_eq_some_iff.1 e3).1, (List.getElem?_eq_some_iff.1 e3).2]
  rw [hdr] at s1 s4 s5
  have hwx : x.v.wf := s4.1
  have hwr : GVal.wfs (valsI ((its hp).drop (m + 1))) := s4.2
  rw [shredI] at s1
  dsimp only at s1
  have hcx := shredV_cnt gap x.v ((P'.length : Int) + 1) x.nm x.name (nowp + gap + wI gap ((its hp).take m)) hwx
  have hAl := shredI_lay' (gap := gap) (by omega) s3 ((P'.length : Int) + 1) (nowp + gap)
  have hBl := shredI_lay' (gap := gap) (by omega) hwr ((P'.length : Int) + 1) (shredV gap x.v ((P'.length : Int) + 1) x.nm x.name (nowp + gap + wI gap ((its hp).take m))).2
  have hx2 := (shredV_sk gap x.v ((P'.length : Int) + 1) x.nm x.name (nowp + gap + wI gap ((its hp).take m)) hwx).2
  generalize (shredI gap ((its hp).take m) ((P'.length : Int) + 1) (nowp + gap)).1 = A at *
  generalize (shredV gap x.v ((P'.length : Int) + 1) x.nm x.name (nowp + gap + wI gap ((its hp).take m))).1 = X at *
  generalize (shredI gap ((its hp).drop (m + 1)) ((P'.length : Int) + 1) (shredV gap x.v ((P'.length : Int) + 1) x.nm x.name (nowp + gap + wI gap ((its hp).take m))).2).1 = B at *
  rw [hx2] at hBl
  have hwi : wI gap (x :: (its hp).drop (m + 1)) = wV gap x.v + wI gap ((its hp).drop (m + 1)) := rfl
  have hwpos := wV_pos (gap := gap) (by omega) x.v
  have hI : LayI (its (delIt hp m)) ((P'.length : Int) + 1) (nowp + gap) (A ++ B) (nowp + gap + wI gap ((its hp).take m) + wV gap x.v + wI gap ((its hp).drop (m + 1))) := by
    rw [its_del hwp, List.eraseIdx_eq_take_drop_succ]
    exact hAl.append (hBl.up (by omega) (Int.le_refl _))
  obtain ⟨k1, k2, k3, k4⟩ := delIt_kind hp m
  have hV := LayV.mk (nm := nm') (name := name') (lo := nowp) (en := nowp + wV gap hp) (by omega) hI (by omega) (Int.le_refl _)
  rw [k1, k2, k3, k4] at hV
  have hG := p3 _ hV
  have hLe : L = (pre ++ ⟨nowp + gap, nowp + wV gap hp, P'.length, hp.kind, nm', name', hp.b, hp.n, hp.s⟩ :: A) ++ (X ++ (B ++ post)) := by
    rw [hL, p1, s1]
    simp only [List.cons_append, List.append_assoc]
  have hal : (pre ++ ⟨nowp + gap, nowp + wV gap hp, P'.length, hp.kind, nm', name', hp.b, hp.n, hp.s⟩ :: A).length = a := by
    rw [List.length_append, List.length_cons, s2, ← p2, e5]
    omega
  have hLa : L.take a ++ L.drop (a + cntV h) = pre ++ (⟨nowp + gap, nowp + wV gap hp, P'.length, hp.kind, nm', name', hp.b, hp.n, hp.s⟩ :: (A ++ B) ++ post) := by
    have hXl : X.length = cntV h := by rw [hcx, e4]
    rw [← List.drop_drop, hLe, List.take_left' hal, List.drop_left' hal, List.drop_left' hXl]
    simp only [List.cons_append, List.append_assoc]
  have hle : a + cntV h ≤ L.length := by
    rw [hLe, List.length_append, hal, List.length_append, hcx, e4]
    omega
  have hok : okAtV g 0 ∧ cntV g ≤ 4096 := sane_iff.1 hs
  refine ⟨P', hp, m, x, g', e1, e3, e4, sub_at e2 hw hk hd, hwp, ?_, sub_kinds e2 hw hd, hsw, hsw.wf hw hwd, ?_, hloc.last (by omega), hle, by rw [hLa]; exact hG⟩
  · have : ∀ {g : GVal} {p : Nat} {now : Int} {P : List GStep} {h : GVal} {q : Nat} {now' : Int}, Sub gap g p now P h q now' → g.wf → keysOk g → keysOk h := by
      intro g p now P h q now' hs
      induction hs with
      | refl => exact fun _ h => h
      | @step g p now m x P h q now' hx hs ih => exact fun hw hd => ih (its_wf hw (List.mem_of_getElem? hx)) (its_keys hw hd (List.mem_of_getElem? hx))
    exact this e2 hw hk
  · rw [sane_iff]
    refine ⟨hsw.ok hok.1 (fun h => delIt_ok h), ?_⟩
    have h1 := hsw.cnt
    have h2 := cntI_its hwp
    have h3 := cntI_its hwd
    have h4 := cntI_del e3
    rw [← its_del hwp] at h4
    omega

/-! ### Replace -/

/-- The number of the n-th record's end that is laid into a record's place. -/
def repN (r : GRec) (m n : Int) : Int := if n = 2 * m - 1 then r.en else r.st + (r.en - r.st + 1).tdiv (2 * m) * n
/-- A value laid in a record's place. -/
def replaceG (L : List GRec) (i : Int) (g : GVal) : GRes :=
  if placeE L i ≠ 0 then ⟨[], 0, 0, placeE L i⟩ else if sane g ≠ 0 then ⟨[], 0, 0, sane g⟩ else
  match L[i.toNat]? with
  | none => ⟨[], 0, 0, 1⟩
  | some r => runG L i.toNat (lastG L i.toNat + 1).toNat (laidG g r (repN r (cntS g))) (r.en - r.st + 1)

structure RepOk (gap : Int) (g : GVal) (L : List GRec) (a : Nat) (x : GVal) (R : GRes) (P : List GStep) (h g' : GVal) : Prop where
  swap : Swap g g' P h x
  wf : g'.wf
  sane : Go.Sy.sane g' = 0
  laid : R.laid = cntV x
  last : lastG L a = a + cntV h - 1
  le : a + cntV h ≤ L.length
  res : (enAt L a - stAt L a + 1 < 2 * (cntV x : Int) ∧ R.moved = (L.length : Int) - cntV h ∧ R.l = (shredV 8 g' 0 false emptyS 0).1) ∨
    (2 * (cntV x : Int) ≤ enAt L a - stAt L a + 1 ∧ R.moved = 0 ∧ LayV g' 0 false emptyS 0 R.l (wV gap g) ∧ ∃ M : List GRec, M.length = cntV x ∧ R.l = L.take a ++ (M ++ L.drop (a + cntV h)) ∧ stAt R.l a = stAt L a ∧ enAt R.l a = enAt L a)

theorem replace_law {g : GVal} (hw : g.wf) (hk : keysOk g) {gap : Int} (hg : 1 ≤ gap) {L : List GRec} (hL : L = (shredV gap g 0 false emptyS 0).1) (hsnd : soundG L = true) {a : Nat} (ha : a < L.length) {x : GVal} (hx : x.wf)
    {P : List GStep} {h : GVal} {now : Int} (hsub : Sub gap g 0 0 P h a now) (hloc : Loc gap L h a now P) :
    ((replaceG L a x).e ≠ 0 → (replaceG L a x).l = []) ∧ ((replaceG L a x).e = 0 → ∃ g', RepOk gap g L a x (replaceG L a x) P h g') := by
  have hpl : placeE L a = 0 := sound_place hsnd ha
  have hwh := hloc.wf
  obtain ⟨g', hsw, pre, post, nm', name', p1, p2, p3, p4⟩ := swap_all (by omega) hw hk hsub hx
  have hlast := hloc.last (by omega)
  have hcl := shredV_cnt gap h P.length nm' name' now hwh
  have hLe : L = pre ++ ((shredV gap h P.length nm' name' now).1 ++ post) := by rw [hL, p1]
  have hle : a + cntV h ≤ L.length := by
    rw [hLe, List.length_append, List.length_append, hcl, p2]
    omega
  have hrec : L[a]? = some ⟨now + gap, now + wV gap h, P.length, h.kind, nm', name', h.b, h.n, h.s⟩ := by
    rw [hLe, List.getElem?_append_right (by omega), p2, Nat.sub_self, shredV_its _ _ _ _ _ _ hwh]
    rfl
  have hst := st_at hrec
  have hen := en_at hrec
  have hRg : replaceG L a x = if sane x ≠ 0 then ⟨[], 0, 0, sane x⟩ else runG L a (a + cntV h) (laidG x ⟨now + gap, now + wV gap h, P.length, h.kind, nm', name', h.b, h.n, h.s⟩ (repN ⟨now + gap, now + wV gap h, P.length, h.kind, nm', name', h.b, h.n, h.s⟩ (cntS x))) (now + wV gap h - (now + gap) + 1) := by
    unfold replaceG
    rw [if_neg (by rw [hpl]; decide), Int.toNat_natCast, hrec, hlast]
    dsimp only
    rw [show ((a : Int) + cntV h - 1 + 1).toNat = a + cntV h by omega]
  generalize replaceG L a x = R at *
  by_cases hsx : sane x ≠ 0
  · rw [if_pos hsx] at hRg
    rw [hRg]
    exact ⟨fun _ => rfl, fun h0 => absurd h0 hsx⟩
  rw [if_neg hsx] at hRg
  have hel := laid_er hx ⟨now + gap, now + wV gap h, P.length, h.kind, nm', name', h.b, h.n, h.s⟩ (repN ⟨now + gap, now + wV gap h, P.length, h.kind, nm', name', h.b, h.n, h.s⟩ (cntS x)) 1 0
  have hll := laid_len hx ⟨now + gap, now + wV gap h, P.length, h.kind, nm', name', h.b, h.n, h.s⟩ (repN ⟨now + gap, now + wV gap h, P.length, h.kind, nm', name', h.b, h.n, h.s⟩ (cntS x))
  have hwpos := wV_pos (gap := gap) (by omega) h
  have hwe := wI_its (gap := gap) hwh
  have hwn := wI_nn (gap := gap) (by omega) (its h)
  have hcx := cntV_pos x
  have hcs := cntS_eq hx
  -- how it lies, if there is room
  have hlay : 2 * (cntV x : Int) ≤ now + wV gap h - (now + gap) + 1 → LayV x P.length nm' name' now (laidG x ⟨now + gap, now + wV gap h, P.length, h.kind, nm', name', h.b, h.n, h.s⟩ (repN ⟨now + gap, now + wV gap h, P.length, h.kind, nm', name', h.b, h.n, h.s⟩ (cntS x))) (now + wV gap h) := by
    intro hroom
    rw [hcs]
    have hstep : 1 ≤ (now + wV gap h - (now + gap) + 1).tdiv (2 * (cntV x : Int)) ∧ (now + wV gap h - (now + gap) + 1).tdiv (2 * (cntV x : Int)) * (2 * (cntV x : Int)) ≤ now + wV gap h - (now + gap) + 1 := by
      rw [Int.tdiv_eq_ediv_of_nonneg (by omega)]
      exact ⟨Int.le_ediv_of_mul_le (by omega) (by omega), Int.ediv_mul_le _ (by omega)⟩
    generalize hS : (now + wV gap h - (now + gap) + 1).tdiv (2 * (cntV x : Int)) = S at hstep
    have hφ : Incr fun n => if n ≤ 0 then now + n else if n < 2 * (cntV x : Int) then now + gap + S * (n - 1) else now + wV gap h + (n - 2 * (cntV x : Int)) := by
      intro u v hu huv
      dsimp only
      rw [if_neg (show ¬ v ≤ 0 by omega)]
      by_cases hv : v < 2 * (cntV x : Int)
      · rw [if_pos hv]
        by_cases hu0 : u ≤ 0
        · rw [if_pos hu0]
          have : 0 ≤ S * (v - 1) := Int.mul_nonneg (by omega) (by omega)
          omega
        · rw [if_neg hu0, if_pos (by omega)]
          have : S * (u - 1) < S * (v - 1) := Int.mul_lt_mul_of_pos_left (by omega) (by omega)
          omega
      · rw [if_neg hv]
        by_cases hu0 : u ≤ 0
        · rw [if_pos hu0]
          omega
        · rw [if_neg hu0]
          by_cases hu2 : u < 2 * (cntV x : Int)
          · rw [if_pos hu2]
            have h1 : S * (u - 1) ≤ S * (2 * (cntV x : Int) - 2) := Int.mul_le_mul_of_nonneg_left (by omega) (by omega)
            have h2 : S * (2 * (cntV x : Int) - 2) = S * (2 * (cntV x : Int)) - S * 2 := Int.mul_sub ..
            omega
          · rw [if_neg hu2]
            omega
    have h0 := laid_lay hx ⟨now + gap, now + wV gap h, P.length, h.kind, nm', name', h.b, h.n, h.s⟩ (repN ⟨now + gap, now + wV gap h, P.length, h.kind, nm', name', h.b, h.n, h.s⟩ (cntV x : Int)) _ hφ (fun n h1 h2 => by
      unfold repN
      dsimp only
      rw [if_neg (show ¬ n ≤ 0 by omega)]
      by_cases hn : n = 2 * (cntV x : Int)
      · rw [if_pos (by omega), if_neg (by omega)]
        omega
      · rw [if_neg (by omega), if_pos (by omega), hS])
    dsimp only at h0
    rw [if_pos (Int.le_refl 0), if_neg (show ¬ 2 * (cntV x : Int) ≤ 0 by omega), if_neg (show ¬ 2 * (cntV x : Int) < 2 * (cntV x : Int) by omega)] at h0
    exact h0.up (by omega) (by omega)
  -- its first record
  have hhead : ∃ (q : GRec) (M' : List GRec), laidG x ⟨now + gap, now + wV gap h, P.length, h.kind, nm', name', h.b, h.n, h.s⟩ (repN ⟨now + gap, now + wV gap h, P.length, h.kind, nm', name', h.b, h.n, h.s⟩ (cntS x)) = q :: M' ∧ q.st = now + gap ∧ q.en = now + wV gap h := by
    rw [hcs]
    unfold laidG
    rw [shredV_its 1 x 0 false emptyS 0 hx, List.map_cons]
    refine ⟨_, _, rfl, ?_, ?_⟩
    · show repN _ (cntV x : Int) (0 + 1 - 1) = now + gap
      unfold repN
      dsimp only
      rw [if_neg (by omega), show (0 : Int) + 1 - 1 = 0 by omega, Int.mul_zero, Int.add_zero]
    · show repN _ (cntV x : Int) (0 + wV 1 x - 1) = now + wV gap h
      unfold repN
      rw [wV1 hx, if_pos (by omega)]
  generalize laidG x ⟨now + gap, now + wV gap h, P.length, h.kind, nm', name', h.b, h.n, h.s⟩ (repN ⟨now + gap, now + wV gap h, P.length, h.kind, nm', name', h.b, h.n, h.s⟩ (cntS x)) = M at *
  have hel : M.map er = (shredV 1 x P.length nm' name' 0).1.map er := hel
  have hsp : spliced L a (a + cntV h) M = pre ++ (M ++ post) := by
    unfold spliced
    have e : L = pre ++ ((shredV gap h P.length nm' name' now).1 ++ post) := hLe
    rw [← List.drop_drop, e, List.take_left' p2.symm, List.drop_left' p2.symm, List.drop_left' hcl]
  have her : (spliced L a (a + cntV h) M).map er = (shredV 1 g' 0 false emptyS 0).1.map er := by
    rw [hsp]
    exact p4 M hel
  have hwg' := hsw.wf hw hx
  have hanew : anewG (spliced L a (a + cntV h) M) = shredG g' 8 := by
    unfold anewG
    rw [tree_renum hwg' her]
  unfold runG at hRg
  rw [hanew] at hRg
  by_cases hsg : sane g' ≠ 0
  · have : (shredG g' 8).2 = sane g' := by unfold shredG; rw [if_neg (by omega), if_pos hsg]
    rw [this, if_pos hsg] at hRg
    rw [hRg]
    exact ⟨fun _ => rfl, fun h0 => absurd h0 hsg⟩
  have hsg : sane g' = 0 := by omega
  rw [shredG_ok (by omega) (by omega) hsg] at hRg
  dsimp only at hRg
  rw [if_neg (by decide), hll] at hRg
  by_cases hc : now + wV gap h - (now + gap) + 1 < 2 * (cntV x : Int)
  · rw [if_pos hc] at hRg
    rw [hRg]
    refine ⟨fun h0 => absurd rfl h0, fun _ => ⟨g', hsw, hwg', hsg, rfl, hlast, hle, .inl ⟨by rw [hst, hen]; exact hc, ?_, rfl⟩⟩⟩
    dsimp only
    omega
  rw [if_neg hc] at hRg
  rw [hRg]
  refine ⟨fun h0 => absurd rfl h0, fun _ => ⟨g', hsw, hwg', hsg, rfl, hlast, hle, .inr ⟨by rw [hst, hen]; show 2 * (cntV x : Int) ≤ now + wV gap h - (now + gap) + 1; omega, rfl, ?_⟩⟩⟩
  have hG := p3 M (hlay (by omega))
  rw [← hsp] at hG
  obtain ⟨q, M', hq1, hq2, hq3⟩ := hhead
  have hqa : (spliced L a (a + cntV h) M)[a]? = some q := by
    rw [hsp, List.getElem?_append_right (by omega), p2, Nat.sub_self, hq1]
    rfl
  refine ⟨hG, M, hll, rfl, ?_, ?_⟩
  · rw [st_at hqa, hst]
    exact hq2
  · rw [en_at hqa, hen]
    exact hq3
end Go.Sy
/- Regions whose orders fork: of two operations that change the world, either may come first, and both ways are gone. No program in sight. -/
namespace Go.Sy

/-- THE JUDGEMENT INSIDE A REGION: these are listed, n are to come. -/
structure GJ (cf : Cf) (ops : Array Oper) (U bef : List Nat) (n : Nat) (listed : Array Bool) (fst : Bool) (Q : Exit → Act → World → Prop) (σ : Snap) (env : Env) (hp : HP) (A : List AE) (nh : Nat) : Prop where
  run : Region.noSelect ops = true → Bd env hp nh → ∀ a β, StA cf env β a → (∃ w, StW cf σ hp A β w) → Closed ops listed → ∀ E0 : World → Prop, (∀ x, StW cf σ hp A β x → E0 x) →
    (fst = true → ∀ x, E0 x → StW cf σ hp A β x) → wpAnyC cf.P ops U Q n listed a E0 (fun w => StW cf σ hp A β w)
/-- The same, j being next. -/
structure GK (cf : Cf) (ops : Array Oper) (U bef : List Nat) (n : Nat) (listed : Array Bool) (j : Nat) (Q : Exit → Act → World → Prop) (σ : Snap) (env : Env) (hp : HP) (A : List AE) (nh : Nat) : Prop where
  run : Region.noSelect ops = true → Bd env hp nh → ∀ a β, StA cf env β a → (∃ w, StW cf σ hp A β w) → Closed ops listed → j ∈ Region.ready .any ops listed → ∀ E0 : World → Prop, (∀ x, StW cf σ hp A β x → E0 x) →
    stepC cf.P ops U Q j (wpAnyC cf.P ops U Q n (listed.setIfInBounds j true)) a E0 (fun w => StW cf σ hp A β w)

section
variable {cf : Cf} {Q : Exit → Act → World → Prop} {σ : Snap} {env : Env} {hp : HP} {A : List AE} {nh : Nat} {ops : Array Oper} {U bef : List Nat} {n : Nat} {listed : Array Bool} {fst : Bool}

theorem cj_drawG {id : Nat} (m : Nat) (U : List Nat) (hm : cf.P.follows .mixedOrders = true) (hs : Region.noSelect ops = true) (hn : ops.size = m)
    (h : GJ cf ops U [] m (Array.replicate m false) true Q σ env hp A nh) (hd : okRd cf.rd ops = true := by rfl) : CJ cf (.region id ops true) Q σ env hp A nh := by
  subst hn
  refine ⟨fun hb a β w ha hw => wpIn_region_any hm ?_⟩
  have hc : Closed ops (Array.replicate ops.size false) := ⟨by simp, fun j oj _ hl => by
    exfalso
    rcases Nat.lt_or_ge j ops.size with h | h
    · simp [h] at hl
    · simp [h] at hl⟩
  exact wpAnyIn_of_C (okRd_mem hd) _ _ _ _ _ _ hw.drew (h.run hs hb a β ha ⟨_, hw⟩ hc _ (fun _ h => h) (fun _ _ h => h))

/-- One value, told. -/
theorem gj_valT {i d : Nat} {o : Oper} (y : SV) (hi : ops[i]? = some o) (hr : (Region.ready .any ops listed).contains i = true) (hf : Region.free .any ops listed i = true) (hk : (U.contains i || fst) = true)
    (hd : o.dst = some d) (hg : guardVal (slotOf ops o) env = some true) (hN : Nat.blt d cf.N = true) (hlt : y.lt nh)
    (hrun : Bd env hp nh → ∀ a β, StA cf env β a → ∀ w, (U.contains i = false → StW cf σ hp A β w) → (execOp a.eval o).run cf.P w = .ok (.value (y.den β)) w)
    (k : GJ cf ops U (bef ++ [i]) n (listed.setIfInBounds i true) fst Q σ ((d, y) :: env) hp A nh) : GJ cf ops U bef (n + 1) listed fst Q σ env hp A nh := by
  refine ⟨fun hs hb a β ha hex hc E0 hE hF => ?_⟩
  have hN' : d < cf.N := by simpa [Nat.blt_eq] using hN
  have hr' : i ∈ Region.ready .any ops listed := by simpa using hr
  have hw : Region.wanted o (yielded ops a.tmps) = true := by rw [← wantedS_slotOf]; exact guardVal_ok ha hg
  have hrest := k.run hs (hb.put hlt d) _ β (ha.put hN' y) hex (hc.set hr') E0 hE hF
  refine wpAnyC_first hi (Region.noSelect_spec hs) n listed a E0 _ hc hE (Region.free_spec hi hf) hr' ⟨.inl ⟨hw, fun w hE0 => .inl ?_⟩, fun hu => .inl ⟨hw, fun w _ => .inl ?_⟩⟩ (by rw [hd]; exact hrest)
  · refine hrun hb a β ha w fun hu => ?_
    rw [hu, Bool.false_or] at hk
    exact hF hk w hE0
  · exact hrun hb a β ha w fun hu' => absurd (List.contains_iff_mem.2 hu) (by rw [hu']; simp)

/-- One value, reckoned. -/
theorem gj_val {i d : Nat} {o : Oper} {T : List (Nat × TI)} (hT : TTok cf.P T) {x : SV} (hi : ops[i]? = some o) (hr : (Region.ready .any ops listed).contains i = true) (hf : Region.free .any ops listed i = true)
    (hk : (bif U.contains i then !isLoad o.op else fst) = true) (hd : o.dst = some d) (hg : guardVal (slotOf ops o) env = some true) (hN : Nat.blt d cf.N = true) (h : stepOp T o.op env hp nh = some (.val x))
    (k : GJ cf ops U (bef ++ [i]) n (listed.setIfInBounds i true) fst Q σ ((d, x) :: env) hp A nh) : GJ cf ops U bef (n + 1) listed fst Q σ env hp A nh := by
  refine ⟨fun hs hb a β ha hex hc E0 hE hF => ?_⟩
  have hx : x.lt nh := (step_ok (o := o) hT ha hb h).1
  refine (gj_valT x hi hr hf ?_ hd hg hN hx (fun hb a β ha w hw => ?_) k).run hs hb a β ha hex hc E0 hE hF
  · cases hu : U.contains i <;> rw [hu] at hk
    · simpa using hk
    · rfl
  · refine (step_ok (o := o) hT ha hb h).2 w fun hl => ⟨σ, A, hw ?_⟩
    cases hu : U.contains i with
    | false => rfl
    | true => rw [hu, cond_true, hl] at hk; cases hk

/-- All that may come next. -/
theorem gj_fork (js : List Nat) (hr : (Region.ready .any ops listed == js) = true) (hne : js.isEmpty = false) (k : ∀ j, j ∈ js → GK cf ops U bef n listed j Q σ env hp A nh) : GJ cf ops U bef (n + 1) listed fst Q σ env hp A nh := by
  refine ⟨fun hs hb a β ha hex hc E0 hE hF => ?_⟩
  have hr' := eq_of_beq hr
  refine ⟨fun h0 => ?_, fun j hj => (k j (by rw [← hr']; exact hj)).run hs hb a β ha hex hc hj E0 hE⟩
  rw [hr'] at h0
  subst h0
  cases hne
theorem gj_two {i j : Nat} (hr : (Region.ready .any ops listed == [i, j]) = true) (ki : GK cf ops U bef n listed i Q σ env hp A nh) (kj : GK cf ops U bef n listed j Q σ env hp A nh) : GJ cf ops U bef (n + 1) listed fst Q σ env hp A nh :=
  gj_fork [i, j] hr rfl fun m hm => by
    simp only [List.mem_cons, List.not_mem_nil, or_false] at hm
    rcases hm with rfl | rfl
    · exact ki
    · exact kj

/-- A call of a function that changes nothing. -/
theorem gk_call {j d : Nat} {o : Oper} {f : FuncId} {ys : List SV} {Φ : Value → Snap → Prop} (hj : ops[j]? = some o) (hc : callee env o.op = some (f, ys)) (hd : o.dst = some d) (hg : guardVal (slotOf ops o) env = some true)
    (hN : Nat.blt d cf.N = true) (hcall : ∀ args w, (callFunc f args).run cf.P w = .ok (.enter f args) w) (hlt : LtAll ys) (hC : PureS cf.P f ys σ Φ)
    (k : ∀ v σ', σ.le σ' → Φ v σ' → ∃ y : SV, y.lt 0 ∧ y.den β0 = v ∧ GJ cf ops U (bef ++ [j]) n (listed.setIfInBounds j true) false Q σ' ((d, y) :: env) hp A nh) : GK cf ops U bef n listed j Q σ env hp A nh := by
  refine ⟨fun hs hb a β ha hex hcl hr E0 hE => ?_⟩
  have hN' : d < cf.N := by simpa [Nat.blt_eq] using hN
  have den0 : ∀ {y : SV}, y.lt 0 → y.den β = y.den β0 := fun hy => SV.den_congr (n := 0) (fun i hi => by omega) hy
  have hargs : (ys.map (SV.den β)).toArray = (ys.map (SV.den β0)).toArray := by
    rw [List.map_congr_left fun y hy => den0 (hlt.of y hy)]
  have hwant : Region.wanted o (yielded ops a.tmps) = true := by rw [← wantedS_slotOf]; exact guardVal_ok ha hg
  unfold stepC
  simp only [hj]
  rw [if_pos hwant]
  intro w hw
  unfold Oper.wq
  rw [callee_ok ha hc hcall]
  simp only [Oper.uponIn]
  rw [hargs]
  refine ⟨fun h => (by cases h), CallsIn.mono (callsIn_FR.2 (hC w hw.sealed)) fun e w' ⟨v, σ', he, h1, h2, h3, h4⟩ => ?_⟩
  subst he
  have hw' := hw.after h1 h2 h3
  have hσ : ∀ {b}, σ' b = none → σ b = none := fun hb => Snap.none_of_le h2.le hb
  have hsub : ∀ x, StW cf σ' hp A β x → StW cf σ hp A β x := by
    intro x hx
    refine ⟨hx.os, hx.tape, hx.output, hx.size, hx.fr, fun b o hb => hx.sealed b o (h2.le b o hb), hw.le, hw.grow, fun i e cs hi => ?_, hw.ro, hx.inj, fun i E hE => (hx.arr i E hE).weak hσ, hx.arrd, hx.arrh⟩
    obtain ⟨q1, q2, q3, q4⟩ := hx.loc i e cs hi
    exact ⟨q1, q2, hσ q3, q4⟩
  obtain ⟨y, hy, hyv, hk⟩ := k v σ' h2.le h4
  refine ⟨E0, _, hw', fun x hx => hE x (hsub x hx), .inl fun _ h => h, ?_⟩
  have := hk.run hs (hb.put (SV.lt_mono (Nat.zero_le _) hy) d) (a.put (some d) (y.den β)) β (ha.put hN' y) ⟨_, hw'⟩ (hcl.set hr) E0 (fun x hx => hE x (hsub x hx)) (fun h => by cases h)
  rw [hd, ← hyv, ← den0 hy]
  exact this
theorem gk_callP {j d : Nat} {o : Oper} {f : FuncId} {ys : List SV} {Φ : Value → Prop} (hj : ops[j]? = some o) (hc : callee env o.op = some (f, ys)) (hd : o.dst = some d) (hg : guardVal (slotOf ops o) env = some true)
    (hN : Nat.blt d cf.N = true) (hcall : ∀ args w, (callFunc f args).run cf.P w = .ok (.enter f args) w) (hlt : LtAll ys) (hC : PlainS cf.P f ys σ Φ)
    (k : ∀ v, Φ v → ∃ y : SV, y.lt 0 ∧ y.den β0 = v ∧ GJ cf ops U (bef ++ [j]) n (listed.setIfInBounds j true) false Q σ ((d, y) :: env) hp A nh) : GK cf ops U bef n listed j Q σ env hp A nh := by
  refine gk_call (Φ := fun v σ' => Φ v ∧ σ' = σ) hj hc hd hg hN hcall hlt ?_ fun v σ' _ ⟨hv, he⟩ => by subst he; exact k v hv
  intro w hs
  exact Calls.mono (hC w hs) fun e w' ⟨v, σ', he, h1, h2, h3, h4⟩ => ⟨v, σ, he, h1, ⟨Snap.le_refl σ, fun b hb => .inl hb⟩, fun b o hb => h3 b o (h2.le b o hb), h4, rfl⟩

/-- A new row. -/
theorem gk_new {j d : Nat} {o : Oper} {T : List (Nat × TI)} (hT : TTok cf.P T) {e : TypeId} {cs : List AT} {x : AT} (hj : ops[j]? = some o) (h : stepOp T o.op env hp nh = some (.new e cs x)) (hd : o.dst = some d) (hg : guardVal (slotOf ops o) env = some true)
    (hN : Nat.blt d cf.N = true) (k : GJ cf ops U (bef ++ [j]) n (listed.setIfInBounds j true) false Q σ ((d, .a x) :: env) ((nh, .loc e, cs) :: hp) A (nh + 1)) : GK cf ops U bef n listed j Q σ env hp A nh := by
  refine ⟨fun hs hb a β ha hex hcl hr E0 hE => ?_⟩
  have hN' : d < cf.N := by simpa [Nat.blt_eq] using hN
  have hwant : Region.wanted o (yielded ops a.tmps) = true := by rw [← wantedS_slotOf]; exact guardVal_ok ha hg
  obtain ⟨hcs, hx, hrun⟩ := step_ok (o := o) hT ha hb h
  have hxl : (SV.a x).lt (nh + 1) := by
    rcases hx with rfl | ⟨n, rfl⟩ <;> exact Nat.lt_succ_self nh
  unfold stepC
  simp only [hj]
  rw [if_pos hwant]
  intro w hw
  unfold Oper.wq
  rw [hrun w]
  have hw' := hw.alloc (e := e) hb hcs
  have hβ := upd_old β nh w
  have hg2 : ∀ {i k l}, hp.get i = some (k, l) → HP.get ((nh, HK.loc e, cs) :: hp) i = some (k, l) := by
    intro i k l hi
    have hlt := (hb.hp i k l hi).1
    rw [HP.get_cons, if_neg (by omega)]
    exact hi
  have keepS : ∀ w', StW cf σ ((nh, .loc e, cs) :: hp) A (upd β nh w) w' → StW cf σ hp A β w' := by
    intro w' s
    refine ⟨s.os, s.tape, s.output, s.size, s.fr, s.sealed, s.le, s.grow, fun i e' l hi => ?_, fun i l hi j c hc => ?_, fun i j e1 e2 l1 l2 hi hj heq => ?_, s.arr, s.arrd, fun i j E e' l hE hj => ?_⟩
    · obtain ⟨hlt, hl⟩ := hb.hp i _ l hi
      have := s.loc i e' l (hg2 hi)
      rw [hβ i hlt, AT.denL_congr hβ hl] at this
      exact this
    · obtain ⟨hlt, hl⟩ := hb.hp i _ l hi
      have := s.ro i l (hg2 hi) j c hc
      rw [hβ i hlt, AT.den_congr hβ (hl c (List.mem_of_getElem? hc))] at this
      exact this
    · have h1 := (hb.hp i _ l1 hi).1
      have h2 := (hb.hp j _ l2 hj).1
      exact s.inj i j e1 e2 l1 l2 (hg2 hi) (hg2 hj) (by rw [hβ i h1, hβ j h2]; exact heq)
    · have h1 := (hb.hp j _ l hj).1
      have := s.arrh i j E e' l hE (hg2 hj)
      rw [hβ j h1] at this
      exact this
  refine ⟨E0, _, hw', fun x hx => hE x (keepS x hx), .inl fun _ h => h, ?_⟩
  rw [hd]
  exact k.run hs ((hb.mono (Nat.le_succ nh)).row (Nat.lt_succ_self nh) (fun c hc => AT.lt_mono (Nat.le_succ nh) (hcs c hc)) |>.put hxl d) _ (upd β nh w) ((ha.congr hb hβ).put hN' (.a x)) ⟨_, hw'⟩ (hcl.set hr) E0 (fun x hx => hE x (keepS x hx)) (fun h => by cases h)

/-- The rest, in one order. -/
theorem gj_order (l : List (Nat × Tag)) (hl : (l.all fun p => decide (p.1 < ops.size)) = true) (hq : noQuiet (itemsOf ops l) = true) (ho : orderFrom ops U bef l listed = true) (h : OJ cf (itemsOf ops l) Q σ env hp A nh) :
    GJ cf ops U bef l.length listed fst Q σ env hp A nh := by
  refine ⟨fun hs hb a β ha hex hc E0 hE _ => ?_⟩
  have := run_wider hE _ _ a hq (h.run hb a β ha hex)
  exact run_order hs l bef listed a E0 _ hc hE (fun p hp => by simpa using List.all_eq_true.1 hl p hp) ho this

theorem gj_arith {i d : Nat} {o : Oper} {op : BinOp} {x y : Operand} {xt yt : TypeId} {kk : IntKind} {m k' : Int} (r : Int) (hop : o.op = .binOp op xt x y yt) (hi : ops[i]? = some o) (hr : (Region.ready .any ops listed).contains i = true) (hf : Region.free .any ops listed i = true) (hk : (U.contains i || fst) = true)
    (hd : o.dst = some d) (hg : guardVal (slotOf ops o) env = some true) (hN : Nat.blt d cf.N = true) (hx : evalO env x = some (.a (.v (.int kk m)))) (hy : evalO env y = some (.a (.v (.int kk k'))))
    (hrun : ∀ w P, (binOp op xt (.int kk m) (.int kk k')).run P w = .ok (.int kk r) w)
    (k : GJ cf ops U (bef ++ [i]) n (listed.setIfInBounds i true) fst Q σ ((d, .a (.v (.int kk r))) :: env) hp A nh) : GJ cf ops U bef (n + 1) listed fst Q σ env hp A nh := by
  refine gj_valT (.a (.v (.int kk r))) hi hr hf hk hd hg hN trivial (fun _ a β ha w _ => ?_) k
  have h1 : a.eval x = .int kk m := evalO_eval ha hx
  have h2 : a.eval y = .int kk k' := evalO_eval ha hy
  simp only [execOp, hop, h1, h2, eqGuard_at_int, Sem.run_bind, Sem.run_pure, Result.andThen_ok, hrun]
  rfl
theorem gj_add {i d : Nat} {o : Oper} {x y : Operand} {xt yt : TypeId} {m k' : Int} (hop : o.op = .binOp .add xt x y yt) (hi : ops[i]? = some o) (hr : (Region.ready .any ops listed).contains i = true) (hf : Region.free .any ops listed i = true) (hk : (U.contains i || fst) = true)
    (hd : o.dst = some d) (hg : guardVal (slotOf ops o) env = some true) (hN : Nat.blt d cf.N = true) (hx : evalO env x = some (.a (.v (.int .i64 m)))) (hy : evalO env y = some (.a (.v (.int .i64 k')))) (hb : -9223372036854775808 ≤ m + k' ∧ m + k' ≤ 9223372036854775807)
    (k : GJ cf ops U (bef ++ [i]) n (listed.setIfInBounds i true) fst Q σ ((d, .a (.v (.int .i64 (m + k')))) :: env) hp A nh) : GJ cf ops U bef (n + 1) listed fst Q σ env hp A nh :=
  gj_arith _ hop hi hr hf hk hd hg hN hx hy (run_add (IntWalk.i64_in _ hb)) k
theorem gj_minus {i d : Nat} {o : Oper} {x y : Operand} {xt yt : TypeId} {m k' : Int} (hop : o.op = .binOp .sub xt x y yt) (hi : ops[i]? = some o) (hr : (Region.ready .any ops listed).contains i = true) (hf : Region.free .any ops listed i = true) (hk : (U.contains i || fst) = true)
    (hd : o.dst = some d) (hg : guardVal (slotOf ops o) env = some true) (hN : Nat.blt d cf.N = true) (hx : evalO env x = some (.a (.v (.int .i64 m)))) (hy : evalO env y = some (.a (.v (.int .i64 k')))) (hb : -9223372036854775808 ≤ m - k' ∧ m - k' ≤ 9223372036854775807)
    (k : GJ cf ops U (bef ++ [i]) n (listed.setIfInBounds i true) fst Q σ ((d, .a (.v (.int .i64 (m - k')))) :: env) hp A nh) : GJ cf ops U bef (n + 1) listed fst Q σ env hp A nh :=
  gj_arith _ hop hi hr hf hk hd hg hN hx hy (run_sub (IntWalk.i64_in _ hb)) k
theorem gj_slice {i d : Nat} {o : Oper} {x : Operand} {lo hi' : Option Operand} {vl vh : Option Value} {t e : TypeId} {T : List (Nat × TI)} (hT : TTok cf.P T) {ti te : TI} {ao : Option Addr} {m cap : Nat} (l h : Nat) (hop : o.op = .slice t x lo hi' none) (hi : ops[i]? = some o) (hr : (Region.ready .any ops listed).contains i = true) (hf : Region.free .any ops listed i = true) (hk : (U.contains i || fst) = true)
    (hd : o.dst = some d) (hg : guardVal (slotOf ops o) env = some true) (hN : Nat.blt d cf.N = true) (hx : evalO env x = some (.a (.v (.slice ao m cap)))) (hlo : optV env lo = some vl) (hhi : optV env hi' = some vh)
    (ht : tget T t = some ti) (hkd : ti.kind = .slice e) (hte : tget T e = some te) (hl' : vl = none ∧ l = 0 ∨ ∃ k m, vl = some (.int k m) ∧ m = (l : Int)) (hh' : vh = none ∧ h = m ∨ ∃ k m, vh = some (.int k m) ∧ m = (h : Int)) (hlh : l ≤ h) (hhc : h ≤ cap) (hnc : m ≤ cap)
    (k : GJ cf ops U (bef ++ [i]) n (listed.setIfInBounds i true) fst Q σ ((d, .a (.v (.slice (if cap = l then ao else ao.map (·.add (l * te.size))) (h - l) (cap - l)))) :: env) hp A nh) : GJ cf ops U bef (n + 1) listed fst Q σ env hp A nh := by
  refine gj_valT (.a (.v (.slice (if cap = l then ao else ao.map (·.add (l * te.size))) (h - l) (cap - l)))) hi hr hf hk hd hg hN trivial (fun _ a β ha w _ => ?_) k
  obtain ⟨i2, d2, z2, hs2⟩ := tiOf_spec (hT _ _ ht)
  obtain ⟨i3, d3, z3, hs3⟩ := tiOf_spec (hT _ _ hte)
  have h1 := hs2.kind
  have hun : cf.P.underlying t = some (.slice e) := by
    rw [hkd] at h1
    have h2 := hs2.und
    cases d2 <;> first
      | (simp only [kindD, TK.slice.injEq] at h1; subst h1; exact h2)
      | (simp only [kindD] at h1; cases h1)
  have h2 : a.eval x = .slice ao m cap := evalO_eval ha hx
  simp only [execOp, hop, h2, optV_ok ha hlo, optV_ok ha hhi, Option.map_none, Instr.sliceAt, Instr.slice, Sem.run_bind, run_underlying hun, Result.andThen_ok, run_sliceBounds hl' hh' hlh hhc hnc, run_size hs3.info, hs3.size, Sem.run_pure]
  rfl
end
end Go.Sy
/- What 'slices.Delete' does with a call's own array: a piece moved to the front, the rest cleared. No program in sight. -/
namespace Go.Sy

section
variable {cf : Cf} {Q : Exit → Act → World → Prop} {σ : Snap} {env : Env} {hp : HP} {A : List AE} {nh : Nat} {it : Item} {rest : List Item}

theorem run_sliceBounds3 {len cap l h m : Nat} {k1 k2 k3 : IntKind} (hl : l ≤ h) (hh : h ≤ m) (hm : m ≤ cap) (P : Program) (w : World) :
    (Instr.sliceBounds true len cap (some (.int k1 (l : Int))) (some (.int k2 (h : Int))) (some (.int k3 (m : Int)))).run P w = .ok (l, h, m) w := by
  simp [Instr.sliceBounds, Instr.sliceBound, asIntOf, hh, hl, hm]

/-- A slice with three bounds. -/
theorem oj_slice3 {d : Nat} {x lo hi mx : Operand} {k1 k2 k3 : IntKind} {i1 i2 i3 : Int} {t e : TypeId} {T : List (Nat × TI)} (hT : TTok cf.P T) {ti te : TI} {ao : Option Addr} {n cap : Nat} (l h m : Nat) (hop : it.o.op = .slice t x (some lo) (some hi) (some mx)) (hd : it.o.dst = some d)
    (hg : guardVal it.guard env = some true) (hN : Nat.blt d cf.N = true) (hx : evalO env x = some (.a (.v (.slice ao n cap)))) (hlo : evalO env lo = some (.a (.v (.int k1 i1)))) (hhi : evalO env hi = some (.a (.v (.int k2 i2)))) (hmx : evalO env mx = some (.a (.v (.int k3 i3))))
    (ht : tget T t = some ti) (hkd : ti.kind = .slice e) (hte : tget T e = some te) (e1 : i1 = (l : Int)) (e2 : i2 = (h : Int)) (e3 : i3 = (m : Int)) (hlh : l ≤ h) (hhm : h ≤ m) (hmc : m ≤ cap)
    (k : OJ cf rest Q σ ((d, .a (.v (.slice (if m = l then ao else ao.map (·.add (l * te.size))) (h - l) (m - l)))) :: env) hp A nh) : OJ cf (it :: rest) Q σ env hp A nh := by
  subst e1 e2 e3
  refine oj_val _ hd hg hN (by trivial) (fun _ a β ha w => ?_) k
  obtain ⟨i2, d2, z2, hs2⟩ := tiOf_spec (hT _ _ ht)
  obtain ⟨i3, d3, z3, hs3⟩ := tiOf_spec (hT _ _ hte)
  have h1 := hs2.kind
  have hun : cf.P.underlying t = some (.slice e) := by
    rw [hkd] at h1
    have h2 := hs2.und
    cases d2 <;> first
      | (simp only [kindD, TK.slice.injEq] at h1; subst h1; exact h2)
      | (simp only [kindD] at h1; cases h1)
  have h2 : a.eval x = .slice ao n cap := evalO_eval ha hx
  have h3 : a.eval lo = .int k1 (l : Int) := evalO_eval ha hlo
  have h4 : a.eval hi = .int k2 (h : Int) := evalO_eval ha hhi
  have h5 : a.eval mx = .int k3 (m : Int) := evalO_eval ha hmx
  simp only [execOp, hop, h2, h3, h4, h5, Option.map_some, Instr.sliceAt, Instr.slice, Sem.run_bind, run_underlying hun, Result.andThen_ok, run_sliceBounds3 hlh hhm hmc, run_size hs3.info, hs3.size, Sem.run_pure]
  rfl

/-- The rest of an own array moved to the front: 'append(s[:p], s[q:]...)'. -/
theorem oj_append_own {d : Nat} {s x : Operand} {t u e : Nat} {T : List (Nat × TI)} (hT : TTok cf.P T) {ti tu te : TI} (i : Nat) {E : AE} {g : Nat} {xo : Option Addr} {xc : Nat} (p q : Nat)
    (hop : appendOf it.o.op = some (s, x, t, u)) (hd : it.o.dst = some d) (hg : guardVal it.guard env = some true) (hN : Nat.blt d cf.N = true) (htg : canSink it.tag = true)
    (hs : evalO env s = some (.a (.v (.slice (some ⟨g, 0, none⟩) p E.cap)))) (hx : evalO env x = some (.a (.v (.slice xo (E.n - q) xc)))) (hA : A[i]? = some E) (hE : E.ao = some ⟨g, 0, none⟩) (hEe : E.e = e)
    (hpq : p ≤ q) (hqn : q ≤ E.n) (hxo : q = E.n ∨ xo = some ⟨g, q * te.size, none⟩) (hxs : xo.isSome = true)
    (ht : tget T t = some ti) (hkt : ti.kind = .slice e) (hu : tget T u = some tu) (hku : slOrStr tu.kind = true) (hte : tget T e = some te) (hsz : E.sz = te.size)
    (hone : ∀ v ∈ E.xs, v.oneCell' = true)
    (hk : OJ cf rest Q σ ((d, .a (.v (.slice (some ⟨g, 0, none⟩) (p + (E.n - q)) E.cap))) :: env) hp (A.set i ⟨E.ao, p + (E.n - q), E.cap, E.e, E.sz, E.xs.take (p * E.sz) ++ E.xs.drop (q * E.sz)⟩) nh) : OJ cf (it :: rest) Q σ env hp A nh := by
  subst hEe
  refine oj_step hd hg hN htg fun hb a β ha w hw => ?_
  obtain ⟨i1, d1, z1, hs1⟩ := tiOf_spec (hT _ _ ht)
  obtain ⟨i2, d2, z2, hs2⟩ := tiOf_spec (hT _ _ hu)
  obtain ⟨i3, d3, z3, hs3⟩ := tiOf_spec (hT _ _ hte)
  have hut : cf.P.underlying t = some (.slice E.e) := by
    have h1 := hs1.kind
    rw [hkt] at h1
    have h2 := hs1.und
    cases d1 <;> first
      | (simp only [kindD, TK.slice.injEq] at h1; subst h1; exact h2)
      | (simp only [kindD] at h1; cases h1)
  have hxe : a.eval x = .slice xo (E.n - q) xc := evalO_eval ha hx
  have hse : a.eval s = .slice (some ⟨g, 0, none⟩) p E.cap := evalO_eval ha hs
  have hE0 := hw.arr i E hA
  obtain ⟨xa, rfl⟩ : ∃ xa, xo = some xa := by cases xo with | none => cases hxs | some xa => exact ⟨xa, rfl⟩
  rcases hE0.2 with h1 | ⟨g', cur, h3, hrow, hnc, hcm, hcs, htk, hσ, hown⟩
  · rw [h1.1] at hE; cases hE
  rw [hE] at h3
  injection h3 with h3
  simp only [Addr.mk.injEq, and_true] at h3
  subst h3
  have hxl : E.xs.length = E.n * E.sz := hE0.1
  have hqs : q * E.sz ≤ E.n * E.sz := Nat.mul_le_mul_right _ hqn
  have hps : p * E.sz ≤ q * E.sz := Nat.mul_le_mul_right _ hpq
  have hncs : E.n * E.sz ≤ E.cap * E.sz := Nat.mul_le_mul_right _ hnc
  have hdl : (E.xs.drop (q * E.sz)).length = (E.n - q) * E.sz := by rw [List.length_drop, hxl, Nat.sub_mul]
  have hroom : p + (E.n - q) ≤ E.cap := by omega
  have hfc : (Builtin.firstCells E.sz (E.n - q) (.slice (some xa) (E.n - q) xc)).run cf.P w = .ok (E.xs.drop (q * E.sz)).toArray w := by
    refine run_firstCells_some (P := cf.P) w E.sz (E.n - q) xa (E.n - q) xc _ hdl fun j v hv => ?_
    have hj := (List.getElem?_eq_some_iff.1 hv).1
    rcases hxo with hq | hq
    · rw [hdl, hq, Nat.sub_self, Nat.zero_mul] at hj
      omega
    · injection hq with hq
      subst hq
      rw [List.getElem?_drop] at hv
      have := hE0.cell hE hv
      rw [hsz] at this
      rw [Addr.add_lit]
      exact this
  have hm : (E.n - q) * E.sz = E.n * E.sz - q * E.sz := Nat.sub_mul _ _ _
  have hpm : (p + (E.n - q)) * E.sz = p * E.sz + (E.n - q) * E.sz := Nat.add_mul _ _ _
  have hst := run_storeCells_at cf.P g (p * E.sz) E.e (E.xs.drop (q * E.sz)) 0 cur w hrow (by rw [hdl, hcs]; omega) (fun v hv => hone v (List.mem_of_mem_drop hv))
  simp only [Nat.add_zero] at hst
  have hcl : cur.toList.length = E.cap * E.sz := by rw [Array.length_toList, hcs]
  refine ⟨.a (.v (.slice (some ⟨g, 0, none⟩) (p + (E.n - q)) E.cap)), σ, hp, _, nh, _, β, ?_, ha, hb.put (x := .a (.v (.slice (some ⟨g, 0, none⟩) (p + (E.n - q)) E.cap))) trivial d,
    hw.setArr (E' := ⟨E.ao, p + (E.n - q), E.cap, E.e, E.sz, E.xs.take (p * E.sz) ++ E.xs.drop (q * E.sz)⟩) (cur' := (cur.toList.take (p * E.sz) ++ E.xs.drop (q * E.sz) ++ cur.toList.drop (p * E.sz + (E.xs.drop (q * E.sz)).length)).toArray) hA hE hrow rfl rfl rfl rfl hroom ?_ ?_ ?_, hk⟩
  · refine appendOf_run hop ?_
    rw [hse, hxe]
    have hlen : ∀ w', (Builtin.lenOf (.slice (some xa) (E.n - q) xc)).run cf.P w' = .ok (E.n - q) w' := fun _ => rfl
    rcases slOrStr_ok (d := d2) (by rw [hs2.kind]; exact hku) with ⟨e', rfl⟩ | rfl <;> (
      simp only [Builtin.append_, List.getElem?_toArray, List.getElem?_cons_zero, List.getElem?_cons_succ, Sem.run_bind, run_underlying hut, Result.andThen_ok, run_size hs3.info, hs3.size, ← hsz, run_underlying hs2.und, Bool.false_eq_true, if_false, hlen, hroom, if_true, Bool.not_false, hfc, Sem.run_pure, add0, hst]
      rfl)
  · dsimp only
    rw [List.length_append, hdl, List.length_take, hxl, Nat.min_eq_left (by omega), hpm]
  · dsimp only
    simp only [List.size_toArray, List.length_append, List.length_take, List.length_drop, hcl, hxl]
    omega
  · dsimp only
    rw [hpm, ← hdl]
    have e1 : cur.toList.take (p * E.sz) = E.xs.take (p * E.sz) := by
      rw [← htk, List.take_take, Nat.min_eq_left (by omega)]
    rw [e1]
    have e2 : p * E.sz + (E.xs.drop (q * E.sz)).length = (E.xs.take (p * E.sz) ++ E.xs.drop (q * E.sz)).length := by
      rw [List.length_append, List.length_take, hxl, Nat.min_eq_left (by omega)]
    rw [e2]
    exact List.take_left

/-- What is cleared. -/
def clearOf : Op → Option (Operand × TypeId)
  | .call c =>
    match c.callee, c.args.toList, c.argTypes.toList with
    | .builtin .clear, [x], [t] => some (x, t)
    | _, _, _ => none
  | _ => none
theorem clearOf_run {o : Oper} {x : Operand} {t : TypeId} (h : clearOf o.op = some (x, t)) {P : Program} {a : Act} {w w' : World} {v : Value}
    (hr : (Builtin.clear_ #[t] o.type #[a.eval x]).run P w = .ok v w') : (execOp a.eval o).run P w = .ok (.value v) w' := by
  unfold clearOf at h
  split at h
  · rename_i c hop
    split at h
    · rename_i x' t' hcal hargs htys
      injection h with h
      simp only [Prod.mk.injEq] at h
      obtain ⟨rfl, rfl⟩ := h
      have e1 : c.args = #[x'] := by
        cases hq : c.args with
        | mk l => rw [hq] at hargs; simp only at hargs; rw [hargs]
      have e2 : c.argTypes = #[t'] := by
        cases hq : c.argTypes with
        | mk l => rw [hq] at htys; simp only at htys; rw [htys]
      simp only [execOp, hop, resolve, hcal, e1, e2, invoke, builtin, Sem.run_bind, Sem.run_pure, Result.andThen_ok, List.map_toArray, List.map_cons, List.map_nil, hr]
    · cases h
  · cases h
theorem mem_zeroCells {z : Array Value} {n : Nat} {v : Value} (h : v ∈ (Builtin.zeroCells z n).toList) : v ∈ z.toList := by
  unfold Builtin.zeroCells at h
  rw [Array.toList_map, List.mem_map] at h
  obtain ⟨i, hi, rfl⟩ := h
  rw [Array.mem_toList_iff, Array.mem_range] at hi
  have hz : 0 < z.size := by
    rcases Nat.eq_zero_or_pos z.size with h0 | h0
    · rw [h0, Nat.mul_zero] at hi; omega
    · exact h0
  have hlt := Nat.mod_lt i hz
  rw [getElem!_pos z (i % z.size) hlt]
  exact Array.mem_toList_iff.2 (Array.getElem_mem hlt)

/-- What stands behind an own array's elements is cleared. -/
theorem oj_clear_tail {x : Operand} {t e : Nat} {T : List (Nat × TI)} (hT : TTok cf.P T) {ti te : TI} (i : Nat) {E : AE} {g : Nat} {xo : Option Addr} {m xc : Nat} (q : Nat)
    (hop : clearOf it.o.op = some (x, t)) (hd : it.o.dst = none) (hg : guardVal it.guard env = some true) (htg : canSink it.tag = true)
    (hx : evalO env x = some (.a (.v (.slice xo m xc)))) (hA : A[i]? = some E) (hE : E.ao = some ⟨g, 0, none⟩) (hEe : E.e = e) (hq : E.n ≤ q) (hqm : q + m ≤ E.cap) (hxo : m = 0 ∨ xo = some ⟨g, q * te.size, none⟩)
    (ht : tget T t = some ti) (hkt : ti.kind = .slice e) (hte : tget T e = some te) (hsz : E.sz = te.size) (hzl : te.zero.length = te.size) (hzo : te.zero.all AT.one = true)
    (k : OJ cf rest Q σ env hp A nh) : OJ cf (it :: rest) Q σ env hp A nh := by
  subst hEe
  refine ⟨fun hb a β ha hex => ?_⟩
  have key : ∀ w, StW cf σ hp A β w → ∀ Q', it.o.wq cf.P a w (fun a' w' => ∃ E' S' : World → Prop, S' w' ∧ (∀ x, S' x → E' x) ∧ RunT cf.P Q rest E' S' a') Q' := by
    intro w hw Q'
    obtain ⟨i1, d1, z1, hs1⟩ := tiOf_spec (hT _ _ ht)
    obtain ⟨i3, d3, z3, hs3⟩ := tiOf_spec (hT _ _ hte)
    have hut : cf.P.underlying t = some (.slice E.e) := by
      have h1 := hs1.kind
      rw [hkt] at h1
      have h2 := hs1.und
      cases d1 <;> first
        | (simp only [kindD, TK.slice.injEq] at h1; subst h1; exact h2)
        | (simp only [kindD] at h1; cases h1)
    have hxe : a.eval x = .slice xo m xc := evalO_eval ha hx
    have hE0 := hw.arr i E hA
    rcases hE0.2 with h1 | ⟨g', cur, h3, hrow, hnc, hcm, hcs, htk, hσ, hown⟩
    · rw [h1.1] at hE; cases hE
    rw [hE] at h3
    injection h3 with h3
    simp only [Addr.mk.injEq, and_true] at h3
    subst h3
    rcases Nat.eq_zero_or_pos m with hm0 | hmp
    · subst hm0
      have hrun : (execOp a.eval it.o).run cf.P w = .ok (.value (.tuple #[])) w := by
        refine clearOf_run hop ?_
        rw [hxe]
        cases xo <;> simp only [Builtin.clear_, List.getElem?_toArray, List.getElem?_cons_zero, Sem.run_bind, run_underlying hut, Result.andThen_ok, Sem.run_pure]
      unfold Oper.wq
      rw [hrun]
      refine ⟨_, _, hw, fun _ h => h, ?_⟩
      rw [hd]
      exact k.run hb a β ha ⟨_, hw⟩
    · have hxo := hxo.resolve_left (by omega)
      subst hxo
      have hz3 : z3.cells.size = E.sz := by
        have := zero_den hs3 β
        rw [← this, hsz]
        simp [hzl]
      have hzone : ∀ v ∈ z3.cells.toList, v.oneCell' = true := fun v hv => by
        have := zero_den hs3 β
        rw [← this] at hv
        simp only [List.mem_map] at hv
        obtain ⟨c, hc, rfl⟩ := hv
        exact AT.one_den β (List.all_eq_true.1 hzo c hc)
      have hzs : (Builtin.zeroCells z3.cells m).toList.length = m * E.sz := by rw [Array.length_toList, size_zeroCells, hz3]
      have hle : q * E.sz + m * E.sz ≤ E.cap * E.sz := by rw [← Nat.add_mul]; exact Nat.mul_le_mul_right _ hqm
      have hnq : E.n * E.sz ≤ q * E.sz := Nat.mul_le_mul_right _ hq
      have hst := run_storeCells_at cf.P g (q * E.sz) E.e (Builtin.zeroCells z3.cells m).toList 0 cur w hrow (by rw [hzs, hcs]; omega) (fun v hv => hzone v (mem_zeroCells hv))
      simp only [Nat.add_zero] at hst
      have hcl : cur.toList.length = E.cap * E.sz := by rw [Array.length_toList, hcs]
      have hrun : (execOp a.eval it.o).run cf.P w = .ok (.value (.tuple #[])) (w.setRow g (cur.toList.take (q * E.sz) ++ (Builtin.zeroCells z3.cells m).toList ++ cur.toList.drop (q * E.sz + (Builtin.zeroCells z3.cells m).toList.length)).toArray) := by
        refine clearOf_run hop ?_
        rw [hxe]
        obtain ⟨m', rfl⟩ : ∃ m', m = m' + 1 := ⟨m - 1, by omega⟩
        rw [← hsz]
        simp only [Builtin.clear_, List.getElem?_toArray, List.getElem?_cons_zero, Sem.run_bind, run_underlying hut, Result.andThen_ok, run_zero hs3.info hs3.zero, hst, Sem.run_pure]
      unfold Oper.wq
      rw [hrun]
      have hxl : E.xs.length = E.n * E.sz := hE0.1
      have hw' := hw.setArr (E' := E) (cur' := (cur.toList.take (q * E.sz) ++ (Builtin.zeroCells z3.cells m).toList ++ cur.toList.drop (q * E.sz + (Builtin.zeroCells z3.cells m).toList.length)).toArray) hA hE hrow rfl rfl rfl rfl hnc hxl
        (by
          simp only [List.size_toArray, List.length_append, List.length_take, List.length_drop, hcl, hzs]
          omega)
        (by
          dsimp only
          rw [List.append_assoc, List.take_append_of_le_length (by rw [List.length_take, hcl]; omega), List.take_take, Nat.min_eq_left hnq, htk])
      rw [set_same hA] at hw'
      refine ⟨_, _, hw', fun _ h => h, ?_⟩
      rw [hd]
      exact k.run hb a β ha ⟨_, hw'⟩
  simp only [RunT]
  rw [if_pos (guardVal_ok ha hg)]
  cases htag' : it.tag with
  | pure => rw [htag'] at htg; cases htg
  | quiet => rw [htag'] at htg; cases htg
  | keep => rw [htag'] at htg; cases htg
  | sink => exact fun w hw => key w hw _
  | free => exact fun w hw => key w hw _

/-- The address of a slice's element, inside a region. -/
theorem gj_indexAddr {ops : Array Oper} {U bef : List Nat} {n : Nat} {listed : Array Bool} {fst : Bool} {i d : Nat} {o : Oper} {x ix : Operand} {t : TypeId} {T : List (Nat × TI)} (hT : TTok cf.P T) {ti te : TI} {e : Nat} {ad : Addr} {m c : Nat} {k : IntKind} {q : Int} (hop : o.op = .indexAddr t x ix)
    (hi : ops[i]? = some o) (hr : (Region.ready .any ops listed).contains i = true) (hf : Region.free .any ops listed i = true) (hk : (U.contains i || fst) = true) (hd : o.dst = some d) (hg : guardVal (slotOf ops o) env = some true) (hN : Nat.blt d cf.N = true)
    (hx : evalO env x = some (.a (.v (.slice (some ad) m c)))) (hix : evalO env ix = some (.a (.v (.int k q)))) (ht : tget T t = some ti) (hkd : ti.kind = .slice e) (hte : tget T e = some te) (h0 : 0 ≤ q ∧ q < m)
    (kk : GJ cf ops U (bef ++ [i]) n (listed.setIfInBounds i true) fst Q σ ((d, .a (.v (.pointer (some (ad.add (q.toNat * te.size)))))) :: env) hp A nh) : GJ cf ops U bef (n + 1) listed fst Q σ env hp A nh := by
  refine gj_valT (.a (.v (.pointer (some (ad.add (q.toNat * te.size)))))) hi hr hf hk hd hg hN trivial (fun _ a β ha w _ => ?_) kk
  obtain ⟨i2, d2, z2, hs2⟩ := tiOf_spec (hT _ _ ht)
  obtain ⟨i3, d3, z3, hs3⟩ := tiOf_spec (hT _ _ hte)
  have h1 := hs2.kind
  have hun : cf.P.underlying t = some (.slice e) := by
    rw [hkd] at h1
    have h2 := hs2.und
    cases d2 <;> first
      | (simp only [kindD, TK.slice.injEq] at h1; subst h1; exact h2)
      | (simp only [kindD] at h1; cases h1)
  have h2 : a.eval x = .slice (some ad) m c := evalO_eval ha hx
  have h3 : a.eval ix = .int k q := evalO_eval ha hix
  simp only [execOp, hop, h2, h3, Instr.indexAt, asIntOf, Sem.run_bind, Sem.run_pure, Result.andThen_ok, run_underlying hun, h0, and_self, if_true, run_size hs3.info, hs3.size]
  rfl

/-- What stands behind a pointer, sealed, is a known row, inside a region. -/
theorem gj_row {ops : Array Oper} {U bef : List Nat} {n : Nat} {listed : Array Bool} {fst : Bool} (t : Nat) {ad : Addr} (cs : List AT) (h : env.get t = some (.a (.v (.pointer (some ad))))) (hlt : ∀ c ∈ cs, c.lt 0) (hσ : ∀ (j : Nat) c, cs[j]? = some c → σ.cell (ad.add j) = some (c.den β0))
    (k : GJ cf ops U bef n listed fst Q σ ((t, .a (.p nh 0)) :: env) ((nh, .ro, cs) :: hp) A (nh + 1)) : GJ cf ops U bef n listed fst Q σ env hp A nh := by
  refine ⟨fun hs hb a β ha hex hc E0 hE hF => ?_⟩
  let β' : Nat → Addr := fun i => if i = nh then ad else β i
  have hβ : ∀ i, i < nh → β' i = β i := fun i hi => by simp only [β']; rw [if_neg (by omega)]
  have hnew : β' nh = ad := by simp only [β', if_true]
  have ha' : StA cf ((t, .a (.p nh 0)) :: env) β' a := by
    refine ⟨ha.size, ha.defers, fun i z hz => ?_⟩
    rw [Env.get_cons] at hz
    by_cases hi : t = i
    · rw [if_pos hi] at hz
      injection hz with hz
      subst hz; subst hi
      have := ha.env t _ h
      simp only [SV.den, AT.den] at this
      simp only [SV.den, AT.den, hnew, Addr.add_zero']
      exact this
    · rw [if_neg hi] at hz; rw [SV.den_congr hβ (hb.env i z hz)]; exact ha.env i z hz
  have hb' : Bd ((t, .a (.p nh 0)) :: env) ((nh, .ro, cs) :: hp) (nh + 1) :=
    ((hb.mono (Nat.le_succ nh)).put (x := .a (.p nh 0)) (Nat.lt_succ_self nh) t).row (Nat.lt_succ_self nh) fun c hc => AT.lt_mono (Nat.zero_le _) (hlt c hc)
  have hget : ∀ {i : Nat} {q : HK} {r : List AT}, HP.get ((nh, HK.ro, cs) :: hp) i = some (q, r) → (i = nh ∧ q = .ro ∧ r = cs) ∨ (i < nh ∧ hp.get i = some (q, r)) := by
    intro i q r hi
    rw [HP.get_cons] at hi
    by_cases hin : nh = i
    · rw [if_pos hin] at hi
      injection hi with hi
      simp only [Prod.mk.injEq] at hi
      exact .inl ⟨hin.symm, hi.1.symm, hi.2.symm⟩
    · rw [if_neg hin] at hi
      exact .inr ⟨(hb.hp i _ _ hi).1, hi⟩
  have hget' : ∀ {i q r}, hp.get i = some (q, r) → HP.get ((nh, HK.ro, cs) :: hp) i = some (q, r) := by
    intro i q r hi
    rw [HP.get_cons, if_neg (fun hc => by have := (hb.hp i q r hi).1; omega)]; exact hi
  have hS : (fun w => StW cf σ hp A β w) = fun w => StW cf σ ((nh, .ro, cs) :: hp) A β' w := by
    funext w
    apply propext
    constructor
    · intro hw
      refine ⟨hw.os, hw.tape, hw.output, hw.size, hw.fr, hw.sealed, hw.le, hw.grow, fun i e' l hi => ?_, fun i l hi j c hc => ?_, fun i j e1 e2 l1 l2 hi hj hij => ?_, hw.arr, hw.arrd, fun i j E e' l hE hj => ?_⟩
      · rcases hget hi with ⟨_, hk, _⟩ | ⟨hl, hi'⟩
        · cases hk
        · rw [hβ i hl, AT.denL_congr hβ (hb.hp i _ l hi').2]; exact hw.loc i e' l hi'
      · rcases hget hi with ⟨rfl, _, rfl⟩ | ⟨hl, hi'⟩
        · rw [hnew, hσ j c hc]
          congr 1
          exact AT.den_congr (n := 0) (fun i hi => by omega) (hlt c (List.mem_of_getElem? hc))
        · rw [hβ i hl, AT.den_congr hβ ((hb.hp i _ l hi').2 c (List.mem_of_getElem? hc))]; exact hw.ro i l hi' j c hc
      · rcases hget hi with ⟨_, hk, _⟩ | ⟨hl, hi'⟩
        · cases hk
        · rcases hget hj with ⟨_, hk, _⟩ | ⟨hl', hj'⟩
          · cases hk
          · rw [hβ i hl, hβ j hl'] at hij; exact hw.inj i j _ _ _ _ hi' hj' hij
      · rcases hget hj with ⟨_, hk, _⟩ | ⟨hl', hj'⟩
        · cases hk
        · rw [hβ j hl']; exact hw.arrh i j E e' l hE hj'
    · intro hw
      refine ⟨hw.os, hw.tape, hw.output, hw.size, hw.fr, hw.sealed, hw.le, hw.grow, fun i e' l hi => ?_, fun i l hi j c hc => ?_, fun i j e1 e2 l1 l2 hi hj hij => ?_, hw.arr, hw.arrd, fun i j E e' l hE hj => ?_⟩
      · have := hw.loc i e' l (hget' hi)
        rw [hβ i (hb.hp i _ _ hi).1, AT.denL_congr hβ (hb.hp i _ l hi).2] at this; exact this
      · have := hw.ro i l (hget' hi) j c hc
        rw [hβ i (hb.hp i _ _ hi).1, AT.den_congr hβ ((hb.hp i _ l hi).2 c (List.mem_of_getElem? hc))] at this; exact this
      · refine hw.inj i j _ _ _ _ (hget' hi) (hget' hj) ?_
        rw [hβ i (hb.hp i _ _ hi).1, hβ j (hb.hp j _ _ hj).1]; exact hij
      · have := hw.arrh i j E e' l hE (hget' hj)
        rw [hβ j (hb.hp j _ _ hj).1] at this; exact this
  have hS' : ∀ w, StW cf σ hp A β w ↔ StW cf σ ((nh, .ro, cs) :: hp) A β' w := fun w => by rw [show StW cf σ hp A β w = (fun w => StW cf σ hp A β w) w from rfl, hS]
  rw [hS]
  exact k.run hs hb' a β' ha' ⟨hex.choose, (hS' _).1 hex.choose_spec⟩ hc E0 (fun x hx => hE x ((hS' x).2 hx)) (fun hf x hx => (hS' x).1 (hF hf x hx))

/-- An element of a sealed slice, inside a region. -/
theorem gj_idx {ops : Array Oper} {U bef : List Nat} {n : Nat} {listed : Array Bool} {fst : Bool} {i d : Nat} {o : Oper} {x ix : Operand} {t : TypeId} {T : List (Nat × TI)} (hT : TTok cf.P T) {ti te : TI} {e : Nat} {ao : Option Addr} {m c : Nat} {k : IntKind} {q : Int} {rows : List (List AT)} {r : List AT} (hop : o.op = .indexAddr t x ix)
    (hi : ops[i]? = some o) (hr : (Region.ready .any ops listed).contains i = true) (hf : Region.free .any ops listed i = true) (hk : (U.contains i || fst) = true) (hd : o.dst = some d) (hg : guardVal (slotOf ops o) env = some true) (hN : Nat.blt d cf.N = true)
    (hx : evalO env x = some (.a (.v (.slice ao m c)))) (hix : evalO env ix = some (.a (.v (.int k q)))) (ht : tget T t = some ti) (hkd : ti.kind = .slice e) (hte : tget T e = some te) (H : SlAt σ ao m c te.size rows) (h0 : 0 ≤ q) (hrow : rows[q.toNat]? = some r)
    (kk : GJ cf ops U (bef ++ [i]) n (listed.setIfInBounds i true) fst Q σ ((d, .a (.p nh 0)) :: (d, .a (.v (.pointer (some ((ao.getD ⟨0, 0, none⟩).add (q.toNat * te.size)))))) :: env) ((nh, .ro, r) :: hp) A (nh + 1)) : GJ cf ops U bef (n + 1) listed fst Q σ env hp A nh := by
  have hlt : q.toNat < m := by rw [← H.len]; exact (List.getElem?_eq_some_iff.1 hrow).1
  rcases H.at_ with h1 | ⟨ad, rfl, h2⟩
  · omega
  · refine gj_indexAddr hT hop hi hr hf hk hd hg hN hx hix ht hkd hte ⟨h0, by omega⟩ ?_
    refine gj_row d r (by rw [Env.get_cons, if_pos rfl]) (H.clo r (List.mem_of_getElem? hrow)).2 (fun j c hc => ?_) kk
    rw [Addr.add_add]
    exact h2 q.toNat r j c hrow hc

/-- A call that looks at the call's own arrays, and bears no memory: it may stand among others. -/
theorem oj_peekK {d : Nat} {f : FuncId} {ys : List SV} {Φ : Value → Prop}
    (hc : callee env it.o.op = some (f, ys)) (hd : it.o.dst = some d) (hg : guardVal it.guard env = some true)
    (hN : Nat.blt d cf.N = true) (htag : (match it.tag with | .keep => true | _ => false) = true) (hcall : ∀ args w, (callFunc f args).run cf.P w = .ok (.enter f args) w) (hlt : LtAll ys)
    (hC : ∀ σ', σ.le σ' → (∀ (i : Nat) E, A[i]? = some E → ArrSealed σ' E) → PlainS cf.P f ys σ' Φ)
    (k : ∀ v, Φ v → ∃ y : SV, y.lt 0 ∧ y.den β0 = v ∧ OJ cf rest Q σ ((d, y) :: env) hp A nh) : OJ cf (it :: rest) Q σ env hp A nh := by
  refine ⟨fun hb a β ha hex => ?_⟩
  have hN' : d < cf.N := by simpa [Nat.blt_eq] using hN
  have den0 : ∀ {y : SV}, y.lt 0 → y.den β = y.den β0 := fun hy => SV.den_congr (n := 0) (fun i hi => by omega) hy
  have hargs : (ys.map (SV.den β)).toArray = (ys.map (SV.den β0)).toArray := by
    rw [List.map_congr_left fun y hy => den0 (hlt.of y hy)]
  simp only [RunT]
  rw [if_pos (guardVal_ok ha hg)]
  cases htag' : it.tag with
  | pure => rw [htag'] at htag; cases htag
  | quiet => rw [htag'] at htag; cases htag
  | sink => rw [htag'] at htag; cases htag
  | free => rw [htag'] at htag; cases htag
  | keep =>
    intro w hw
    obtain ⟨σ1, hle, hS, hw1⟩ := hw.sealAll
    have hw2 : StW cf σ1 hp ([] ++ []) β w := hw1
    unfold Oper.wq
    rw [callee_ok ha hc hcall]
    simp only [Oper.uponIn]
    rw [hargs]
    refine ⟨fun h => (by cases h), CallsIn.mono (callsIn_FR.2 (FnC.ofPure (hC σ1 hle hS) w hw2.handIn)) fun e w' ⟨v, σ', he, h1, h2, h3, A', ⟨h4, hA⟩, h5⟩ => ?_⟩
    subst he hA
    obtain ⟨y, hy, hyv, hk⟩ := k v h4
    have hw' := hw.peeked hw1 hle h5
    rw [List.append_nil] at hw'
    refine ⟨_, _, hw', fun _ h => h, fun _ h => h, ?_⟩
    have := hk.run (hb.put (SV.lt_mono (Nat.zero_le _) hy) d) (a.put (some d) (y.den β)) β (ha.put hN' y) ⟨_, hw'⟩
    rw [hd, ← hyv, ← den0 hy]
    exact this

/-- A load, of what W knows too, whatever else it knows. -/
theorem ow_loadE {W : (Nat → Addr) → World → Prop} {d : Nat} {T : List (Nat × TI)} (hT : TTok cf.P T) {x : SV} (hpW : HP) (hsub : subH hpW hp) (hW : ∀ β w, W β w → ∃ σ' AW, StW cf σ' hpW AW β w) (h : stepOp T it.o.op env hpW nh = some (.val x)) (hq : (match it.tag with | .quiet => true | _ => false) = true) (hd : it.o.dst = some d) (hg : guardVal it.guard env = some true) (hN : Nat.blt d cf.N = true)
    (k : OW cf rest Q W σ ((d, x) :: env) hp A nh) : OW cf (it :: rest) Q W σ env hp A nh := by
  refine ⟨fun hb a β ha hex => ?_⟩
  have hN' : d < cf.N := by simpa [Nat.blt_eq] using hN
  obtain ⟨hx, hrun⟩ := step_ok (o := it.o) hT ha (hb.sub (fun _ _ h => h) hsub) h
  have h' := k.run (hb.put hx d) (a.put (some d) (x.den β)) β (ha.put hN' x) hex
  simp only [RunT]
  rw [if_pos (guardVal_ok ha hg), hd]
  cases htag : it.tag with
  | quiet => exact ⟨_, fun w hw => .inl (hrun w (fun _ => hW β w hw)), h'⟩
  | _ => rw [htag] at hq; cases hq
end
end Go.Sy
namespace Go.Sy
open Go.Proofs

/-! ### slices.Delete, edits.Delete -/

set_option maxRecDepth 100000 in
set_option maxHeartbeats 1000000 in
theorem DeleteRec_c (σ : Snap) (rows : List (List AT)) (hrow : ∀ r ∈ rows, r.length = 11 ∧ r.all AT.one = true) (hl : rows.length ≤ 1000000) (bo : Option Addr) (bc : Nat) (hbc : rows.length ≤ bc) (i j : Nat) (hij : i < j) (hj : j ≤ rows.length) :
    FnS Tryd.prog 106 [.a (.v (.slice bo rows.length bc)), .a (.v (.int .i64 i)), .a (.v (.int .i64 j))] σ [⟨bo, rows.length, bc, 36, 11, rows.flatten.map AT.val⟩] (fun v _ A' => v = .slice bo (i + (rows.length - j)) bc ∧ A' = [⟨bo, i + (rows.length - j), bc, 36, 11, (rows.take i ++ rows.drop j).flatten.map AT.val⟩]) := by
  have hone : ∀ v ∈ rows.flatten.map AT.val, v.oneCell' = true := fun v hv => by
    obtain ⟨c, hc, rfl⟩ := List.mem_map.1 hv
    obtain ⟨r, hr, hc⟩ := List.mem_flatten.1 hc
    exact AT.one_den β0 (List.all_eq_true.1 (hrow r hr).2 c hc)
  have hfl : ∀ (l : List (List AT)) (k : Nat), (∀ r ∈ l, r.length = 11) → l.flatten.take (k * 11) = (l.take k).flatten ∧ l.flatten.drop (k * 11) = (l.drop k).flatten := fun l => by
    induction l with
    | nil => intro k _; simp
    | cons r l ih =>
      intro k hr
      cases k with
      | zero => simp
      | succ k =>
        have h1 := ih k fun q hq => hr q (List.mem_cons_of_mem _ hq)
        have h2 := hr r List.mem_cons_self
        rw [List.flatten_cons, List.take_succ_cons, List.drop_succ_cons, List.flatten_cons, List.take_append, List.drop_append, h2, show (k + 1) * 11 - 11 = k * 11 by omega, h1.1, h1.2, List.take_of_length_le (by omega), List.drop_of_length_le (by omega)]
        exact ⟨rfl, rfl⟩
  have hxs : (rows.flatten.map AT.val).take (i * 11) ++ (rows.flatten.map AT.val).drop (j * 11) = (rows.take i ++ rows.drop j).flatten.map AT.val := by
    rw [← List.map_take, ← List.map_drop, (hfl rows i fun r hr => (hrow r hr).1).1, (hfl rows j fun r hr => (hrow r hr).1).2, ← List.map_append, List.flatten_append]
  refine enter_f Tryd.func106 rfl rfl (by (repeat' (first | exact trivial | constructor))) fun w => ?_
  (repeat (first | refine cj_seq ?_ | (refine cj_region ?_; refine oj_run TT rfl ?_) | refine oj_then ?_))
  refine oj_arrAt 0 (E := ⟨bo, rows.length, bc, 36, 11, rows.flatten.map AT.val⟩) rfl (by show 0 < rows.length; omega) fun g1 hg1 => ?_
  have hg1 : bo = some ⟨g1, 0, none⟩ := hg1
  subst hg1
  refine oj_slice3 TT i j rows.length rfl rfl rfl rfl rfl rfl rfl rfl rfl rfl rfl rfl rfl rfl (by omega) hj hbc (oj_run TT rfl ?_)
  (repeat (first | refine cj_seq ?_ | (refine cj_region ?_; refine oj_run TT rfl ?_) | refine oj_then ?_))
  refine cj_if rfl (fun h => ?_) (fun h => ?_)
  · have := of_decide_eq_true h
    omega
  (repeat (first | refine cj_seq ?_ | (refine cj_region ?_; refine oj_run TT rfl ?_) | refine oj_then ?_ | refine cj_skip ?_ | refine nj_then ?_))
  refine cj_draw [(0,.pure),(1,.pure),(2,.pure),(3,.pure),(4,.pure),(5,.pure),(6,.sink),(7,.pure)] mixed (by kernel_rfl) (oj_run TT rfl ?_)
  refine oj_slice_to TT i rfl rfl rfl rfl rfl rfl rfl rfl rfl rfl (by omega) hbc (oj_run TT rfl ?_)
  refine oj_slice TT j rows.length rfl rfl rfl rfl rfl rfl rfl rfl rfl rfl (.inr ⟨_, _, rfl, rfl⟩) (.inl ⟨rfl, rfl⟩) hj hbc hbc (oj_run TT rfl ?_)
  refine oj_append_own TT 0 (E := ⟨some ⟨g1, 0, none⟩, rows.length, bc, 36, 11, rows.flatten.map AT.val⟩) i j rfl rfl rfl rfl rfl rfl rfl rfl rfl rfl (by omega) hj (by
      by_cases hjn : j = rows.length
      · exact .inl hjn
      · right
        rw [if_neg (by omega)]
        show some (Addr.add ⟨g1, 0, none⟩ (j * 11)) = _
        rw [add0]) (by split <;> rfl) rfl rfl rfl rfl rfl rfl hone ?_
  refine oj_run TT rfl ?_
  rw [show (⟨some ⟨g1, 0, none⟩, rows.length, bc, 36, 11, rows.flatten.map AT.val⟩ : AE).xs.take (i * 11) ++ (⟨some ⟨g1, 0, none⟩, rows.length, bc, 36, 11, rows.flatten.map AT.val⟩ : AE).xs.drop (j * 11) = (rows.take i ++ rows.drop j).flatten.map AT.val from hxs]
  dsimp only
  (repeat (first | refine cj_seq ?_ | (refine cj_region ?_; refine oj_run TT rfl ?_) | refine oj_then ?_))
  refine oj_slice TT (i + (rows.length - j)) rows.length rfl rfl rfl rfl rfl rfl rfl rfl rfl rfl (.inr ⟨_, _, rfl, rfl⟩) (.inr ⟨_, _, rfl, rfl⟩) (by omega) hbc (by omega) (oj_run TT rfl ?_)
  refine oj_clear_tail TT 0 (E := ⟨some ⟨g1, 0, none⟩, i + (rows.length - j), bc, 36, 11, (rows.take i ++ rows.drop j).flatten.map AT.val⟩) (i + (rows.length - j)) rfl rfl rfl rfl rfl rfl rfl rfl (Nat.le_refl _) (by show _ + _ ≤ bc; omega) (by
      right
      rw [if_neg (by omega)]
      show some (Addr.add ⟨g1, 0, none⟩ ((i + (rows.length - j)) * 11)) = _
      rw [add0]) rfl rfl rfl rfl rfl rfl (oj_run TT rfl ?_)
  (repeat (first | refine cj_seq ?_ | (refine cj_region ?_; refine oj_run TT rfl ?_) | refine oj_then ?_ | refine cj_ret ?_))
  refine nj_fret TT rfl fun β w' _ _ => ?_
  exact ⟨rfl, rfl⟩


set_option maxRecDepth 100000 in
set_option maxHeartbeats 1000000 in
theorem DeleteMem_c (σ : Snap) (rows : List (List AT)) (hrow : ∀ r ∈ rows, r.length = 9 ∧ r.all AT.one = true) (hl : rows.length ≤ 1000000) (bo : Option Addr) (bc : Nat) (hbc : rows.length ≤ bc) (i j : Nat) (hij : i < j) (hj : j ≤ rows.length) :
    FnS Tryd.prog 115 [.a (.v (.slice bo rows.length bc)), .a (.v (.int .i64 i)), .a (.v (.int .i64 j))] σ [⟨bo, rows.length, bc, 125, 9, rows.flatten.map AT.val⟩] (fun v _ A' => v = .slice bo (i + (rows.length - j)) bc ∧ A' = [⟨bo, i + (rows.length - j), bc, 125, 9, (rows.take i ++ rows.drop j).flatten.map AT.val⟩]) := by
  have hone : ∀ v ∈ rows.flatten.map AT.val, v.oneCell' = true := fun v hv => by
    obtain ⟨c, hc, rfl⟩ := List.mem_map.1 hv
    obtain ⟨r, hr, hc⟩ := List.mem_flatten.1 hc
    exact AT.one_den β0 (List.all_eq_true.1 (hrow r hr).2 c hc)
  have hfl : ∀ (l : List (List AT)) (k : Nat), (∀ r ∈ l, r.length = 9) → l.flatten.take (k * 9) = (l.take k).flatten ∧ l.flatten.drop (k * 9) = (l.drop k).flatten := fun l => by
    induction l with
    | nil => intro k _; simp
    | cons r l ih =>
      intro k hr
      cases k with
      | zero => simp
      | succ k =>
        have h1 := ih k fun q hq => hr q (List.mem_cons_of_mem _ hq)
        have h2 := hr r List.mem_cons_self
        rw [List.flatten_cons, List.take_succ_cons, List.drop_succ_cons, List.flatten_cons, List.take_append, List.drop_append, h2, show (k + 1) * 9 - 9 = k * 9 by omega, h1.1, h1.2, List.take_of_length_le (by omega), List.drop_of_length_le (by omega)]
        exact ⟨rfl, rfl⟩
  have hxs : (rows.flatten.map AT.val).take (i * 9) ++ (rows.flatten.map AT.val).drop (j * 9) = (rows.take i ++ rows.drop j).flatten.map AT.val := by
    rw [← List.map_take, ← List.map_drop, (hfl rows i fun r hr => (hrow r hr).1).1, (hfl rows j fun r hr => (hrow r hr).1).2, ← List.map_append, List.flatten_append]
  refine enter_f Tryd.func115 rfl rfl (by (repeat' (first | exact trivial | constructor))) fun w => ?_
  (repeat (first | refine cj_seq ?_ | (refine cj_region ?_; refine oj_run TT rfl ?_) | refine oj_then ?_))
  refine oj_arrAt 0 (E := ⟨bo, rows.length, bc, 125, 9, rows.flatten.map AT.val⟩) rfl (by show 0 < rows.length; omega) fun g1 hg1 => ?_
  have hg1 : bo = some ⟨g1, 0, none⟩ := hg1
  subst hg1
  refine oj_slice3 TT i j rows.length rfl rfl rfl rfl rfl rfl rfl rfl rfl rfl rfl rfl rfl rfl (by omega) hj hbc (oj_run TT rfl ?_)
  (repeat (first | refine cj_seq ?_ | (refine cj_region ?_; refine oj_run TT rfl ?_) | refine oj_then ?_))
  refine cj_if rfl (fun h => ?_) (fun h => ?_)
  · have := of_decide_eq_true h
    omega
  (repeat (first | refine cj_seq ?_ | (refine cj_region ?_; refine oj_run TT rfl ?_) | refine oj_then ?_ | refine cj_skip ?_ | refine nj_then ?_))
  refine cj_draw [(0,.pure),(1,.pure),(2,.pure),(3,.pure),(4,.pure),(5,.pure),(6,.sink),(7,.pure)] mixed (by kernel_rfl) (oj_run TT rfl ?_)
  refine oj_slice_to TT i rfl rfl rfl rfl rfl rfl rfl rfl rfl rfl (by omega) hbc (oj_run TT rfl ?_)
  refine oj_slice TT j rows.length rfl rfl rfl rfl rfl rfl rfl rfl rfl rfl (.inr ⟨_, _, rfl, rfl⟩) (.inl ⟨rfl, rfl⟩) hj hbc hbc (oj_run TT rfl ?_)
  refine oj_append_own TT 0 (E := ⟨some ⟨g1, 0, none⟩, rows.length, bc, 125, 9, rows.flatten.map AT.val⟩) i j rfl rfl rfl rfl rfl rfl rfl rfl rfl rfl (by omega) hj (by
      by_cases hjn : j = rows.length
      · exact .inl hjn
      · right
        rw [if_neg (by omega)]
        show some (Addr.add ⟨g1, 0, none⟩ (j * 9)) = _
        rw [add0]) (by split <;> rfl) rfl rfl rfl rfl rfl rfl hone ?_
  refine oj_run TT rfl ?_
  rw [show (⟨some ⟨g1, 0, none⟩, rows.length, bc, 125, 9, rows.flatten.map AT.val⟩ : AE).xs.take (i * 9) ++ (⟨some ⟨g1, 0, none⟩, rows.length, bc, 125, 9, rows.flatten.map AT.val⟩ : AE).xs.drop (j * 9) = (rows.take i ++ rows.drop j).flatten.map AT.val from hxs]
  dsimp only
  (repeat (first | refine cj_seq ?_ | (refine cj_region ?_; refine oj_run TT rfl ?_) | refine oj_then ?_))
  refine oj_slice TT (i + (rows.length - j)) rows.length rfl rfl rfl rfl rfl rfl rfl rfl rfl rfl (.inr ⟨_, _, rfl, rfl⟩) (.inr ⟨_, _, rfl, rfl⟩) (by omega) hbc (by omega) (oj_run TT rfl ?_)
  refine oj_clear_tail TT 0 (E := ⟨some ⟨g1, 0, none⟩, i + (rows.length - j), bc, 125, 9, (rows.take i ++ rows.drop j).flatten.map AT.val⟩) (i + (rows.length - j)) rfl rfl rfl rfl rfl rfl rfl rfl (Nat.le_refl _) (by show _ + _ ≤ bc; omega) (by
      right
      rw [if_neg (by omega)]
      show some (Addr.add ⟨g1, 0, none⟩ ((i + (rows.length - j)) * 9)) = _
      rw [add0]) rfl rfl rfl rfl rfl rfl (oj_run TT rfl ?_)
  (repeat (first | refine cj_seq ?_ | (refine cj_region ?_; refine oj_run TT rfl ?_) | refine oj_then ?_ | refine cj_ret ?_))
  refine nj_fret TT rfl fun β w' _ _ => ?_
  exact ⟨rfl, rfl⟩


set_option maxRecDepth 100000 in
set_option maxHeartbeats 1000000 in
theorem DeleteVal_c (σ : Snap) (rows : List (List AT)) (hrow : ∀ r ∈ rows, r.length = 8 ∧ r.all AT.one = true) (hl : rows.length ≤ 1000000) (bo : Option Addr) (bc : Nat) (hbc : rows.length ≤ bc) (i j : Nat) (hij : i < j) (hj : j ≤ rows.length) :
    FnS Tryd.prog 116 [.a (.v (.slice bo rows.length bc)), .a (.v (.int .i64 i)), .a (.v (.int .i64 j))] σ [⟨bo, rows.length, bc, 27, 8, rows.flatten.map AT.val⟩] (fun v _ A' => v = .slice bo (i + (rows.length - j)) bc ∧ A' = [⟨bo, i + (rows.length - j), bc, 27, 8, (rows.take i ++ rows.drop j).flatten.map AT.val⟩]) := by
  have hone : ∀ v ∈ rows.flatten.map AT.val, v.oneCell' = true := fun v hv => by
    obtain ⟨c, hc, rfl⟩ := List.mem_map.1 hv
    obtain ⟨r, hr, hc⟩ := List.mem_flatten.1 hc
    exact AT.one_den β0 (List.all_eq_true.1 (hrow r hr).2 c hc)
  have hfl : ∀ (l : List (List AT)) (k : Nat), (∀ r ∈ l, r.length = 8) → l.flatten.take (k * 8) = (l.take k).flatten ∧ l.flatten.drop (k * 8) = (l.drop k).flatten := fun l => by
    induction l with
    | nil => intro k _; simp
    | cons r l ih =>
      intro k hr
      cases k with
      | zero => simp
      | succ k =>
        have h1 := ih k fun q hq => hr q (List.mem_cons_of_mem _ hq)
        have h2 := hr r List.mem_cons_self
        rw [List.flatten_cons, List.take_succ_cons, List.drop_succ_cons, List.flatten_cons, List.take_append, List.drop_append, h2, show (k + 1) * 8 - 8 = k * 8 by omega, h1.1, h1.2, List.take_of_length_le (by omega), List.drop_of_length_le (by omega)]
        exact ⟨rfl, rfl⟩
  have hxs : (rows.flatten.map AT.val).take (i * 8) ++ (rows.flatten.map AT.val).drop (j * 8) = (rows.take i ++ rows.drop j).flatten.map AT.val := by
    rw [← List.map_take, ← List.map_drop, (hfl rows i fun r hr => (hrow r hr).1).1, (hfl rows j fun r hr => (hrow r hr).1).2, ← List.map_append, List.flatten_append]
  refine enter_f Tryd.func116 rfl rfl (by (repeat' (first | exact trivial | constructor))) fun w => ?_
  (repeat (first | refine cj_seq ?_ | (refine cj_region ?_; refine oj_run TT rfl ?_) | refine oj_then ?_))
  refine oj_arrAt 0 (E := ⟨bo, rows.length, bc, 27, 8, rows.flatten.map AT.val⟩) rfl (by show 0 < rows.length; omega) fun g1 hg1 => ?_
  have hg1 : bo = some ⟨g1, 0, none⟩ := hg1
  subst hg1
  refine oj_slice3 TT i j rows.length rfl rfl rfl rfl rfl rfl rfl rfl rfl rfl rfl rfl rfl rfl (by omega) hj hbc (oj_run TT rfl ?_)
  (repeat (first | refine cj_seq ?_ | (refine cj_region ?_; refine oj_run TT rfl ?_) | refine oj_then ?_))
  refine cj_if rfl (fun h => ?_) (fun h => ?_)
  · have := of_decide_eq_true h
    omega
  (repeat (first | refine cj_seq ?_ | (refine cj_region ?_; refine oj_run TT rfl ?_) | refine oj_then ?_ | refine cj_skip ?_ | refine nj_then ?_))
  refine cj_draw [(0,.pure),(1,.pure),(2,.pure),(3,.pure),(4,.pure),(5,.pure),(6,.sink),(7,.pure)] mixed (by kernel_rfl) (oj_run TT rfl ?_)
  refine oj_slice_to TT i rfl rfl rfl rfl rfl rfl rfl rfl rfl rfl (by omega) hbc (oj_run TT rfl ?_)
  refine oj_slice TT j rows.length rfl rfl rfl rfl rfl rfl rfl rfl rfl rfl (.inr ⟨_, _, rfl, rfl⟩) (.inl ⟨rfl, rfl⟩) hj hbc hbc (oj_run TT rfl ?_)
  refine oj_append_own TT 0 (E := ⟨some ⟨g1, 0, none⟩, rows.length, bc, 27, 8, rows.flatten.map AT.val⟩) i j rfl rfl rfl rfl rfl rfl rfl rfl rfl rfl (by omega) hj (by
      by_cases hjn : j = rows.length
      · exact .inl hjn
      · right
        rw [if_neg (by omega)]
        show some (Addr.add ⟨g1, 0, none⟩ (j * 8)) = _
        rw [add0]) (by split <;> rfl) rfl rfl rfl rfl rfl rfl hone ?_
  refine oj_run TT rfl ?_
  rw [show (⟨some ⟨g1, 0, none⟩, rows.length, bc, 27, 8, rows.flatten.map AT.val⟩ : AE).xs.take (i * 8) ++ (⟨some ⟨g1, 0, none⟩, rows.length, bc, 27, 8, rows.flatten.map AT.val⟩ : AE).xs.drop (j * 8) = (rows.take i ++ rows.drop j).flatten.map AT.val from hxs]
  dsimp only
  (repeat (first | refine cj_seq ?_ | (refine cj_region ?_; refine oj_run TT rfl ?_) | refine oj_then ?_))
  refine oj_slice TT (i + (rows.length - j)) rows.length rfl rfl rfl rfl rfl rfl rfl rfl rfl rfl (.inr ⟨_, _, rfl, rfl⟩) (.inr ⟨_, _, rfl, rfl⟩) (by omega) hbc (by omega) (oj_run TT rfl ?_)
  refine oj_clear_tail TT 0 (E := ⟨some ⟨g1, 0, none⟩, i + (rows.length - j), bc, 27, 8, (rows.take i ++ rows.drop j).flatten.map AT.val⟩) (i + (rows.length - j)) rfl rfl rfl rfl rfl rfl rfl rfl (Nat.le_refl _) (by show _ + _ ≤ bc; omega) (by
      right
      rw [if_neg (by omega)]
      show some (Addr.add ⟨g1, 0, none⟩ ((i + (rows.length - j)) * 8)) = _
      rw [add0]) rfl rfl rfl rfl rfl rfl (oj_run TT rfl ?_)
  (repeat (first | refine cj_seq ?_ | (refine cj_region ?_; refine oj_run TT rfl ?_) | refine oj_then ?_ | refine cj_ret ?_))
  refine nj_fret TT rfl fun β w' _ _ => ?_
  exact ⟨rfl, rfl⟩


set_option maxRecDepth 100000 in
set_option maxHeartbeats 1000000 in
theorem Delete12_c (σ : Snap) (L : List GRec) (S : SndL L) (ao : Option Addr) (cap : Nat) (H : SlAt σ ao L.length cap 11 (recRows L)) (i : Int) :
    PureS Tryd.prog 64 [.a (.v (.slice ao L.length cap)), .a (.v (.int .i64 i))] σ (fun v σ' => ∃ bo bc, v = .tuple #[.slice bo (deleteG L i).1.length bc, .int .i64 (deleteG L i).2] ∧ SlAt σ' bo (deleteG L i).1.length bc 11 (recRows (deleteG L i).1)) := by
  have hdg : deleteG L i = if placeE L i ≠ 0 then ([], placeE L i) else if i = 0 then ([], 6) else (L.take i.toNat ++ L.drop (lastG L i.toNat + 1).toNat, 0) := rfl
  refine enter_s Tryd.func64 rfl rfl (by (repeat' (first | exact trivial | constructor))) fun w => ?_
  (repeat (first | refine cj_seq ?_ | (refine cj_region ?_; refine oj_run TT rfl ?_) | refine oj_then ?_))
  refine oj_callP rfl rfl rfl rfl rfl Tryd.call101 (by (repeat' (first | exact trivial | constructor))) (place12_c σ L S.ok ao cap H i) fun v hv => ⟨.a (.v (.int .i64 (placeE L i))), trivial, hv.symm, ?_⟩
  refine oj_run TT rfl ?_
  (repeat (first | refine cj_seq ?_ | (refine cj_region ?_; refine oj_run TT rfl ?_) | refine oj_then ?_))
  refine cj_if rfl (fun h => ?_) (fun h => ?_)
  · have h : placeE L i ≠ 0 := by simpa using h
    rw [if_pos h] at hdg
    rw [hdg]
    (repeat (first | refine cj_seq ?_ | (refine cj_region ?_; refine oj_run TT rfl ?_) | refine oj_then ?_ | refine cj_ret ?_ | refine nj_then_ret ?_))
    refine nj_ret TT rfl fun β w' _ _ => ?_
    exact ⟨none, 0, rfl, SlAt.nil _ _ _ _⟩
  have h : placeE L i = 0 := by simpa using h
  rw [if_neg (by simp [h])] at hdg
  obtain ⟨hs, hi0, hil⟩ := place_ok h
  (repeat (first | refine cj_seq ?_ | (refine cj_region ?_; refine oj_run TT rfl ?_) | refine oj_then ?_ | refine cj_skip ?_ | refine nj_then ?_))
  refine cj_if rfl (fun h1 => ?_) (fun h1 => ?_)
  · rw [if_pos (of_decide_eq_true h1)] at hdg
    rw [hdg]
    (repeat (first | refine cj_seq ?_ | (refine cj_region ?_; refine oj_run TT rfl ?_) | refine oj_then ?_ | refine cj_ret ?_ | refine nj_then_ret ?_))
    refine nj_ret TT rfl fun β w' _ _ => ?_
    exact ⟨none, 0, rfl, SlAt.nil _ _ _ _⟩
  rw [if_neg (of_decide_eq_false h1)] at hdg
  obtain ⟨i, rfl⟩ : ∃ j : Nat, i = j := ⟨i.toNat, by omega⟩
  rw [Int.toNat_natCast] at hdg
  have hi : i < L.length := by omega
  have hlb := lastG_bd L i hi
  have hSL := S.len
  have hla := Last_c σ L S.ok ao cap H i hi hs
  obtain ⟨j, hj⟩ : ∃ j : Nat, lastG L i + 1 = j := ⟨(lastG L i + 1).toNat, by omega⟩
  rw [hj, Int.toNat_natCast] at hdg
  (repeat (first | refine cj_seq ?_ | (refine cj_region ?_; refine oj_run TT rfl ?_) | refine cj_skip ?_ | refine nj_then ?_))
  refine oj_callF [] (A0 := []) (Ar := []) rfl rfl rfl rfl rfl rfl rfl Tryd.call107 (by (repeat' (first | exact trivial | constructor))) (CloneRec_c σ L (by omega) (by omega) ao cap H) fun v σ1 A1 hle1 ⟨bo, bc, hv, hbc, hA⟩ => ⟨.a (.v (.slice bo L.length bc)), trivial, hv.symm, ?_⟩
  subst hA
  refine oj_run TT rfl ?_
  refine oj_callP rfl rfl rfl rfl rfl Tryd.call40 (by (repeat' (first | exact trivial | constructor))) (Last_c σ1 L S.ok ao cap (H.mono hle1) i hi hs) fun v hv => ⟨.a (.v (.int .i64 (lastG L i))), trivial, hv.symm, ?_⟩
  refine oj_run TT rfl ?_
  refine oj_add rfl rfl rfl rfl rfl rfl (by omega) (oj_run TT rfl ?_)
  rw [hj]
  refine oj_run TT rfl ?_
  have hrl := recRows_len L
  have hdel := DeleteRec_c σ1 (recRows L) (fun r hr => ⟨(recRows_all L r hr).1, (recRows_all L r hr).2.2⟩) (by omega) bo bc (by omega) i j (by omega) (by omega)
  rw [hrl] at hdel
  refine oj_callF [0] (A0 := [rE bo L.length bc L]) (Ar := []) rfl rfl rfl rfl rfl rfl rfl Tryd.call106 (by (repeat' (first | exact trivial | constructor))) hdel fun v σ2 A2 hle2 ⟨hv, hA⟩ => ⟨.a (.v (.slice bo (i + (L.length - j)) bc)), trivial, hv.symm, ?_⟩
  subst hA
  refine oj_run TT rfl ?_
  (repeat (first | refine oj_then ?_ | refine cj_ret ?_))
  refine nj_seal 0 rfl rfl fun σ3 hle3 hS => ?_
  refine nj_ret TT rfl fun β w' _ _ => ?_
  have hrr : (recRows L).take i ++ (recRows L).drop j = recRows (L.take i ++ L.drop j) := by
    rw [recRows_append]
    unfold recRows
    rw [List.map_take, List.map_drop]
  have hll : (L.take i ++ L.drop j).length = i + (L.length - j) := by
    rw [List.length_append, List.length_take, List.length_drop]
    omega
  rw [hrr] at hS
  have hS : ArrSealed σ3 (rE bo (i + (L.length - j)) bc (L.take i ++ L.drop j)) := hS
  rw [← hll] at hS
  rw [hdg]
  refine ⟨bo, bc, ?_, rE_sealed (l := L.take i ++ L.drop j) (cap := bc) hS (by omega)⟩
  rw [hll]
  rfl
end Go.Sy
namespace Go.Sy
open Go.Proofs

/-! ### Records compared -/

theorem und36 : Tryd.prog.underlying 36 = some (.struct (Tryd.prog.fieldsOf 36)) := by kernel_rfl
theorem run_partA {P : Program} {w : World} {t : TypeId} {xs : Array Value} {o n : Nat} {d : TypeDesc} (hu : P.underlying t = some d) (hd : aggD d = true) (hn : P.cellsOf t = n) : (part t xs o).run P w = .ok (.agg (xs.extract o (o + n))) w := by
  simp only [part, Sem.run_bind, run_isAgg hu, hd, Result.andThen_ok, if_true, run_sizeB hn hu, Sem.run_pure]

def recVals (r : GRec) : Array Value := #[.int .i64 r.st, .int .i64 r.en, .int .i64 r.lv, .int .i64 r.kd, .bool r.nm, .string r.name, .bool r.b, .bool r.n.neg, .string r.n.dg, .int .i64 r.n.ex, .string r.s]

theorem eqRec_ok (m : Nat) (a b : GRec) (w : World) : (Op.equalIn (m + 1 + 1 + 1) 36 (.agg (recVals a)) (.agg (recVals b))).run Tryd.prog w = .ok (decide (a = b)) w := by
  rw [run_equalIn_agg w (m + 1 + 1) 36 _ _ und36 (by kernel_rfl)]
  have h : fieldsAre (Tryd.prog.fieldsOf 36).toList [(3, 0), (3, 1), (3, 2), (3, 3), (4, 4), (9, 5), (4, 6), (23, 7), (9, 10)] = true := by kernel_rfl
  generalize (Tryd.prog.fieldsOf 36).toList = fl at h
  obtain ⟨f0, fl, rfl, n0, t0, o0, h⟩ := fieldsAre_cons h
  obtain ⟨f1, fl, rfl, n1, t1, o1, h⟩ := fieldsAre_cons h
  obtain ⟨f2, fl, rfl, n2, t2, o2, h⟩ := fieldsAre_cons h
  obtain ⟨f3, fl, rfl, n3, t3, o3, h⟩ := fieldsAre_cons h
  obtain ⟨f4, fl, rfl, n4, t4, o4, h⟩ := fieldsAre_cons h
  obtain ⟨f5, fl, rfl, n5, t5, o5, h⟩ := fieldsAre_cons h
  obtain ⟨f6, fl, rfl, n6, t6, o6, h⟩ := fieldsAre_cons h
  obtain ⟨f7, fl, rfl, n7, t7, o7, h⟩ := fieldsAre_cons h
  obtain ⟨f8, fl, rfl, n8, t8, o8, h⟩ := fieldsAre_cons h
  cases fl with
  | cons _ _ => cases h
  | nil =>
    have ii : ∀ (f : Field) (o : Nat) (r : GRec) (x : Int), f.type = 3 → f.offset = o → (recVals r)[o]? = some (.int .i64 x) → (part f.type (recVals r) f.offset).run Tryd.prog w = .ok (.int .i64 x) w := fun f o r x ht ho hx => run_part1 (by rw [ht]; exact und3) rfl (by rw [ho]; exact hx)
    have bb : ∀ (f : Field) (o : Nat) (r : GRec) (x : Bool), f.type = 4 → f.offset = o → (recVals r)[o]? = some (.bool x) → (part f.type (recVals r) f.offset).run Tryd.prog w = .ok (.bool x) w := fun f o r x ht ho hx => run_part1 (by rw [ht]; exact und4) rfl (by rw [ho]; exact hx)
    have ss : ∀ (f : Field) (o : Nat) (r : GRec) (x : ByteArray), f.type = 9 → f.offset = o → (recVals r)[o]? = some (.string x) → (part f.type (recVals r) f.offset).run Tryd.prog w = .ok (.string x) w := fun f o r x ht ho hx => run_part1 (by rw [ht]; exact und9) rfl (by rw [ho]; exact hx)
    have dd : ∀ (r : GRec), (part f7.type (recVals r) f7.offset).run Tryd.prog w = .ok (.agg #[.bool r.n.neg, .string r.n.dg, .int .i64 r.n.ex]) w := fun r => by
      rw [run_partA (n := 3) (by rw [t7]; exact und23) rfl (by rw [t7]; kernel_rfl), o7]
      rfl
    rw [eqFields_cons (r := a.st == b.st) n0 (ii f0 0 a _ t0 o0 rfl) (ii f0 0 b _ t0 o0 rfl) (run_equalIn_int w (m + 1) f0.type .i64 .i64 a.st b.st (by rw [t0]; exact und3))]
    rw [eqFields_cons (r := a.en == b.en) n1 (ii f1 1 a _ t1 o1 rfl) (ii f1 1 b _ t1 o1 rfl) (run_equalIn_int w (m + 1) f1.type .i64 .i64 a.en b.en (by rw [t1]; exact und3))]
    rw [eqFields_cons (r := a.lv == b.lv) n2 (ii f2 2 a _ t2 o2 rfl) (ii f2 2 b _ t2 o2 rfl) (run_equalIn_int w (m + 1) f2.type .i64 .i64 a.lv b.lv (by rw [t2]; exact und3))]
    rw [eqFields_cons (r := a.kd == b.kd) n3 (ii f3 3 a _ t3 o3 rfl) (ii f3 3 b _ t3 o3 rfl) (run_equalIn_int w (m + 1) f3.type .i64 .i64 a.kd b.kd (by rw [t3]; exact und3))]
    rw [eqFields_cons (r := a.nm == b.nm) n4 (bb f4 4 a _ t4 o4 rfl) (bb f4 4 b _ t4 o4 rfl) (run_equalIn_bool' w (m + 1) f4.type a.nm b.nm (by rw [t4]; exact und4))]
    rw [eqFields_cons (r := decide (a.name = b.name)) n5 (ss f5 5 a _ t5 o5 rfl) (ss f5 5 b _ t5 o5 rfl) (run_eqStr (m + 1) f5.type a.name b.name (by rw [t5]; exact und9))]
    rw [eqFields_cons (r := a.b == b.b) n6 (bb f6 6 a _ t6 o6 rfl) (bb f6 6 b _ t6 o6 rfl) (run_equalIn_bool' w (m + 1) f6.type a.b b.b (by rw [t6]; exact und4))]
    rw [eqFields_cons (r := decide (a.n = b.n)) n7 (dd a) (dd b) (by rw [t7]; exact eqDec_ok m a.n b.n w)]
    rw [eqFields_cons (r := decide (a.s = b.s)) n8 (ss f8 10 a _ t8 o8 rfl) (ss f8 10 b _ t8 o8 rfl) (run_eqStr (m + 1) f8.type a.s b.s (by rw [t8]; exact und9))]
    simp only [Op.eqFields, Sem.run_pure]
    have : (decide (a = b)) = (a.st == b.st && (a.en == b.en && (a.lv == b.lv && (a.kd == b.kd && (a.nm == b.nm && (decide (a.name = b.name) && (a.b == b.b && (decide (a.n = b.n) && decide (a.s = b.s))))))))) := by
      rw [Bool.eq_iff_iff]
      cases a; cases b
      simp
    rw [this]
    cases (a.st == b.st) <;> cases (a.en == b.en) <;> cases (a.lv == b.lv) <;> cases (a.kd == b.kd) <;> cases (a.nm == b.nm) <;> cases decide (a.name = b.name) <;> cases (a.b == b.b) <;> cases decide (a.n = b.n) <;> cases decide (a.s = b.s) <;> rfl

section
variable {cf : Cf} {Q : Exit → Act → World → Prop} {σ : Snap} {env : Env} {hp : HP} {A : List AE} {nh : Nat} {it : Item} {rest : List Item}
/-- Two records compared. -/
theorem oj_eqRec {d : Nat} {x y : Operand} {yt : TypeId} (a b : GRec) (hP : cf.P = Tryd.prog)
    (hop : it.o.op = .binOp .eql 36 x y yt) (hd : it.o.dst = some d) (hg : guardVal it.guard env = some true) (hN : Nat.blt d cf.N = true) (hx : evalO env x = some (.agg (recCells a))) (hy : evalO env y = some (.agg (recCells b)))
    (hk : OJ cf rest Q σ ((d, .a (.b (decide (a = b)))) :: env) hp A nh) : OJ cf (it :: rest) Q σ env hp A nh := by
  refine oj_val (.a (.b (decide (a = b)))) hd hg hN trivial (fun _ ac β ha w => ?_) hk
  have h1 : ac.eval x = .agg (recVals a) := evalO_eval ha hx
  have h2 : ac.eval y = .agg (recVals b) := evalO_eval ha hy
  rw [hP]
  have hG : (eqGuard .eql 36 x y (.agg (recVals a)) (.agg (recVals b))).run Tryd.prog w = .ok () w := run_eqGuard_agg w _ _ _ _ _ _ (by kernel_rfl)
  have hE : (Op.equalIn 10000 36 (.agg (recVals a)) (.agg (recVals b))).run Tryd.prog w = .ok (decide (a = b)) w := eqRec_ok 9997 a b w
  have hB : (binOp .eql 36 (.agg (recVals a)) (.agg (recVals b))).run Tryd.prog w = .ok (.bool (decide (a = b))) w := by
    rw [run_eql_struct, hE]
    rfl
  simp only [execOp, hop, h1, h2, Sem.run_bind, hG, hB, Result.andThen_ok, Sem.run_pure]
  rfl
theorem oj_neRec {d : Nat} {x y : Operand} {yt : TypeId} (a b : GRec) (hP : cf.P = Tryd.prog)
    (hop : it.o.op = .binOp .neq 36 x y yt) (hd : it.o.dst = some d) (hg : guardVal it.guard env = some true) (hN : Nat.blt d cf.N = true) (hx : evalO env x = some (.agg (recCells a))) (hy : evalO env y = some (.agg (recCells b)))
    (hk : OJ cf rest Q σ ((d, .a (.b (!decide (a = b)))) :: env) hp A nh) : OJ cf (it :: rest) Q σ env hp A nh := by
  refine oj_val (.a (.b (!decide (a = b)))) hd hg hN trivial (fun _ ac β ha w => ?_) hk
  have h1 : ac.eval x = .agg (recVals a) := evalO_eval ha hx
  have h2 : ac.eval y = .agg (recVals b) := evalO_eval ha hy
  rw [hP]
  have hG : (eqGuard .neq 36 x y (.agg (recVals a)) (.agg (recVals b))).run Tryd.prog w = .ok () w := run_eqGuard_agg w _ _ _ _ _ _ (by kernel_rfl)
  have hE : (Op.equalIn 10000 36 (.agg (recVals a)) (.agg (recVals b))).run Tryd.prog w = .ok (decide (a = b)) w := eqRec_ok 9997 a b w
  have hB : (binOp .neq 36 (.agg (recVals a)) (.agg (recVals b))).run Tryd.prog w = .ok (.bool (!decide (a = b))) w := by
    rw [run_neq_struct, hE]
    rfl
  simp only [execOp, hop, h1, h2, Sem.run_bind, hG, hB, Result.andThen_ok, Sem.run_pure]
  rfl
end
end Go.Sy
namespace Go.Sy
open Go.Proofs

/-! ### EditsBack -/

def freshS : ByteArray := ⟨#[102, 114, 101, 115, 104]⟩

set_option maxRecDepth 100000 in
set_option maxHeartbeats 1000000 in
theorem EditsBack_c (σ : Snap) (g : GVal) (r : List AT) (x : GVal) (xr : List AT) (i k : Int) (hr : RepV σ g r) (hxr : RepV σ x xr) :
    PlainS Tryd.prog 14 [.agg r, .a (.v (.int .i64 i)), .a (.v (.int .i64 k)), .agg xr] σ (fun v => v = .bool true) := by
  obtain ⟨la, lc, lrows, ma, mc, vrows, rfl, V⟩ := hr.open
  obtain ⟨yla, ylc, ylrows, yma, ymc, yvrows, rfl, Y⟩ := hxr.open
  refine enter_p Tryd.func14 rfl rfl (by (repeat' (first | exact trivial | exact vCells_lt _ _ _ _ _ _ | constructor))) fun w => ?_
  (repeat (first | refine cj_seq ?_ | (refine cj_region ?_; refine oj_run TT rfl ?_) | refine oj_then ?_))
  refine oj_callS rfl rfl rfl rfl rfl Tryd.call60 (by (repeat' exact trivial)) (awake12_c σ) fun v σ0 hle0 hv => ⟨.a .tt, trivial, hv.symm, ?_⟩
  have V := V.monoC hle0.cle
  have Y := Y.monoC hle0.cle
  refine oj_run TT rfl ?_
  (repeat (first | refine cj_seq ?_ | (refine cj_region ?_; refine oj_run TT rfl ?_) | refine oj_then ?_))
  refine oj_callP rfl rfl rfl rfl rfl Tryd.call19 (by (repeat' (first | exact trivial | exact vCells_lt _ _ _ _ _ _ | constructor))) (Few_c σ0 g _ 800 V.rep (by omega) (by omega)) fun v ⟨fb, hv, hfew⟩ => ⟨.a (.b fb), trivial, hv.symm, ?_⟩
  refine oj_run TT rfl ?_
  skip
  refine oj_split 25 rfl (fun h => ?_) (fun h => ?_)
  · refine oj_run TT rfl ?_
    (repeat (first | refine cj_seq ?_ | (refine cj_region ?_; refine oj_run TT rfl ?_) | refine oj_then ?_ | refine cj_if_t rfl ?_ | refine cj_ret ?_ | refine nj_then_ret ?_))
    refine nj_ret TT rfl fun β w' _ _ => ?_
    rfl
  have hw : g.weight ≤ 800 := by
    have := hfew (by simpa using h)
    omega
  refine oj_run TT rfl ?_
  refine oj_callP rfl rfl rfl rfl rfl Tryd.call19 (by (repeat' (first | exact trivial | exact vCells_lt _ _ _ _ _ _ | constructor))) (Few_c σ0 x _ 300 Y.rep (by omega) (by omega)) fun v ⟨fb2, hv, hfew2⟩ => ⟨.a (.b fb2), trivial, hv.symm, ?_⟩
  refine oj_run TT rfl ?_
  (repeat refine oj_then ?_)
  refine cj_if rfl (fun h => ?_) (fun h => ?_)
  · (repeat (first | refine cj_seq ?_ | (refine cj_region ?_; refine oj_run TT rfl ?_) | refine oj_then ?_ | refine cj_ret ?_ | refine nj_then_ret ?_))
    refine nj_ret TT rfl fun β w' _ _ => ?_
    rfl
  have hwx : x.weight ≤ 300 := by
    have := hfew2 (by simpa using h)
    omega
  (repeat (first | refine cj_seq ?_ | (refine cj_region ?_; refine oj_run TT rfl ?_) | refine cj_skip ?_ | refine nj_then ?_))
  refine oj_callS rfl rfl rfl rfl rfl Tryd.call21 ⟨vCells_lt _ _ _ _ _ _, trivial, trivial⟩ (Shred_s σ0 g _ 1000 V.rep (by omega)) fun v σ1 hle1 ⟨ao, cap, hv, H⟩ => ⟨.tup [.a (.v (.slice ao (shredG g 1000).1.length cap)), .a (.v (.int .i64 (shredG g 1000).2))], (by (repeat' (first | exact trivial | refine SV.lt_tup ?_ | constructor))), hv.symm, ?_⟩
  rw [shredG_k (by omega) (by omega)] at H ⊢
  by_cases hs : sane g ≠ 0
  · rw [if_pos hs] at H ⊢
    dsimp only at H ⊢
    refine oj_run TT rfl ?_
    (repeat (first | refine cj_seq ?_ | (refine cj_region ?_; refine oj_run TT rfl ?_) | refine oj_then ?_))
    refine oj_split 38 rfl (fun h => ?_) (fun h => absurd (by simpa using h) hs)
    refine oj_run TT rfl ?_
    (repeat (first | refine cj_seq ?_ | (refine cj_region ?_; refine oj_run TT rfl ?_) | refine oj_then ?_ | refine cj_if_t rfl ?_ | refine cj_ret ?_ | refine nj_then_ret ?_))
    refine nj_ret TT rfl fun β w' _ _ => ?_
    rfl
  have hs : sane g = 0 := by simpa using hs
  rw [if_neg (by simp [hs])] at H ⊢
  dsimp only at H ⊢
  have V := V.monoC hle1.cle
  have Y := Y.monoC hle1.cle
  generalize hLdef : (shredV 1000 g 0 false emptyS 0).1 = L at *
  obtain ⟨hcnt, hlen1, hpos, hsound, R, hbL⟩ := shred_facts V.rep (by omega) (by omega) (by omega) hs hLdef.symm
  have S := shred_snd V.rep (by omega) (by omega) (by omega) hs hLdef.symm
  refine oj_run TT rfl ?_
  (repeat (first | refine cj_seq ?_ | (refine cj_region ?_; refine oj_run TT rfl ?_) | refine oj_then ?_))
  refine oj_split 38 rfl (fun h => absurd h (by decide)) (fun h => ?_)
  refine oj_run TT rfl ?_
  (repeat refine oj_then ?_)
  refine cj_if rfl (fun h => ?_) (fun h => ?_)
  · have := of_decide_eq_true h
    omega
  (repeat (first | refine cj_seq ?_ | (refine cj_region ?_; refine oj_run TT rfl ?_) | refine cj_skip ?_ | refine nj_then ?_ | (refine oj_band rfl rfl rfl rfl rfl rfl ?_; refine oj_run TT rfl ?_)))
  have hmi := bAnd_le i 65535 (by omega) (by omega)
  generalize bAnd .i64 i 65535 = m1 at hmi ⊢
  refine oj_rem rfl rfl rfl rfl rfl rfl (by omega) ?_
  obtain ⟨a, ha⟩ : ∃ a : Nat, m1.tmod L.length = a := ⟨(m1.tmod L.length).toNat, by
    have := Int.tmod_nonneg (L.length : Int) hmi.1
    omega⟩
  have hal : a < L.length := by
    have := Int.tmod_lt_of_pos m1 (show (0 : Int) < L.length by omega)
    omega
  rw [ha]
  have hkeys := sane_keys g 0 0 hs
  have hkinds := sane_kinds4 g 0 0 hs
  have hwf := V.rep.wf
  obtain ⟨hG, now, hsub, hloc⟩ := shred_loc (gap := 1000) (by omega) (nm := false) (name := emptyS) hwf hkeys (i := a) (by omega)
  rw [hLdef] at hsub hloc
  have hlaw := insert_law hwf hkeys hkinds hs (gap := 1000) (by omega) (by omega) hLdef.symm hsound hal k freshS Y.rep.wf hsub hloc
  have hrw : recsW L ≤ 800 := by
    have := recsW_V 1000 g 0 false emptyS 0
    rw [hLdef] at this
    have e0 : emptyS.size = 0 := rfl
    omega
  have hfs : freshS.size = 5 := rfl
  refine oj_run TT rfl ?_
  (repeat (first | refine cj_seq ?_ | (refine cj_region ?_; refine oj_run TT rfl ?_) | refine oj_then ?_))
  have hcallI := Insert_c σ1 L S ao cap H a k freshS (by decide) x _ Y.rep (by omega)
  generalize insertG L a k freshS x = Res at hcallI hlaw
  obtain ⟨ml, rlaid, rmv, re⟩ := Res
  refine oj_callS rfl rfl rfl rfl rfl Tryd.call62 ⟨trivial, trivial, trivial, trivial, vCells_lt _ _ _ _ _ _, trivial⟩ hcallI fun v σ2 hle2 ⟨bo, bc, hv, HM⟩ => ⟨.tup [.a (.v (.slice bo ml.length bc)), .agg [.v (.int .i64 rlaid), .v (.int .i64 rmv)], .a (.v (.int .i64 re))], (by (repeat' (first | exact trivial | refine AllLt.of ?_ | refine SV.lt_tup ?_ | constructor))), hv.symm, ?_⟩
  have HM : SlAt σ2 bo ml.length bc 11 (recRows ml) := HM
  have H := H.mono hle2
  have V := V.monoC hle2.cle
  have Y := Y.monoC hle2.cle
  refine oj_run TT rfl ?_
  (repeat (first | refine cj_seq ?_ | (refine cj_region ?_; refine oj_run TT rfl ?_) | refine oj_then ?_))
  refine oj_split 60 rfl (fun h => ?_) (fun h => ?_)
  · refine oj_run TT rfl ?_
    (repeat (first | refine cj_seq ?_ | (refine cj_region ?_; refine oj_run TT rfl ?_) | refine oj_then ?_ | refine cj_if_t rfl ?_ | refine cj_ret ?_ | refine nj_then_ret ?_))
    refine nj_ret TT rfl fun β w' _ _ => ?_
    rfl
  have he : re = 0 := by simpa using h
  refine oj_run TT rfl ?_
  (repeat refine oj_then ?_)
  refine cj_if rfl (fun h => ?_) (fun h => ?_)
  · (repeat (first | refine cj_seq ?_ | (refine cj_region ?_; refine oj_run TT rfl ?_) | refine oj_then ?_ | refine cj_ret ?_ | refine nj_then_ret ?_))
    refine nj_ret TT rfl fun β w' _ _ => ?_
    rfl
  have hmv := of_decide_eq_false h
  obtain ⟨g', kk, O⟩ := hlaw.2 he
  have hres := O.res
  dsimp only at hres
  obtain ⟨-, hc2, -⟩ | ⟨hroom, hmv0, hlayR, at_, M, hat1, hat2, hMl, hRl, hlastR⟩ := hres
  · omega
  have hO1 := O.swap.weight
  have hO2 := insIt_weight hG x kk freshS
  have hg'c := (sane_iff.1 O.sane).2
  have hRlen := hlayR.len O.wf
  have hwV := wVg hwf 1000
  have SR := lay_snd hlayR (by omega) O.wf (by omega) (by omega) (by omega)
  have hsR := lay_sound hlayR (by omega) O.wf O.sane (by omega) (by omega)
  have hcx := cntV_pos x
  have htl : (L.take at_).length = at_ := List.length_take_of_le hat2
  have hRll : ml.length = L.length + cntV x := by
    rw [hRl, List.length_append, List.length_append, htl, hMl, List.length_drop]
    omega
  have hsrt := hlayR.sorted
  have hlow : ∀ q, q < at_ → ml[q]? = L[q]? := fun q hq => by
    rw [hRl, List.getElem?_append_left (by omega), List.getElem?_take, if_pos hq]
  have hne : ∀ r s, ml[at_]? = some r → L[at_]? = some s → r ≠ s := fun r s h1 h2 e => by
    have h3 : ml[at_ + cntV x]? = some s := by
      rw [hRl, List.getElem?_append_right (by omega), htl, List.getElem?_append_right (by omega), hMl, List.getElem?_drop, show at_ + (at_ + cntV x - at_ - cntV x) = at_ by omega, h2]
    have hl1 := (List.getElem?_eq_some_iff.1 h1).1
    have hl3 := (List.getElem?_eq_some_iff.1 h3).1
    have := List.pairwise_iff_getElem.1 hsrt at_ (at_ + cntV x) hl1 hl3 (by omega)
    rw [(List.getElem?_eq_some_iff.1 h1).2, (List.getElem?_eq_some_iff.1 h3).2, e] at this
    omega
  have hdel : deleteG ml at_ = (L, 0) := by
    unfold deleteG
    rw [if_neg (by rw [sound_place hsR (by omega)]; decide), if_neg (by omega), Int.toNat_natCast, hlastR, show ((at_ : Int) + cntV x - 1 + 1).toNat = at_ + cntV x by omega]
    congr 1
    rw [hRl, List.take_left' htl, ← List.drop_drop, List.drop_left' htl, List.drop_left' hMl, List.take_append_drop]
  have hlaidx := O.laid
  dsimp only at hlaidx
  clear hlaw O hRl hlastR hlayR
  (repeat (first | refine cj_seq ?_ | (refine cj_region ?_; refine oj_run TT rfl ?_) | refine oj_then ?_ | refine cj_skip ?_ | refine cj_block ?_ | refine nj_then ?_ | (refine oj_add rfl rfl rfl rfl rfl rfl (by omega) ?_; refine oj_run TT rfl ?_)))
  refine cj_cutB (α := Unit) (fun _ => σ2) (fun _ => [(2, .a (.v (.int .i64 k))), (7, .a (.p 1 0)), (9, .a .tt), (10, .a (.v (.slice ao L.length cap))), (12, .a (.v (.int .i64 a))), (13, .a (.v (.slice bo ml.length bc))), (14, .a (.p 2 0)), (16, .a (.v (.int .i64 (at_ : Nat))))])
    (fun _ => [(1, .loc 27, vCells x yla ylc yma ymc), (2, .loc 98, [.v (.int .i64 rlaid), .v (.int .i64 rmv)])]) (fun _ => []) 3 (fun _ => True) ?_ (fun _ _ => ?_)
  · refine cj_loop (fun (_ : Nat) => σ2) (fun n => [(2, .a (.v (.int .i64 k))), (7, .a (.p 1 0)), (9, .a .tt), (10, .a (.v (.slice ao L.length cap))), (12, .a (.v (.int .i64 a))), (13, .a (.v (.slice bo ml.length bc))), (14, .a (.p 2 0)), (16, .a (.v (.int .i64 ((a + 1 + n : Nat) : Int)))), (17, .a (.v (.int .i64 (n : Nat))))])
      (fun _ => [(1, .loc 27, vCells x yla ylc yma ymc), (2, .loc 98, [.v (.int .i64 rlaid), .v (.int .i64 rmv)])]) (fun _ => []) 3 (fun n => a + 1 + n ≤ at_) (fun n => at_ - (a + 1 + n)) 0 hat1 rfl (by (repeat (first | exact trivial | refine And.intro rfl ?_))) (by (repeat (first | exact trivial | refine And.intro rfl ?_))) rfl (by (repeat' (first | exact trivial | exact Nat.le_of_ble_eq_true rfl | constructor))) (by (repeat' (first | exact trivial | exact Nat.le_of_ble_eq_true rfl | exact vCells_lt _ _ _ _ _ _ | refine AllLt.of ?_ | constructor))) fun n hn => ?_
    (repeat refine cj_seq ?_)
    refine cj_draw [(0,.pure),(1,.pure),(2,.pure),(3,.pure),(4,.pure),(5,.pure),(6,.pure),(7,.pure),(8,.pure),(9,.pure),(10,.pure),(11,.pure),(12,.pure),(13,.pure),(14,.pure),(15,.pure),(16,.pure),(17,.pure),(18,.pure),(19,.pure),(20,.quiet),(21,.pure),(22,.pure),(23,.pure),(24,.quiet),(25,.pure),(26,.pure)] mixed (by kernel_rfl) (oj_run TT rfl ?_)
    refine oj_split 72 rfl (fun _ => ?_) (fun h => absurd (of_decide_eq_false (show decide ((n : Int) < L.length) = false from h)) (by omega))
    refine oj_run TT rfl ?_
    refine oj_split 78 rfl (fun _ => ?_) (fun h => absurd (of_decide_eq_false (show decide (((a + 1 + n : Nat) : Int) < ml.length) = false from h)) (by omega))
    refine oj_run TT rfl ?_
    refine oj_split 84 rfl (fun h => ?_) (fun h => ?_)
    rotate_left
    · have h := of_decide_eq_false (show decide (((a + 1 + n : Nat) : Int) < L.length) = false from h)
      have hna : a + 1 + n = at_ := by omega
      rw [hna]
      refine oj_run TT rfl ?_
      (repeat (first | refine oj_then ?_ | refine cj_if_f rfl ?_ | refine cj_exit ?_ | refine nj_then_exit ?_ | refine nj_block_out ?_))
      refine nj_again () trivial Nat.zero_lt_one rfl (by (repeat (first | exact trivial | refine And.intro rfl ?_))) (by (repeat (first | exact trivial | refine And.intro rfl ?_))) rfl (by (repeat' (first | exact trivial | exact Nat.le_of_ble_eq_true rfl | constructor))) (by (repeat' (first | exact trivial | exact Nat.le_of_ble_eq_true rfl | exact vCells_lt _ _ _ _ _ _ | refine AllLt.of ?_ | constructor)))
    have h := of_decide_eq_true (show decide (((a + 1 + n : Nat) : Int) < L.length) = true from h)
    have hqL : a + 1 + n < L.length := by omega
    have hqm : a + 1 + n < ml.length := by omega
    have hLq : L[a + 1 + n]? = some L[a + 1 + n] := List.getElem?_eq_getElem hqL
    have hmq : ml[a + 1 + n]? = some ml[a + 1 + n] := List.getElem?_eq_getElem hqm
    have hrL := recRows_get hLq
    have hrm := recRows_get hmq
    have heq : a + 1 + n < at_ → ml[a + 1 + n] = L[a + 1 + n] := fun hq => by
      have := hlow _ hq
      rw [hLq, hmq] at this
      exact Option.some.inj this
    have hnq : a + 1 + n = at_ → ml[a + 1 + n] ≠ L[a + 1 + n] := fun hq => hne _ _ (by rw [← hq]; exact hmq) (by rw [← hq]; exact hLq)
    generalize L[a + 1 + n] = rL at *
    generalize ml[a + 1 + n] = rm at *
    refine oj_run TT rfl ?_
    refine oj_idx TT rfl rfl rfl rfl rfl rfl rfl rfl rfl HM (by omega) hrm (oj_run TT rfl ?_)
    refine oj_idx TT rfl rfl rfl rfl rfl rfl rfl rfl rfl H (by omega) hrL (oj_run TT rfl ?_)
    refine oj_eqRec rm rL rfl rfl rfl rfl rfl rfl rfl (oj_run TT rfl ?_)
    (repeat refine oj_then ?_)
    refine cj_if rfl (fun h => ?_) (fun h => ?_)
    · have h : rm = rL := of_decide_eq_true h
      have hnl : a + 1 + n < at_ := by
        rcases Nat.lt_or_ge (a + 1 + n) at_ with h1 | h1
        · exact h1
        · exact absurd h (hnq (by omega))
      (repeat (first | refine cj_seq ?_ | (refine cj_region ?_; refine oj_run TT rfl ?_) | refine oj_nil ?_ | refine cj_skip ?_ | refine cj_block ?_ | refine nj_then ?_ | refine nj_block ?_ | (refine oj_add rfl rfl rfl rfl rfl rfl (by omega) ?_; refine oj_run TT rfl ?_)))
      refine nj_again (n + 1) (show a + 1 + (n + 1) ≤ at_ by omega) (by omega) rfl (by (repeat (first | exact trivial | refine And.intro rfl ?_))) (by (repeat (first | exact trivial | refine And.intro rfl ?_))) rfl (by (repeat' (first | exact trivial | exact Nat.le_of_ble_eq_true rfl | constructor))) (by (repeat' (first | exact trivial | exact Nat.le_of_ble_eq_true rfl | exact vCells_lt _ _ _ _ _ _ | refine AllLt.of ?_ | constructor)))
    · have h : rm ≠ rL := of_decide_eq_false h
      have hna : a + 1 + n = at_ := by
        rcases Nat.lt_or_ge (a + 1 + n) at_ with h1 | h1
        · exact absurd (heq h1) h
        · omega
      rw [hna]
      (repeat (first | refine cj_exit ?_ | refine nj_then_exit ?_ | refine nj_block_out ?_))
      refine nj_again () trivial Nat.zero_lt_one rfl (by (repeat (first | exact trivial | refine And.intro rfl ?_))) (by (repeat (first | exact trivial | refine And.intro rfl ?_))) rfl (by (repeat' (first | exact trivial | exact Nat.le_of_ble_eq_true rfl | constructor))) (by (repeat' (first | exact trivial | exact Nat.le_of_ble_eq_true rfl | exact vCells_lt _ _ _ _ _ _ | refine AllLt.of ?_ | constructor)))
  have hcd := Delete12_c σ2 ml SR bo bc HM at_
  rw [hdel] at hcd
  dsimp only at hcd
  (repeat (first | refine cj_seq ?_ | (refine cj_region ?_; refine oj_run TT rfl ?_)))
  refine oj_callS rfl rfl rfl rfl rfl Tryd.call64 (by (repeat' (first | exact trivial | constructor))) hcd fun v σ3 hle3 ⟨no, nc, hv, HN⟩ => ⟨.tup [.a (.v (.slice no L.length nc)), .a (.v (.int .i64 0))], (by (repeat' (first | exact trivial | refine SV.lt_tup ?_ | constructor))), hv.symm, ?_⟩
  have H := H.mono hle3
  have Y := Y.monoC hle3.cle
  refine oj_run TT rfl ?_
  (repeat (first | refine cj_seq ?_ | refine oj_then ?_))
  refine cj_draw [(0,.pure),(1,.pure),(2,.pure),(3,.pure),(4,.pure),(5,.pure),(6,.pure),(7,.pure),(8,.pure),(9,.pure),(10,.pure),(11,.quiet),(12,.quiet),(13,.keep),(14,.pure),(15,.pure)] mixed (by kernel_rfl) (oj_run TT rfl ?_)
  refine oj_split 107 rfl (fun h => absurd h (by decide)) (fun _ => ?_)
  refine oj_run TT rfl ?_
  refine oj_split 114 rfl (fun h => absurd (show (!decide ((L.length : Int) = L.length)) = true from h) (by simp)) (fun _ => ?_)
  refine oj_run TT rfl ?_
  refine oj_callP rfl rfl rfl rfl rfl Tryd.call25 (by (repeat' (first | exact trivial | exact vCells_lt _ _ _ _ _ _ | constructor))) (Count_c x σ3 _ Y.rep (by omega)) fun v hv => ⟨.a (.v (.int .i64 (cntV x))), trivial, hv.symm, ?_⟩
  refine oj_run TT rfl ?_
  (repeat refine oj_then ?_)
  refine cj_if rfl (fun h => absurd (show (!decide (rlaid = (cntV x : Int))) = true from h) (by rw [hlaidx]; simp)) (fun _ => ?_)
  (repeat (first | refine cj_seq ?_ | (refine cj_region ?_; refine oj_run TT rfl ?_) | refine oj_then ?_ | refine cj_skip ?_ | refine cj_block ?_ | refine nj_then ?_))
  refine cj_cutB (α := Unit) (fun _ => σ3) (fun _ => [(2, .a (.v (.int .i64 k))), (9, .a .tt), (10, .a (.v (.slice ao L.length cap))), (12, .a (.v (.int .i64 a))), (18, .a (.v (.slice no L.length nc)))]) (fun _ => []) (fun _ => []) 0 (fun _ => True) ?_ (fun _ _ => ?_)
  · refine cj_loop (fun (_ : Nat) => σ3) (fun j => [(2, .a (.v (.int .i64 k))), (9, .a .tt), (10, .a (.v (.slice ao L.length cap))), (12, .a (.v (.int .i64 a))), (18, .a (.v (.slice no L.length nc))), (20, .a (.v (.int .i64 (j : Nat))))]) (fun _ => []) (fun _ => []) 0 (fun j => j ≤ L.length) (fun j => L.length - j) 0 (Nat.zero_le _) rfl (by (repeat (first | exact trivial | refine And.intro rfl ?_))) (by (repeat (first | exact trivial | refine And.intro rfl ?_))) rfl (by (repeat' (first | exact trivial | constructor))) (by (repeat' exact trivial)) fun j hj => ?_
    (repeat (first | refine cj_seq ?_ | (refine cj_region ?_; refine oj_run TT rfl ?_) | refine oj_then ?_))
    refine cj_if rfl (fun h => ?_) (fun h => ?_)
    rotate_left
    · (repeat (first | refine cj_exit ?_ | refine nj_then_exit ?_ | refine nj_block_out ?_))
      refine nj_again () trivial Nat.zero_lt_one rfl (by (repeat (first | exact trivial | refine And.intro rfl ?_))) (by (repeat (first | exact trivial | refine And.intro rfl ?_))) rfl (by (repeat' (first | exact trivial | constructor))) (by (repeat' exact trivial))
    have hjl : j < L.length := by have := of_decide_eq_true h; omega
    have hrow := recRows_get (List.getElem?_eq_getElem hjl)
    generalize L[j] = rj at *
    (repeat (first | refine cj_seq ?_ | refine cj_skip ?_ | refine cj_block ?_ | refine nj_then ?_))
    refine cj_draw [(0,.pure),(1,.pure),(2,.pure),(3,.quiet),(4,.pure),(5,.pure),(6,.pure),(7,.quiet),(8,.pure)] mixed (by kernel_rfl) (oj_run TT rfl ?_)
    refine oj_idx TT rfl rfl rfl rfl rfl rfl rfl rfl rfl HN (by omega) hrow (oj_run TT rfl ?_)
    refine oj_idx TT rfl rfl rfl rfl rfl rfl rfl rfl rfl H (by omega) hrow (oj_run TT rfl ?_)
    refine oj_neRec rj rj rfl rfl rfl rfl rfl rfl rfl (oj_run TT rfl ?_)
    (repeat refine oj_then ?_)
    refine cj_if rfl (fun h => absurd (show (!decide (rj = rj)) = true from h) (by simp)) (fun _ => ?_)
    (repeat (first | (refine cj_region ?_; refine oj_run TT rfl ?_) | refine oj_nil ?_ | refine cj_skip ?_ | refine nj_then ?_ | refine nj_block ?_ | (refine oj_add rfl rfl rfl rfl rfl rfl (by omega) ?_; refine oj_run TT rfl ?_)))
    refine nj_again (j + 1) hjl (by omega) rfl (by (repeat (first | exact trivial | refine And.intro rfl ?_))) (by (repeat (first | exact trivial | refine And.intro rfl ?_))) rfl (by (repeat' (first | exact trivial | constructor))) (by (repeat' exact trivial))
  (repeat (first | refine cj_seq ?_ | (refine cj_region ?_; refine oj_run TT rfl ?_)))
  refine oj_callS rfl rfl rfl rfl rfl Tryd.call61 (by (repeat' (first | exact trivial | constructor))) (Room_c σ3 L S no nc HN a k) fun v σ4 hle4 hv => ⟨.a (.v (.int .i64 (roomG L a k))), trivial, hv.symm, ?_⟩
  have H := H.mono hle4
  refine oj_run TT rfl ?_
  refine oj_callS rfl rfl rfl rfl rfl Tryd.call61 (by (repeat' (first | exact trivial | constructor))) (Room_c σ4 L S ao cap H a k) fun v σ5 hle5 hv => ⟨.a (.v (.int .i64 (roomG L a k))), trivial, hv.symm, ?_⟩
  refine oj_run TT rfl ?_
  (repeat (first | refine oj_then ?_ | refine cj_ret ?_))
  refine nj_ret TT rfl fun β w' _ _ => ?_
  show Value.bool (decide (roomG L a k = roomG L a k)) = _
  rw [decide_eq_true rfl]
end Go.Sy
/- From a row's data to what the walks ask: a value that is read in the world is a tree that lies in memory, all of it sealed. -/
namespace Go.Sy
open Go.ChangeShapes Go.RowKit

def snapOf (W : World) : Snap := fun b => W.heap[b]?
theorem snapOf_sealed (W : World) : Sealed (snapOf W) W := fun _ _ h => h
theorem snapOf_cell (W : World) (a : Addr) : (snapOf W).cell a = W.cell? a := rfl

/-- The types of a value: itself, its list, its members, a member, its number, text, number, truth. -/
structure VT (P : Program) (tV tL tM tE tD tS tI tB : TypeId) : Prop where
  v : ∃ fs : Array Field, P.underlying tV = some (.struct fs) ∧ fs.toList.map (fun f => (f.type, f.offset)) = [(tI, 0), (tB, 1), (tD, 2), (tS, 5), (tL, 6), (tM, 7)]
  l : P.underlying tL = some (.slice tV)
  m : P.underlying tM = some (.slice tE)
  e : ∃ fs : Array Field, P.underlying tE = some (.struct fs) ∧ fs.toList.map (fun f => (f.type, f.offset)) = [(tS, 0), (tV, 1)]
  d : ∃ fs : Array Field, P.underlying tD = some (.struct fs) ∧ fs.toList.map (fun f => (f.type, f.offset)) = [(tB, 0), (tS, 1), (tI, 2)]
  s : P.underlying tS = some .string
  i : P.underlying tI = some (.int .i64)
  b : P.underlying tB = some .bool
  cV : P.cellsOf tV = 8
  cE : P.cellsOf tE = 9
  cD : P.cellsOf tD = 3
  cS : P.cellsOf tS = 1
  cI : P.cellsOf tI = 1
  cB : P.cellsOf tB = 1
  cL : P.cellsOf tL = 1
  cM : P.cellsOf tM = 1
  bV : 0 < P.bytesOf tV
  bE : 0 < P.bytesOf tE

section
variable {H : Type} {enc : TypeId × Value → H} {P : Program} {w : World} {sp : Nat → Bool} {held : Bool}

theorem field_at {fs : Array Field} {l : List (TypeId × Nat)} (h : fs.toList.map (fun f => (f.type, f.offset)) = l) {i : Nat} {t : TypeId} {o : Nat} (hi : l[i]? = some (t, o)) :
    ∃ f, fs[i]? = some f ∧ f.type = t ∧ f.offset = o := by
  subst h
  rw [List.getElem?_map] at hi
  simp only [Option.map_eq_some_iff, Prod.mk.injEq] at hi
  obtain ⟨f, h1, h2, h3⟩ := hi
  exact ⟨f, by simpa using h1, h2, h3⟩

theorem open_struct {t : TypeId} {fs : Array Field} {l : List (TypeId × Nat)} {n : Nat} {cs : List Value} {x : DataW H × List MemPlace} (hu : P.underlying t = some (.struct fs)) (hl : fs.toList.map (fun f => (f.type, f.offset)) = l)
    (h : DataW.trod enc P w 0 sp held n t cs = some x) :
    ∃ m, m < n ∧ cs.length = P.cellsOf t ∧ ∀ (i : Nat) (u : TypeId) (o : Nat), l[i]? = some (u, o) → ∃ y : DataW H × List MemPlace, DataW.trod enc P w 0 sp held m u ((cs.drop o).take (P.cellsOf u)) = some y ∧ ∀ k ∈ y.1.weights P u, k ∈ x.1.weights P t := by
  obtain ⟨xs, m, rfl, rfl, h1, h2, h3⟩ := DataW.trod_struct hu h
  refine ⟨m, by omega, h1, fun i u o hi => ?_⟩
  obtain ⟨f, hf, rfl, rfl⟩ := field_at hl hi
  have hi' : i < xs.length := by
    rw [h2]
    have := (List.getElem?_eq_some_iff.1 (show fs.toList[i]? = some f by simpa using hf)).1
    simpa using this
  refine ⟨xs[i], by rw [h3 i f hf, List.getElem?_eq_getElem hi'], fun k hk => ?_⟩
  rw [DataW.weights.eq_def]
  simp only [hu]
  exact DataW.weights_mem_each (j := i) (t := f.type) (d := xs[i].1) (by simp; exact ⟨f, by simpa using hf, rfl⟩) (by simp [List.getElem?_eq_getElem hi']) k hk

theorem weightsAll_mem {e : TypeId} : ∀ {ds : List (DataW H)} {d : DataW H}, d ∈ ds → ∀ k ∈ d.weights P e, k ∈ DataW.weightsAll P e ds
  | _ :: _, _, .head _, k, hk => by rw [DataW.weightsAll]; exact List.mem_append_left _ hk
  | _ :: _, _, .tail _ h, k, hk => by rw [DataW.weightsAll]; exact List.mem_append_right _ (weightsAll_mem h k hk)

theorem open_sl {t e : TypeId} {n sz : Nat} {c : Value} {x : DataW H × List MemPlace} (hu : P.underlying t = some (.slice e)) (hc : P.cellsOf e = sz) (hb : 0 < P.bytesOf e) (h : DataW.trod enc P w 0 sp held n t [c] = some x)
    (hw : ∀ k ∈ x.1.weights P t, k ≤ reachBytes) :
    ∃ (ao : Option Addr) (len cap m : Nat), c = .slice ao len cap ∧ m < n ∧ len ≤ cap ∧ len ≤ reachBytes ∧
      (len = 0 ∨ ∃ a, ao = some a ∧ ∀ i, i < len → ∃ (cs : List Value) (y : DataW H × List MemPlace), cs.length = sz ∧ (∀ j v, cs[j]? = some v → w.cell? (a.add (i * sz + j)) = some v) ∧
        DataW.trod enc P w 0 sp held m e cs = some y ∧ ∀ k ∈ y.1.weights P e, k ∈ x.1.weights P t) := by
  rcases DataW.trod_slice hu h with ⟨h1, rfl⟩ | ⟨a, len, cap, elems, rest, m, rfl, h1, rfl, _, h3, h4, h5, h6, _, _⟩
  · injection h1 with h1
    subst h1
    refine ⟨none, 0, 0, 0, rfl, ?_, Nat.le_refl _, by decide, .inl rfl⟩
    cases n with
    | zero => simp [DataW.trod] at h
    | succ n => omega
  · injection h1 with h1
    subst h1
    have hwt : (DataW.slice (elems.map (·.1)) (rest.map (·.1)) : DataW H).weights P t = ((elems.map (·.1)).length + (rest.map (·.1)).length) * P.bytesOf e :: (DataW.weightsAll P e (elems.map (·.1)) ++ DataW.weightsAll P e (rest.map (·.1))) := by
      rw [DataW.weights.eq_def]
      simp only [hu]
    refine ⟨some a, len, cap, m, rfl, by omega, h3, ?_, .inr ⟨a, rfl, fun i hi => ?_⟩⟩
    · have := hw _ (by rw [hwt]; exact List.mem_cons_self)
      simp only [List.length_map] at this
      have h7 : elems.length ≤ (elems.length + rest.length) * P.bytesOf e := Nat.le_trans (Nat.le_add_right _ _) (Nat.le_mul_of_pos_right _ hb)
      omega
    · have hi' : i < elems.length := by omega
      have h8 := h6 i hi
      rw [List.getElem?_eq_getElem hi', hc] at h8
      obtain ⟨cs, h9, h10⟩ := Option.bind_eq_some_iff.1 h8
      obtain ⟨_, h11, h12⟩ := World.cells?_some h9
      refine ⟨cs, elems[i], h11, fun j v hj => ?_, h10, fun k hk => ?_⟩
      · have hj' : j < sz := by rw [← h11]; exact (List.getElem?_eq_some_iff.1 hj).1
        have := h12 j hj'
        rw [hj] at this
        rw [← this]
        congr 1
        exact (Addr.add_add _ _ _).symm
      · rw [hwt]
        exact List.mem_cons_of_mem _ (List.mem_append_left _ (weightsAll_mem (List.mem_map.2 ⟨elems[i], List.getElem_mem hi', rfl⟩) k hk))

theorem RepL.range {σ : Snap} {G : Nat → GVal} {R : Nat → List AT} : ∀ l : List Nat, (∀ i ∈ l, RepV σ (G i) (R i)) → RepL σ (l.map G) (l.map R)
  | [], _ => by simp [RepL]
  | a :: l, h => by
    simp only [List.map_cons, RepL]
    exact ⟨R a, l.map R, rfl, h a List.mem_cons_self, RepL.range l fun i hi => h i (List.mem_cons_of_mem _ hi)⟩

theorem keyRows_range (K : Nat → ByteArray) (R : Nat → List AT) : ∀ l : List Nat, keyRows (l.map K) (l.map R) = l.map fun i => keyRow (K i) (R i)
  | [] => rfl
  | a :: l => by simp [keyRows, keyRows_range K R l]

/-- What each of its elements is, read off the memory. -/
theorem slAt_range {ao : Option Addr} {len cap sz : Nat} {R : Nat → List AT} (h1 : len ≤ cap) (h2 : ∀ i, i < len → (R i).length = sz ∧ ∀ c ∈ R i, c.lt 0)
    (h3 : len = 0 ∨ ∃ a, ao = some a ∧ ∀ i, i < len → ∀ j v, ((R i).map (AT.den β0))[j]? = some v → w.cell? (a.add (i * sz + j)) = some v) : SlAt (snapOf w) ao len cap sz ((List.range len).map R) := by
  refine ⟨by simp, h1, fun r hr => ?_, ?_⟩
  · obtain ⟨i, hi, rfl⟩ := List.mem_map.1 hr
    exact h2 i (List.mem_range.1 hi)
  · rcases h3 with h3 | ⟨a, h3, h4⟩
    · exact .inl h3
    · refine .inr ⟨a, h3, fun i r j c hr hc => ?_⟩
      rw [List.getElem?_map] at hr
      obtain ⟨i', h5, rfl⟩ := Option.map_eq_some_iff.1 hr
      obtain ⟨h6, h7⟩ := List.getElem?_eq_some_iff.1 h5
      have h8 : i < len := by simpa using h6
      have h9 : i' = i := by simpa using h7.symm
      subst h9
      rw [snapOf_cell]
      exact h4 i' h8 j _ (by rw [List.getElem?_map, hc]; rfl)

variable {tV tL tM tE tD tS tI tB : TypeId}

theorem open_str {n : Nat} {t : TypeId} {c : Value} {x : DataW H × List MemPlace} (hu : P.underlying t = some .string) (h : DataW.trod enc P w 0 sp held n t [c] = some x) (hw : ∀ k ∈ x.1.weights P t, k ≤ reachBytes) :
    ∃ s : ByteArray, c = .string s ∧ s.size ≤ mostLen := by
  obtain ⟨s, h1, rfl, _⟩ := DataW.trod_string hu h
  injection h1 with h1
  subst h1
  refine ⟨s, rfl, ?_⟩
  have := hw s.data.toList.length (by rw [DataW.weights.eq_def]; exact List.mem_cons_self)
  have h2 : s.data.toList.length = s.size := rfl
  rw [h2] at this
  exact this

/-- A VALUE THAT IS READ is a tree, and lies there. -/
theorem open_val (T : VT P tV tL tM tE tD tS tI tB) : ∀ (n : Nat) (cs : List Value) (x : DataW H × List MemPlace), DataW.trod enc P w 0 sp held n tV cs = some x → (∀ k ∈ x.1.weights P tV, k ≤ reachBytes) →
    ∃ (g : GVal) (r : List AT), cs = r.map (AT.den β0) ∧ RepV (snapOf w) g r := by
  intro n
  induction n using Nat.strongRecOn with
  | _ n ih => ?_
  intro cs x h hw
  obtain ⟨fs, hu, hl⟩ := T.v
  obtain ⟨m, hm, hlen, hf⟩ := open_struct hu hl h
  rw [T.cV] at hlen
  match cs, hlen with
  | [c0, c1, c2, c3, c4, c5, c6, c7], _ =>
  obtain ⟨y0, h0, _⟩ := hf 0 tI 0 rfl
  obtain ⟨y1, h1, _⟩ := hf 1 tB 1 rfl
  obtain ⟨y2, h2, w2⟩ := hf 2 tD 2 rfl
  obtain ⟨y3, h3, w3⟩ := hf 3 tS 5 rfl
  obtain ⟨y4, h4, w4⟩ := hf 4 tL 6 rfl
  obtain ⟨y5, h5, w5⟩ := hf 5 tM 7 rfl
  rw [T.cI] at h0
  rw [T.cB] at h1
  rw [T.cD] at h2
  rw [T.cS] at h3
  rw [T.cL] at h4
  rw [T.cM] at h5
  simp only [List.drop_zero, List.drop_succ_cons, List.take_succ_cons, List.take_zero] at h0 h1 h2 h3 h4 h5
  obtain ⟨k, e0, -, -⟩ := DataW.trod_int T.i h0
  obtain ⟨b, e1, -⟩ := DataW.trod_bool T.b h1
  obtain ⟨s, e5, hs⟩ := open_str T.s h3 fun k hk => hw k (w3 k hk)
  obtain ⟨fd, hud, hld⟩ := T.d
  obtain ⟨md, hmd, -, hfd⟩ := open_struct hud hld h2
  obtain ⟨z0, g0, _⟩ := hfd 0 tB 0 rfl
  obtain ⟨z1, g1, v1⟩ := hfd 1 tS 1 rfl
  obtain ⟨z2, g2, _⟩ := hfd 2 tI 2 rfl
  rw [T.cB] at g0
  rw [T.cS] at g1
  rw [T.cI] at g2
  simp only [List.drop_zero, List.drop_succ_cons, List.take_succ_cons, List.take_zero] at g0 g1 g2
  obtain ⟨ng, e2, -⟩ := DataW.trod_bool T.b g0
  obtain ⟨dg, e3, hdg⟩ := open_str T.s g1 fun k hk => hw k (w2 k (v1 k hk))
  obtain ⟨ex, e4, -, -⟩ := DataW.trod_int T.i g2
  injection e0 with e0
  injection e1 with e1
  injection e2 with e2
  injection e4 with e4
  subst e0 e1 e2 e3 e4 e5
  obtain ⟨la, ll, lc, ml, rfl, hml, hll, hlr, hle⟩ := open_sl T.l T.cV T.bV h4 fun k hk => hw k (w4 k hk)
  obtain ⟨ma, lm, mc, mm, rfl, hmm, hlm, hmr, hme⟩ := open_sl T.m T.cE T.bE h5 fun k hk => hw k (w5 k hk)
  have HL : ∀ i, ∃ gr : GVal × List AT, i < ll → RepV (snapOf w) gr.1 gr.2 ∧ ∀ a, la = some a → ∀ j v, (gr.2.map (AT.den β0))[j]? = some v → w.cell? (a.add (i * 8 + j)) = some v := by
    intro i
    by_cases hi : i < ll
    · rcases hle with h0 | ⟨a, rfl, hle⟩
      · omega
      · obtain ⟨cs, y, _, q2, q3, q4⟩ := hle i hi
        obtain ⟨g, r, rfl, hr⟩ := ih ml (by omega) cs y q3 fun k hk => hw k (w4 k (q4 k hk))
        exact ⟨(g, r), fun _ => ⟨hr, fun a' ha => by injection ha with ha; subst ha; exact q2⟩⟩
    · exact ⟨(.mk 0 false ⟨false, ⟨#[]⟩, 0⟩ ⟨#[]⟩ [] [] [], []), fun h => absurd h hi⟩
  have HM : ∀ i, ∃ gr : ByteArray × GVal × List AT, i < lm → gr.1.size ≤ mostLen ∧ RepV (snapOf w) gr.2.1 gr.2.2 ∧ ∀ a, ma = some a → ∀ j v, ((keyRow gr.1 gr.2.2).map (AT.den β0))[j]? = some v → w.cell? (a.add (i * 9 + j)) = some v := by
    intro i
    by_cases hi : i < lm
    · rcases hme with h0 | ⟨a, rfl, hme⟩
      · omega
      · obtain ⟨cs, y, q1, q2, q3, q4⟩ := hme i hi
        obtain ⟨fe, hue, hle'⟩ := T.e
        obtain ⟨me, hme', -, hfe⟩ := open_struct hue hle' q3
        obtain ⟨u0, p0, x0⟩ := hfe 0 tS 0 rfl
        obtain ⟨u1, p1, x1⟩ := hfe 1 tV 1 rfl
        rw [T.cS] at p0
        rw [T.cV] at p1
        match cs, q1 with
        | c :: cs', q1 =>
          simp only [List.drop_zero, List.drop_succ_cons, List.take_succ_cons, List.take_zero] at p0 p1
          rw [List.take_of_length_le (by simp at q1; omega)] at p1
          obtain ⟨key, rfl, hk⟩ := open_str T.s p0 fun k hk => hw k (w5 k (q4 k (x0 k hk)))
          obtain ⟨g, r, rfl, hr⟩ := ih me (by omega) cs' u1 p1 fun k hk => hw k (w5 k (q4 k (x1 k hk)))
          exact ⟨(key, g, r), fun _ => ⟨hk, hr, fun a' ha => by injection ha with ha; subst ha; exact q2⟩⟩
    · exact ⟨(⟨#[]⟩, .mk 0 false ⟨false, ⟨#[]⟩, 0⟩ ⟨#[]⟩ [] [] [], []), fun h => absurd h hi⟩
  obtain ⟨FL, HL⟩ := Classical.axiomOfChoice HL
  obtain ⟨FM, HM⟩ := Classical.axiomOfChoice HM
  refine ⟨.mk k b ⟨ng, dg, ex⟩ s ((List.range ll).map fun i => (FL i).1) ((List.range lm).map fun i => (FM i).1) ((List.range lm).map fun i => (FM i).2.1),
    [.v (.int .i64 k), .b b, .b ng, .v (.string dg), .v (.int .i64 ex), .v (.string s), .v (.slice la ll lc), .v (.slice ma lm mc)], rfl, ?_⟩
  simp only [RepV]
  refine ⟨la, lc, (List.range ll).map fun i => (FL i).2, ma, mc, (List.range lm).map fun i => (FM i).2.2, by simp, ?_, RepL.range _ fun i hi => (HL i (List.mem_range.1 hi)).1, by simp, ?_, RepL.range _ fun i hi => (HM i (List.mem_range.1 hi)).2.1, hdg, hs, by simpa [mostLen, reachBytes] using hlr, by simpa [mostLen, reachBytes] using hmr, ?_⟩
  · simp only [List.length_map, List.length_range]
    refine slAt_range hll (fun i hi => ⟨(HL i hi).1.len, (HL i hi).1.clo⟩) ?_
    rcases hle with h0 | ⟨a, rfl, _⟩
    · exact .inl h0
    · exact .inr ⟨a, rfl, fun i hi => (HL i hi).2 a rfl⟩
  · rw [keyRows_range]
    simp only [List.length_map, List.length_range]
    refine slAt_range hlm (fun i hi => ⟨by simp [keyRow, (HM i hi).2.1.len], fun c hc => ?_⟩) ?_
    · cases hc with
      | head => trivial
      | tail _ hc => exact (HM i hi).2.1.clo c hc
    · rcases hme with h0 | ⟨a, rfl, _⟩
      · exact .inl h0
      · exact .inr ⟨a, rfl, fun i hi => (HM i hi).2.2 a rfl⟩
  · intro key hk
    obtain ⟨i, hi, rfl⟩ := List.mem_map.1 hk
    exact (HM i (List.mem_range.1 hi)).1

end
end Go.Sy
