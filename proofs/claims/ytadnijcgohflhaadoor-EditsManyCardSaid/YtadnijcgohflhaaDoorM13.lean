/- Parts of the proof of CEditsMany: Lm, Ln, F54, XCl, XRow, CFacts. No conditions. -/
import Derived.Test.YtadnijcgohflhaaDoorM12
import Derived.Carry
import Derived.RowKit
import Derived.ChangeStays
import Derived.ChangeSame
import Derived.ReadAgain
import Derived.SizedLaws
import Derived.Deep.DeepHandedRow
import Derived.ProofKit
import Derived.OpenShut
import Derived.Lay
import Derived.SevenTiedAt
import Derived.Stop.Joined
import Derived.Test.YtadnijcgohflhaaDoorCards
import Derived.Test.YtadnijcgohflhaaDoorTie
/- Plain law: a value that is laid again and again ahead of all others. No program in sight. -/
namespace Go.Sy

/-! ### Lists that lie as a value's records -/

theorem LayI.lo_up {xs : List Itm} {lv lo hi : Int} {K : List GRec} (h : LayI xs lv lo K hi) {r : GRec} (hr : K.head? = some r) : LayI xs lv (r.st - 1) K hi := by
  cases h with
  | nil h => cases hr
  | cons a b =>
    cases a with
    | mk h1 h2 h3 h4 =>
      rw [List.cons_append, List.head?_cons, Option.some.injEq] at hr
      subst hr
      exact .cons (.mk (by dsimp only; omega) h2 h3 h4) b
theorem LayI.nil_of {xs : List Itm} {lv lo hi : Int} (h : LayI xs lv lo [] hi) : xs = [] := by
  cases xs with
  | nil => rfl
  | cons x xs =>
    generalize hK : ([] : List GRec) = K at h
    cases h with
    | cons a b => cases a with | mk h1 h2 h3 h4 => cases hK

/-- No text is longer than the value weighs. -/
theorem its_name_w {g : GVal} {x : Itm} (hx : x ∈ its g) : x.name.size ≤ g.weight := by
  rcases List.mem_append.1 hx with hm | hm
  · obtain ⟨y, _, rfl⟩ := List.mem_map.1 hm
    exact Nat.zero_le _
  · obtain ⟨m, hm'⟩ := List.mem_iff_getElem?.1 hm
    have h1 := size_mem (List.mem_of_getElem? (itsM_get _ _ _ _ hm').2.1)
    rw [g.weight_eq]
    omega
mutual
theorem LayV.fitc : ∀ {g : GVal} {lv : Int} {nm : Bool} {name : ByteArray} {lo hi : Int} {L : List GRec}, LayV g lv nm name lo L hi → ∀ {c : Nat}, g.wf → g.weight ≤ c → name.size ≤ c → ∀ r ∈ L, r.n.dg.size ≤ c ∧ r.s.size ≤ c ∧ r.name.size ≤ c
  | g, _, _, _, _, _, _, .mk h1 h2 h3 h4, c, hw, hg, hn => by
    intro r hr
    have he := g.weight_eq
    rcases List.mem_cons.1 hr with rfl | hr
    · exact ⟨by dsimp only; omega, by dsimp only; omega, hn⟩
    · exact h2.fitc (fun x hx => ⟨its_wf hw hx, by have := in_weight (its_mem hw hx); omega, by have := its_name_w hx; omega⟩) r hr
theorem LayI.fitc : ∀ {xs : List Itm} {lv lo hi : Int} {L : List GRec}, LayI xs lv lo L hi → ∀ {c : Nat}, (∀ x ∈ xs, x.v.wf ∧ x.v.weight ≤ c ∧ x.name.size ≤ c) → ∀ r ∈ L, r.n.dg.size ≤ c ∧ r.s.size ≤ c ∧ r.name.size ≤ c
  | _, _, _, _, _, .nil h, _, _ => fun r hr => by cases hr
  | x :: xs, _, _, _, _, .cons h1 h2, c, hx => by
    intro r hr
    have h0 := hx x List.mem_cons_self
    rcases List.mem_append.1 hr with hr | hr
    · exact h1.fitc h0.1 h0.2.1 h0.2.2 r hr
    · exact h2.fitc (fun y hy => hx y (List.mem_cons_of_mem _ hy)) r hr
end
theorem LayV.fit {g : GVal} {lo hi : Int} {L : List GRec} (h : LayV g 0 false emptyS lo L hi) (hw : g.wf) (hg : g.weight ≤ mostLen) : RecsFit L := h.fitc hw hg (Nat.zero_le _)
theorem LayV.recsW {g : GVal} {lo hi : Int} {L : List GRec} (h : LayV g 0 false emptyS lo L hi) (hw : g.wf) : Go.Sy.recsW L ≤ g.weight := by
  rw [recsW_er (h.er_eq hw 1 0)]
  exact recsW_V 1 g 0 false emptyS 0

theorem lay_sound {g : GVal} {lo hi : Int} {L : List GRec} (h : LayV g 0 false emptyS lo L hi) (h0 : -1 ≤ lo) (hw : g.wf) (hs : sane g = 0) (hl : L.length ≤ 4096) (hen : hi ≤ 1099511627776) : soundG L = true := by
  unfold soundG
  rw [h.buildR h0 hw hs hl hen]
  rfl
theorem lay_snd {g : GVal} {lo hi : Int} {L : List GRec} (h : LayV g 0 false emptyS lo L hi) (h0 : -1 ≤ lo) (hw : g.wf) (hl : L.length ≤ 4096) (hen : hi ≤ 1099511627776) (hgw : g.weight ≤ 100000) : SndL L := by
  have hF := h.fit hw (by simp only [mostLen]; omega)
  have hbd := h.bd
  refine ⟨⟨by simp only [mostLen]; omega, hF, fun _ => ?_⟩, by omega, fun _ i _ => ⟨(kidsG_bd L i).1, by have := (kidsG_bd L i).2; omega⟩, fun _ r hr => ?_⟩
  · rw [h.built hw]
    show g.weight ≤ _
    omega
  · have := hbd r hr
    omega
theorem sound_place {L : List GRec} (h : soundG L = true) {i : Nat} (hi : i < L.length) : placeE L i = 0 := by
  unfold placeE
  rw [if_neg (by rw [h]; decide), if_neg (by omega)]

/-! ### A list of truths -/

def bG (b : Bool) : GVal := .mk 1 b dec0 emptyS [] [] []
def manyG (bs : List Bool) : GVal := .mk 4 false dec0 emptyS (bs.map bG) [] []

theorem bs_wfs : ∀ bs : List Bool, GVal.wfs (bs.map bG)
  | [] => trivial
  | b :: bs => ⟨⟨rfl, trivial, trivial⟩, bs_wfs bs⟩
theorem many_wf (bs : List Bool) : (manyG bs).wf := ⟨rfl, bs_wfs bs, trivial⟩
theorem bs_w : ∀ bs : List Bool, GVal.weights (bs.map bG) = bs.length
  | [] => rfl
  | b :: bs => by
    have : (bG b).weight = 1 := rfl
    rw [List.map_cons, GVal.weights, bs_w bs, this, List.length_cons]
    omega
theorem many_w (bs : List Bool) : (manyG bs).weight = 1 + bs.length := by
  rw [GVal.weight_eq]
  show 1 + 0 + 0 + GVal.weights (bs.map bG) + 0 + 0 = _
  rw [bs_w]
  omega
theorem bs_sane : ∀ (bs : List Bool) (c : Int), c + bs.length ≤ 4096 → saneL (bs.map bG) 0 c = (0, c + bs.length)
  | [], c, _ => by simp [saneL]
  | b :: bs, c, h => by
    rw [List.length_cons] at h
    have h1 : saneG (bG b) (0 + 1) c = (0, c + 1) := by
      rw [saneG_eq]
      have hf : fieldsG (bG b) = true := by
        rw [fieldsG_1 (show (bG b).kind = 1 from rfl)]
        rfl
      rw [if_neg (by rw [hf]; decide), if_neg (by show ¬ twiceG [] = true; decide), if_neg (by show ¬ ((4 : Int) ≤ 1 ∧ _); omega), if_neg (by omega)]
      rfl
    rw [List.map_cons, saneL, h1, if_neg (by simp), bs_sane bs (c + 1) (by omega), List.length_cons]
    congr 1
    omega
theorem many_sane (bs : List Bool) (h : bs.length ≤ 1000) : sane (manyG bs) = 0 := by
  unfold sane
  rw [saneG_eq]
  have hf : fieldsG (manyG bs) = true := by
    rw [fieldsG_4 (show (manyG bs).kind = 4 from rfl)]
    rfl
  rw [if_neg (by rw [hf]; decide), if_neg (by show ¬ twiceG [] = true; decide), if_neg (by omega), if_neg (by omega)]
  show (saneL (bs.map bG ++ []) 0 (0 + 1)).1 = 0
  rw [List.append_nil, bs_sane bs _ (by omega)]

theorem b_sane (b : Bool) : sane (bG b) = 0 := by cases b <;> decide

/-- WHAT IS LAID AHEAD OF ALL OTHERS IS AHEAD OF THEM. -/
theorem many_ins {bs : List Bool} {L : List GRec} (h : LayV (manyG bs) 0 false emptyS 0 L 100000) (hb : bs.length ≤ 40) (b : Bool) :
    ∃ M mv, insertG L 0 0 emptyS (bG b) = ⟨M, 1, mv, 0⟩ ∧ LayV (manyG (b :: bs)) 0 false emptyS 0 M 100000 ∧ (0 < mv ↔ roomG L 0 0 < 2) := by
  have hlen := h.len (many_wf bs)
  have hcnt : L.length ≤ 100 := by
    have h1 := shredV_cnt 1 (manyG bs) 0 false emptyS 0 (many_wf bs)
    have h2 := (shredV_len 1 (manyG bs) 0 false emptyS 0).1
    rw [many_w] at h2
    omega
  have hsound := lay_sound h (by omega) (many_wf bs) (many_sane bs (by omega)) (by omega) (by omega)
  cases h with
  | mk h1 h2 h3 h4 =>
    rename_i st en m K
    have hbd := h2.bd
    generalize hr0 : (⟨st, en, 0, (manyG bs).kind, false, emptyS, (manyG bs).b, (manyG bs).n, (manyG bs).s⟩ : GRec) = r0 at *
    have hst : r0.st = st := by rw [← hr0]
    have hen : r0.en = en := by rw [← hr0]
    have hlv : r0.lv = 0 := by rw [← hr0]
    have hkd : r0.kd = 4 := by rw [← hr0]; rfl
    have hle := h2.le
    have hpl : placeE (r0 :: K) 0 = 0 := sound_place (i := 0) hsound (by simp)
    -- the gap ahead of all
    have hE : ∃ hE : Int, gapG (r0 :: K) 0 0 = some ⟨1, st, hE⟩ ∧ st < hE ∧ ∃ m', m' < en ∧ LayI (its (manyG bs)) (0 + 1) (hE - 1) K m' := by
      have hg : ∀ e : Int, (if 0 < (kidsG (r0 :: K) 0).length then stAt (r0 :: K) ((kidsG (r0 :: K) 0).getD 0 0) else enAt (r0 :: K) 0) = e → gapG (r0 :: K) 0 0 = some ⟨1, st, e⟩ := by
        intro e he
        unfold gapG
        rw [if_neg (by omega)]
        unfold gapK
        rw [show (0 : Int).toNat = 0 from rfl, if_neg (by omega), if_neg (by omega), he, st_at (show (r0 :: K)[0]? = some r0 from rfl), hst]
        rfl
      cases K with
      | nil =>
        have hx := h2.nil_of
        refine ⟨en, hg en ?_, by omega, en - 1, by omega, ?_⟩
        · have : kidsG [r0] 0 = [] := by
            unfold kidsG
            show kidsF [r0] _ 1 (0 + 1) = []
            unfold kidsF
            rw [dif_neg (by simp)]
          rw [this, if_neg (by simp), en_at (show [r0][0]? = some r0 from rfl), hen]
        · rw [hx]
          exact .nil (Int.le_refl _)
      | cons r1 K1 =>
        have hb1 := hbd r1 List.mem_cons_self
        refine ⟨r1.st, hg r1.st ?_, by omega, m, h3, h2.lo_up rfl⟩
        have : kidsG (r0 :: r1 :: K1) 0 = 1 :: kidsF (r0 :: r1 :: K1) r0.en (K1.length + 1) (runK (r0 :: r1 :: K1) r1.en (1 + 1)) := by
          unfold kidsG
          rw [List.length_cons, List.length_cons]
          conv => lhs; unfold kidsF
          rw [dif_pos (by simp), if_pos (by show r1.st < r0.en; omega)]
          rfl
        rw [this, if_pos (by simp)]
        rfl
    obtain ⟨hE, hgap, hlt, m', hm', hK⟩ := hE
    -- what is laid
    have hlaid : laidG (bG b) (topG r0 false emptyS) (gapN ⟨1, st, hE⟩ (cntS (bG b))) = [⟨st + (hE - st).tdiv 3 * 1, st + (hE - st).tdiv 3 * 2, 0 + 1, 1, false, emptyS, b, dec0, emptyS⟩] := by
      have hv : shredV 1 (bG b) 0 false emptyS 0 = ([⟨1, 2, 0, 1, false, emptyS, b, dec0, emptyS⟩], 2) := rfl
      have hc : cntS (bG b) = 1 := rfl
      have h0 : (topG r0 false emptyS).lv = 0 + 1 := by show r0.lv + 1 = _; rw [hlv]
      unfold laidG
      rw [hv, hc]
      show [_] = [_]
      unfold lift
      rw [h0]
      rfl
    generalize hn0 : (⟨st + (hE - st).tdiv 3 * 1, st + (hE - st).tdiv 3 * 2, 0 + 1, 1, false, emptyS, b, dec0, emptyS⟩ : GRec) = n0 at *
    have hsp : spliced (r0 :: K) 1 1 [n0] = r0 :: (n0 :: K) := by simp [spliced]
    have her : (r0 :: (n0 :: K)).map er = (shredV 1 (manyG (b :: bs)) 0 false emptyS 0).1.map er := by
      rw [shredV_its 1 (manyG (b :: bs)) 0 false emptyS 0 (many_wf _)]
      have hits : its (manyG (b :: bs)) = ⟨false, emptyS, bG b⟩ :: its (manyG bs) := rfl
      have hv : shredV 1 (bG b) (0 + 1) false emptyS (0 + 1) = ([⟨2, 3, 1, 1, false, emptyS, b, dec0, emptyS⟩], 3) := rfl
      rw [hits, shredI, hv]
      dsimp only
      rw [List.map_cons, List.map_cons, List.map_cons, List.singleton_append, List.map_cons, h2.er_eq (wfs_its (many_wf bs)) 1 3, ← hr0, ← hn0]
      rfl
    have hsane := many_sane (b :: bs) (by rw [List.length_cons]; omega)
    have hanew : anewG (r0 :: (n0 :: K)) = ((shredV 8 (manyG (b :: bs)) 0 false emptyS 0).1, 0) := by
      unfold anewG
      rw [tree_renum (many_wf _) her, shredG_ok (by omega) (by omega) hsane]
    have hins : insertG (r0 :: K) 0 0 emptyS (bG b) = runG (r0 :: K) 1 1 [n0] (hE - st - 1) := by
      unfold insertG
      rw [if_neg (by rw [hpl]; decide)]
      show (if r0.kd ≠ 4 ∧ r0.kd ≠ 5 then _ else _) = _
      rw [if_neg (by omega), show (0 : Int).toNat = 0 from rfl, hgap]
      dsimp only
      rw [if_neg (by omega), if_neg (by rw [b_sane]; decide), hlaid]
      rfl
    have hroom : roomG (r0 :: K) 0 0 = hE - st - 1 := by
      unfold roomG
      rw [if_neg (by rw [hpl]; decide), show (0 : Int).toNat = 0 from rfl, hgap]
    rw [hins, hroom]
    unfold runG
    rw [hsp, hanew]
    dsimp only
    rw [if_neg (by decide)]
    by_cases hc : hE - st - 1 < 2
    · rw [if_pos (by show _ < 2 * ((1 : Nat) : Int); omega)]
      refine ⟨_, _, rfl, ?_, ?_⟩
      · have hl := shred_lay (gap := 8) (by omega) (many_wf (b :: bs)) 0 false emptyS 0
        refine hl.up (by omega) ?_
        have h5 := shredV_now (gap := 8) (manyG (b :: bs)) 0 false emptyS 0 (by omega) (by omega)
        rw [many_w, (shredV_sk 8 (manyG (b :: bs)) 0 false emptyS 0 (many_wf _)).2, List.length_cons] at h5
        omega
      · rw [List.length_cons]
        refine ⟨fun _ => hc, fun _ => by omega⟩
    · rw [if_neg (by show ¬ _ < 2 * ((1 : Nat) : Int); omega)]
      refine ⟨_, _, rfl, ?_, ⟨fun h => by omega, fun h => absurd h hc⟩⟩
      have hts : 1 ≤ (hE - st).tdiv 3 ∧ 3 * (hE - st).tdiv 3 ≤ hE - st := by
        rw [Int.tdiv_eq_ediv_of_nonneg (by omega)]
        omega
      have hA : LayV (bG b) (0 + 1) false emptyS st [n0] (hE - 1) := by
        rw [← hn0]
        exact .mk (by omega) (.nil (lo := st + (hE - st).tdiv 3 * 1) (hi := st + (hE - st).tdiv 3 * 1) (Int.le_refl _)) (by omega) (by omega)
      have hI : LayI (⟨false, emptyS, bG b⟩ :: its (manyG bs)) (0 + 1) st ([n0] ++ K) m' := .cons hA hK
      rw [← hr0]
      exact LayV.mk (g := manyG (b :: bs)) h1 hI hm' h4
end Go.Sy
/- Plain laws: records that are laid among a value's. No program in sight. -/
namespace Go.Sy

/-! ### Levels and names -/

def upLv (d : Int) (r : GRec) : GRec := ⟨r.st, r.en, r.lv + d, r.kd, r.nm, r.name, r.b, r.n, r.s⟩

mutual
theorem LayV.lift : ∀ {g : GVal} {lv : Int} {nm : Bool} {name : ByteArray} {lo hi : Int} {L : List GRec}, LayV g lv nm name lo L hi → ∀ d : Int, LayV g (lv + d) nm name lo (L.map (upLv d)) hi
  | _, lv, _, _, _, _, _, .mk h1 h2 h3 h4, d => by
    have h := h2.lift d
    rw [show lv + 1 + d = lv + d + 1 by omega] at h
    exact .mk h1 h h3 h4
theorem LayI.lift : ∀ {xs : List Itm} {lv lo hi : Int} {L : List GRec}, LayI xs lv lo L hi → ∀ d : Int, LayI xs (lv + d) lo (L.map (upLv d)) hi
  | _, _, _, _, _, .nil h, d => .nil h
  | _, _, _, _, _, .cons h1 h2, d => by
    rw [List.map_append]
    exact .cons (h1.lift d) (h2.lift d)
end
theorem LayV.renamed {g : GVal} {lv : Int} {nm : Bool} {name : ByteArray} {lo hi : Int} {L : List GRec} (h : LayV g lv nm name lo L hi) (nm' : Bool) (name' : ByteArray) : LayV g lv nm' name' lo (nameHd nm' name' L) hi := by
  cases h with
  | mk h1 h2 h3 h4 => exact .mk h1 h2 h3 h4

theorem wV1 {g : GVal} (hw : g.wf) : wV 1 g = 2 * (cntV g : Int) := by
  have h1 := (shredV_len 1 g 0 false emptyS 0).2
  have h2 := (shredV_sk 1 g 0 false emptyS 0 hw).2
  have h3 := shredV_cnt 1 g 0 false emptyS 0 hw
  rw [h3] at h1
  omega
theorem wVg {g : GVal} (hw : g.wf) (gap : Int) : wV gap g = 2 * gap * (cntV g : Int) := by
  have h1 := (shredV_len gap g 0 false emptyS 0).2
  have h2 := (shredV_sk gap g 0 false emptyS 0 hw).2
  have h3 := shredV_cnt gap g 0 false emptyS 0 hw
  rw [h3] at h1
  omega
theorem cntS_eq {g : GVal} (hw : g.wf) : cntS g = cntV g := shredV_cnt 1 g 0 false emptyS 0 hw

/-- WHAT IS LAID LIES THERE, whatever numbers it has, as long as these go up. -/
theorem laid_lay {g : GVal} (hw : g.wf) (top : GRec) (ν φ : Int → Int) (hφ : Incr φ) (he : ∀ n : Int, 1 ≤ n → n ≤ 2 * (cntV g : Int) → ν (n - 1) = φ n) :
    LayV g top.lv top.nm top.name (φ 0) (laidG g top ν) (φ (2 * (cntV g : Int))) := by
  have h := shred_lay (gap := 1) (by omega) hw 0 false emptyS 0
  have hb := h.bd
  have h1 := h.map hφ (Int.le_refl _)
  have h2 := (h1.lift top.lv).renamed top.nm top.name
  rw [List.map_map, Int.zero_add, Int.zero_add, wV1 hw] at h2
  unfold laidG
  have hm : (shredV 1 g 0 false emptyS 0).1.map (lift top.lv ν) = (shredV 1 g 0 false emptyS 0).1.map (upLv top.lv ∘ stE φ) := by
    refine List.map_congr_left fun r hr => ?_
    have hr := hb r hr
    rw [wV1 hw] at hr
    unfold lift upLv stE
    dsimp only [Function.comp]
    rw [he r.st (by omega) (by omega), he r.en (by omega) (by omega)]
  rw [hm]
  exact h2

/-- What is laid is the value's records, but for numbers. -/
theorem laid_er {g : GVal} (hw : g.wf) (top : GRec) (ν : Int → Int) (gap now : Int) : (laidG g top ν).map er = (shredV gap g top.lv top.nm top.name now).1.map er := by
  have h2 := (laid_lay hw top (fun n => n + 1) (fun n => n) (fun a b _ h => h) (fun n _ _ => by omega)).er_eq hw gap now
  rw [← h2]
  unfold laidG
  have : ∀ (nm : Bool) (name : ByteArray) (l : List GRec) (f f' : GRec → GRec), (∀ r, er (f r) = er (f' r)) → (nameHd nm name (l.map f)).map er = (nameHd nm name (l.map f')).map er := by
    intro nm name l f f' hf
    cases l with
    | nil => rfl
    | cons r l =>
      show er (Go.Sy.reName nm name (f r)) :: (l.map f).map er = er (Go.Sy.reName nm name (f' r)) :: (l.map f').map er
      have e1 : ∀ q : GRec, er (Go.Sy.reName nm name q) = Go.Sy.reName nm name (er q) := fun q => rfl
      rw [e1, e1, hf r, List.map_map, List.map_map]
      congr 1
      exact List.map_congr_left fun q _ => hf q
  exact this _ _ _ _ _ fun r => rfl
theorem laid_len {g : GVal} (hw : g.wf) (top : GRec) (ν : Int → Int) : (laidG g top ν).length = cntV g := by
  unfold laidG
  rw [nameHd_len, List.length_map]
  exact shredV_cnt 1 g 0 false emptyS 0 hw

/-! ### Sane values -/

mutual
/-- May a value, so many deep, be, but for how many there are? -/
def okAtV : GVal → Int → Prop
  | .mk k b n s l ks vs, deep => fieldsG (.mk k b n s l ks vs) = true ∧ twiceG ks = false ∧ ¬ (4 ≤ k ∧ 64 ≤ deep) ∧ okAtL l (deep + 1) ∧ okAtL vs (deep + 1)
def okAtL : List GVal → Int → Prop
  | [], _ => True
  | g :: gs, deep => okAtV g deep ∧ okAtL gs deep
end
theorem okAtV_eq (g : GVal) (deep : Int) : okAtV g deep ↔ fieldsG g = true ∧ twiceG g.ks = false ∧ ¬ (4 ≤ g.kind ∧ 64 ≤ deep) ∧ okAtL g.l (deep + 1) ∧ okAtL g.vs (deep + 1) := by
  cases g
  simp only [okAtV, GVal.ks, GVal.kind, GVal.l, GVal.vs]
theorem okAtL_mem : ∀ {gs : List GVal} {deep : Int}, okAtL gs deep ↔ ∀ g ∈ gs, okAtV g deep
  | [], _ => ⟨fun _ g h => (by cases h), fun _ => trivial⟩
  | g :: gs, deep => by
    simp only [okAtL, List.mem_cons, forall_eq_or_imp, okAtL_mem (gs := gs)]

mutual
theorem sane_ok : ∀ (g : GVal) (deep c : Int), (saneG g deep c).1 = 0 → okAtV g deep ∧ (saneG g deep c).2 = c + cntV g ∧ c + cntV g ≤ 4096
  | .mk k b n s l ks vs, deep, c, h => by
    simp only [saneG] at h ⊢
    split at h
    · simp at h
    rename_i h1
    split at h
    · simp at h
    rename_i h2
    split at h
    · simp at h
    rename_i h3
    split at h
    · simp at h
    rename_i h4
    rw [if_neg h1, if_neg h2, if_neg h3, if_neg h4]
    have hl : (saneL l deep (c + 1)).1 = 0 := by
      by_cases h0 : (saneL l deep (c + 1)).1 = 0
      · exact h0
      · rw [if_pos h0] at h; exact h
    rw [if_neg (by simp [hl])] at h ⊢
    obtain ⟨a1, a2, a3⟩ := saneL_ok l deep (c + 1) (by omega) hl
    rw [a2] at h ⊢
    obtain ⟨b1, b2, b3⟩ := saneL_ok vs deep _ a3 h
    simp only [okAtV, cntV]
    refine ⟨⟨by simpa using h1, by simpa using h2, h3, a1, b1⟩, by rw [b2]; omega, by omega⟩
theorem saneL_ok : ∀ (gs : List GVal) (deep c : Int), c ≤ 4096 → (saneL gs deep c).1 = 0 → okAtL gs (deep + 1) ∧ (saneL gs deep c).2 = c + cntL gs ∧ c + cntL gs ≤ 4096
  | [], _, c, hc, _ => ⟨trivial, by simp [saneL, cntL], by simp [cntL]; omega⟩
  | g :: gs, deep, c, hc, h => by
    simp only [saneL] at h ⊢
    have hg : (saneG g (deep + 1) c).1 = 0 := by
      by_cases h0 : (saneG g (deep + 1) c).1 = 0
      · exact h0
      · rw [if_pos h0] at h; exact h
    rw [if_neg (by simp [hg])] at h ⊢
    obtain ⟨a1, a2, a3⟩ := sane_ok g (deep + 1) c hg
    rw [a2] at h ⊢
    obtain ⟨b1, b2, b3⟩ := saneL_ok gs deep _ a3 h
    simp only [okAtL, cntL]
    exact ⟨⟨a1, b1⟩, by rw [b2]; omega, by omega⟩
end
mutual
theorem ok_sane : ∀ (g : GVal) (deep c : Int), okAtV g deep → c + cntV g ≤ 4096 → saneG g deep c = (0, c + cntV g)
  | .mk k b n s l ks vs, deep, c, h, hc => by
    simp only [okAtV, cntV] at h hc
    obtain ⟨h1, h2, h3, h4, h5⟩ := h
    simp only [saneG]
    rw [if_neg (by rw [h1]; decide), if_neg (by rw [h2]; decide), if_neg h3, if_neg (by omega), okL_sane l deep (c + 1) h4 (by omega)]
    rw [if_neg (fun h => h rfl), okL_sane vs deep _ h5 (by omega)]
    simp only [cntV]
    congr 1
    omega
theorem okL_sane : ∀ (gs : List GVal) (deep c : Int), okAtL gs (deep + 1) → c + cntL gs ≤ 4096 → saneL gs deep c = (0, c + cntL gs)
  | [], _, c, _, _ => by simp [saneL, cntL]
  | g :: gs, deep, c, h, hc => by
    simp only [okAtL, cntL] at h hc
    rw [saneL, ok_sane g (deep + 1) c h.1 (by omega), if_neg (fun h => h rfl), okL_sane gs deep _ h.2 (by omega)]
    simp only [cntL]
    congr 1
    omega
end
theorem sane_iff {g : GVal} : sane g = 0 ↔ okAtV g 0 ∧ cntV g ≤ 4096 := by
  unfold sane
  constructor
  · intro h
    obtain ⟨h1, -, h3⟩ := sane_ok g 0 0 h
    exact ⟨h1, by omega⟩
  · intro ⟨h1, h2⟩
    rw [ok_sane g 0 0 h1 (by omega)]

/-! ### A value with another one laid in it -/

def insIt (h : GVal) (k : Nat) (key : ByteArray) (x : GVal) : GVal :=
  if h.kind = 4 then .mk h.kind h.b h.n h.s (h.l.take k ++ x :: h.l.drop k) [] [] else .mk h.kind h.b h.n h.s [] (h.ks.take k ++ key :: h.ks.drop k) (h.vs.take k ++ x :: h.vs.drop k)
theorem insIt_kind (h : GVal) (k : Nat) (key : ByteArray) (x : GVal) : (insIt h k key x).kind = h.kind ∧ (insIt h k key x).b = h.b ∧ (insIt h k key x).n = h.n ∧ (insIt h k key x).s = h.s := by
  unfold insIt
  split <;> exact ⟨rfl, rfl, rfl, rfl⟩
theorem itsM_ins : ∀ (vs : List GVal) (ks : List ByteArray) (k : Nat) (key : ByteArray) (x : GVal), ks.length = vs.length → itsM (vs.take k ++ x :: vs.drop k) (ks.take k ++ key :: ks.drop k) = (itsM vs ks).take k ++ ⟨true, key, x⟩ :: (itsM vs ks).drop k
  | [], [], k, key, x, _ => by simp [itsM]
  | v :: vs, q :: ks, 0, key, x, _ => by simp [itsM]
  | v :: vs, q :: ks, k + 1, key, x, h => by
    simp only [List.take_succ_cons, List.drop_succ_cons, List.cons_append, itsM]
    rw [itsM_ins vs ks k key x (by simpa using h)]
  | [], _ :: _, _, _, _, h => by simp at h
  | _ :: _, [], _, _, _, h => by simp at h
theorem kinds_4 {h : GVal} (hd : kinds h) (hw : h.wf) (hk : h.kind = 4) : h.ks = [] ∧ h.vs = [] := by
  obtain ⟨-, k5, -, -⟩ := (kinds_eq h).1 hd
  have h0 : h.ks = [] := by
    cases hks : h.ks with
    | nil => rfl
    | cons a l =>
      have := k5 (by rw [hks]; simp)
      omega
  have := ((wf_eq h).1 hw).1
  rw [h0] at this
  exact ⟨h0, List.eq_nil_of_length_eq_zero this.symm⟩
theorem kinds_5 {h : GVal} (hd : kinds h) (hk : h.kind = 5) : h.l = [] := by
  obtain ⟨k4, -, -, -⟩ := (kinds_eq h).1 hd
  cases hl : h.l with
  | nil => rfl
  | cons a l =>
    have := k4 (by rw [hl]; simp)
    omega
theorem its_ins {h : GVal} (hw : h.wf) (hd : kinds h) (hk : h.kind = 4 ∨ h.kind = 5) (k : Nat) (key : ByteArray) (x : GVal) :
    its (insIt h k key x) = (its h).take k ++ ⟨decide (h.kind = 5), if h.kind = 5 then key else emptyS, x⟩ :: (its h).drop k := by
  unfold insIt
  by_cases h4 : h.kind = 4
  · obtain ⟨e1, e2⟩ := kinds_4 hd hw h4
    rw [if_pos h4, if_neg (by omega), decide_eq_false (by omega)]
    unfold its
    rw [e1, e2]
    show itsL (h.l.take k ++ x :: h.l.drop k) ++ [] = (itsL h.l ++ []).take k ++ _ :: (itsL h.l ++ []).drop k
    rw [List.append_nil, List.append_nil]
    unfold itsL
    rw [List.map_append, List.map_cons, List.map_take, List.map_drop]
  · have h5 : h.kind = 5 := by omega
    rw [if_neg h4, if_pos h5, decide_eq_true h5]
    unfold its
    rw [kinds_5 hd h5]
    exact itsM_ins _ _ _ _ _ ((wf_eq h).1 hw).1
theorem insIt_wf {h x : GVal} (hw : h.wf) (hx : x.wf) (k : Nat) (key : ByteArray) : (insIt h k key x).wf := by
  obtain ⟨h1, h2, h3⟩ := (wf_eq h).1 hw
  have split : ∀ l : List GVal, GVal.wfs l → GVal.wfs (l.take k ++ x :: l.drop k) := fun l hl => by
    rw [← List.take_append_drop k l, wfs_append] at hl
    rw [wfs_append]
    exact ⟨hl.1, hx, hl.2⟩
  unfold insIt
  split
  · rw [wf_eq]
    exact ⟨rfl, split _ h2, trivial⟩
  · rw [wf_eq]
    refine ⟨?_, trivial, split _ h3⟩
    show (h.ks.take k ++ key :: h.ks.drop k).length = (h.vs.take k ++ x :: h.vs.drop k).length
    simp only [List.length_append, List.length_cons, List.length_take, List.length_drop, h1]
theorem insIt_weight (h x : GVal) (k : Nat) (key : ByteArray) : (insIt h k key x).weight ≤ h.weight + x.weight + key.size := by
  have hs : ∀ l : List GVal, GVal.weights (l.take k ++ x :: l.drop k) = GVal.weights l + x.weight := fun l => by
    have := weights_append (l.take k) (l.drop k)
    rw [List.take_append_drop] at this
    rw [weights_append, GVal.weights]
    omega
  have hz : ∀ l : List ByteArray, sizes (l.take k ++ key :: l.drop k) = sizes l + key.size := fun l => by
    have := sizes_append (l.take k) (l.drop k)
    rw [List.take_append_drop] at this
    rw [sizes_append, sizes]
    omega
  have e0 := GVal.weight_eq h
  unfold insIt
  split
  · have e1 := GVal.weight_eq (.mk h.kind h.b h.n h.s (h.l.take k ++ x :: h.l.drop k) [] [])
    simp only [GVal.s, GVal.n, GVal.l, GVal.ks, GVal.vs, hs, sizes, GVal.weights] at e0 e1 ⊢
    omega
  · have e1 := GVal.weight_eq (.mk h.kind h.b h.n h.s [] (h.ks.take k ++ key :: h.ks.drop k) (h.vs.take k ++ x :: h.vs.drop k))
    simp only [GVal.s, GVal.n, GVal.l, GVal.ks, GVal.vs, hs, hz, GVal.weights] at e0 e1 ⊢
    omega

theorem setIt_weight {g x : GVal} {m : Nat} {y : Itm} (v : GVal) (h : (its g)[m]? = some y) (hx : y.v = x) : (setIt g m v).weight + x.weight = g.weight + v.weight := by
  have hs : ∀ (l : List GVal) (i : Nat), l[i]? = some x → GVal.weights (l.set i v) + x.weight = GVal.weights l + v.weight := by
    intro l
    induction l with
    | nil => intro i hi; simp at hi
    | cons z l ih =>
      intro i hi
      cases i with
      | zero =>
        simp only [List.getElem?_cons_zero, Option.some.injEq] at hi
        subst hi
        simp only [List.set_cons_zero, GVal.weights]
        omega
      | succ i =>
        have := ih i (by simpa using hi)
        simp only [List.set_cons_succ, GVal.weights]
        omega
  have e0 := GVal.weight_eq g
  unfold setIt
  rcases its_split h with ⟨-, h2, h3⟩ | ⟨-, h2, -, h4⟩
  · rw [if_pos h2]
    have e1 := GVal.weight_eq (.mk g.kind g.b g.n g.s (g.l.set m v) g.ks g.vs)
    have := hs g.l m (by rw [h3, hx])
    simp only [GVal.s, GVal.n, GVal.l, GVal.ks, GVal.vs] at e0 e1 this ⊢
    omega
  · rw [if_neg (by omega)]
    have e1 := GVal.weight_eq (.mk g.kind g.b g.n g.s g.l g.ks (g.vs.set (m - g.l.length) v))
    have := hs g.vs (m - g.l.length) (by rw [h4, hx])
    simp only [GVal.s, GVal.n, GVal.l, GVal.ks, GVal.vs] at e0 e1 this ⊢
    omega
theorem Swap.weight {g g' : GVal} {P : List GStep} {h h' : GVal} (hs : Swap g g' P h h') : g'.weight + h.weight = g.weight + h'.weight := by
  induction hs with
  | refl => omega
  | @step g v' m x P h h' hx hs ih =>
    have := setIt_weight v' hx rfl
    omega

/-- One value's records, with another's among them. -/
theorem ins_lay {h h' : GVal} {k : Nat} {x : Itm} (hits : its h' = (its h).take k ++ x :: (its h).drop k) (hk : h'.kind = h.kind ∧ h'.b = h.b ∧ h'.n = h.n ∧ h'.s = h.s)
    {lv st en lo m1 m2 m3 hi : Int} {nm : Bool} {name : ByteArray} {A X B : List GRec} (h1 : lo < st) (hA : LayI ((its h).take k) (lv + 1) st A m1) (hX : LayV x.v (lv + 1) x.nm x.name m1 X m2) (hB : LayI ((its h).drop k) (lv + 1) m2 B m3) (h3 : m3 < en) (h4 : en ≤ hi) :
    LayV h' lv nm name lo (⟨st, en, lv, h.kind, nm, name, h.b, h.n, h.s⟩ :: (A ++ (X ++ B))) hi := by
  obtain ⟨e1, e2, e3, e4⟩ := hk
  have hI := hA.append (.cons hX hB)
  rw [← hits] at hI
  have := LayV.mk (nm := nm) (name := name) h1 hI h3 h4
  rw [e1, e2, e3, e4] at this
  exact this
/-- A shred in two halves, behind its k-th kid. -/
theorem shred_half {gap : Int} {h : GVal} (hw : h.wf) (k : Nat) (lv : Int) (nm : Bool) (name : ByteArray) (now : Int) :
    (shredV gap h lv nm name now).1 = ⟨now + gap, now + wV gap h, lv, h.kind, nm, name, h.b, h.n, h.s⟩ :: ((shredI gap ((its h).take k) (lv + 1) (now + gap)).1 ++ (shredI gap ((its h).drop k) (lv + 1) (now + gap + wI gap ((its h).take k))).1) ∧
    (shredI gap ((its h).take k) (lv + 1) (now + gap)).1.length = cntI ((its h).take k) ∧ GVal.wfs (valsI ((its h).take k)) ∧ GVal.wfs (valsI ((its h).drop k)) ∧ wV gap h = gap + (wI gap ((its h).take k) + wI gap ((its h).drop k)) + gap := by
  have hwi := wfs_its hw
  have hsp := (List.take_append_drop k (its h)).symm
  have hwt : GVal.wfs (valsI ((its h).take k)) ∧ GVal.wfs (valsI ((its h).drop k)) := by
    rw [hsp, valsI_append, wfs_append] at hwi
    exact hwi
  have hsk := shredI_sk gap ((its h).take k) (lv + 1) (now + gap) hwt.1
  refine ⟨?_, ?_, hwt.1, hwt.2, ?_⟩
  · rw [shredV_its gap h lv nm name now hw]
    congr 1
    conv => lhs; rw [hsp]
    rw [shredI_append, hsk.2]
    rfl
  · have := congrArg List.length hsk.1
    rw [List.length_map, skL_len] at this
    exact this
  · rw [wI_its (gap := gap) hw]
    conv => lhs; rw [hsp]
    unfold wI
    rw [valsI_append, wL_append]
end Go.Sy
namespace Go.Sy
open Go.Proofs

/-! ### EditsMany -/

theorem many_rep (σ : Snap) : RepV σ (manyG []) (vCells (manyG []) none 0 none 0) := by
  simp only [manyG, List.map_nil, RepV]
  exact ⟨none, 0, [], none, 0, [], rfl, SlAt.nil _ _ _ _, rfl, rfl, SlAt.nil _ _ _ _, rfl, by decide, by decide, by decide, by decide, fun k h => (by cases h)⟩
theorem b_rep (σ : Snap) (b : Bool) : RepV σ (bG b) (vCells (bG b) none 0 none 0) := by
  simp only [bG, RepV]
  exact ⟨none, 0, [], none, 0, [], rfl, SlAt.nil _ _ _ _, rfl, rfl, SlAt.nil _ _ _ _, rfl, by decide, by decide, by decide, by decide, fun k h => (by cases h)⟩

structure MaS where
  σ : Snap
  i : Nat
  bs : List Bool
  L : List GRec
  ao : Option Addr
  cap : Nat
structure MaI (s : MaS) : Prop where
  len : s.bs.length = s.i
  lay : LayV (manyG s.bs) 0 false emptyS 0 s.L 100000
  H : SlAt s.σ s.ao s.L.length s.cap 11 (recRows s.L)
  val : ∀ j : Nat, j < s.i → s.bs[j]? = some (decide (bAnd .i64 ((s.i : Int) - 1 - j) 1 = 1))

set_option maxRecDepth 100000 in
set_option maxHeartbeats 1000000 in
theorem EditsMany_c (σ : Snap) (n gp : Int) :
    PlainS Tryd.prog 12 [.a (.v (.int .i64 n)), .a (.v (.int .i64 gp))] σ (fun v => v = .bool true) := by
  refine enter_p Tryd.func12 rfl rfl (by (repeat' (first | exact trivial | constructor))) fun w => ?_
  (repeat (first | refine cj_seq ?_ | (refine cj_region ?_; refine oj_run TT rfl ?_) | refine oj_then ?_))
  refine oj_callS rfl rfl rfl rfl rfl Tryd.call60 (by (repeat' exact trivial)) (awake12_c σ) fun v σ0 hle0 hv => ⟨.a .tt, trivial, hv.symm, ?_⟩
  refine oj_run TT rfl ?_
  (repeat (first | refine cj_seq ?_ | (refine cj_region ?_; refine oj_run TT rfl ?_) | refine oj_then ?_ | (refine oj_band rfl rfl rfl rfl rfl rfl ?_; refine oj_run TT rfl ?_)))
  have hk0 := bAnd_le n 31 (by omega) (by omega)
  generalize bAnd .i64 n 31 = kI at hk0 ⊢
  obtain ⟨kk, rfl⟩ : ∃ j : Nat, kI = j := ⟨kI.toNat, by omega⟩
  have hgb := bAnd_le gp 255 (by omega) (by omega)
  generalize bAnd .i64 gp 255 = gb at hgb ⊢
  (repeat (refine oj_add rfl rfl rfl rfl rfl rfl (by omega) ?_; refine oj_run TT rfl ?_))
  refine oj_set 21 (.agg (vCells (manyG []) none 0 none 0)) rfl (vCells_lt _ _ _ _ _ _) (fun _ => rfl) ?_
  have hs0 := many_sane [] (by decide)
  refine oj_callS rfl rfl rfl rfl rfl Tryd.call21 ⟨vCells_lt _ _ _ _ _ _, trivial, trivial⟩ (Shred_s σ0 (manyG []) _ (1 + gb) (many_rep σ0) (by rw [many_w]; simp)) fun v σ1 hle1 ⟨ao, cap, hv, H⟩ => ⟨.tup [.a (.v (.slice ao (shredG (manyG []) (1 + gb)).1.length cap)), .a (.v (.int .i64 (shredG (manyG []) (1 + gb)).2))], (by (repeat' (first | exact trivial | refine SV.lt_tup ?_ | constructor))), hv.symm, ?_⟩
  rw [shredG_ok (by omega) (by omega) hs0] at H ⊢
  dsimp only at H ⊢
  have hlay0 : LayV (manyG []) 0 false emptyS 0 (shredV (1 + gb) (manyG []) 0 false emptyS 0).1 100000 := (shred_lay (gap := 1 + gb) (by omega) (many_wf []) 0 false emptyS 0).up (Int.le_refl _) (by
    rw [wVg (many_wf []), show cntV (manyG []) = 1 from rfl]
    omega)
  generalize (shredV (1 + gb) (manyG []) 0 false emptyS 0).1 = L0 at *
  refine oj_run TT rfl ?_
  (repeat (first | refine cj_seq ?_ | (refine cj_region ?_; refine oj_run TT rfl ?_) | refine oj_then ?_))
  refine cj_if rfl (fun h => absurd h (by decide)) (fun _ => ?_)
  (repeat (first | refine cj_seq ?_ | (refine cj_region ?_; refine oj_run TT rfl ?_) | refine oj_then ?_ | refine cj_skip ?_ | refine cj_block ?_ | refine nj_then ?_))
  refine cj_cutB (fun (s : MaS) => s.σ) (fun s => [(5, .a .tt), (6, .a (.v (.int .i64 kk))), (7, .a (.v (.slice s.ao s.L.length s.cap)))]) (fun _ => []) (fun _ => []) 0 (fun s => MaI s ∧ s.i = kk) ?_ (fun s ⟨hI, hsk⟩ => ?_)
  · refine cj_loop (fun (s : MaS) => s.σ) (fun s => [(5, .a .tt), (6, .a (.v (.int .i64 kk))), (7, .a (.v (.slice s.ao s.L.length s.cap))), (9, .a (.v (.int .i64 (s.i : Nat))))]) (fun _ => []) (fun _ => []) 0 (fun s => MaI s ∧ s.i ≤ kk) (fun s => kk - s.i) ⟨σ1, 0, [], L0, ao, cap⟩
      ⟨⟨rfl, hlay0, H, fun j hj => absurd hj (Nat.not_lt_zero _)⟩, Nat.zero_le _⟩ rfl (by (repeat (first | exact trivial | refine And.intro rfl ?_))) (by (repeat (first | exact trivial | refine And.intro rfl ?_))) rfl (by (repeat' (first | exact trivial | constructor))) (by (repeat' exact trivial)) fun ⟨s, i, bs, L, ao, cap⟩ ⟨hI, hik⟩ => ?_
    obtain ⟨hbl, hlay, H, hval⟩ := hI
    dsimp only at hbl hlay H hval hik ⊢
    (repeat (first | refine cj_seq ?_ | (refine cj_region ?_; refine oj_run TT rfl ?_) | refine oj_then ?_))
    refine cj_if rfl (fun h => ?_) (fun h => ?_)
    rotate_left
    · have hi0 : i = kk := by have := of_decide_eq_false h; omega
      (repeat (first | refine cj_exit ?_ | refine nj_then_exit ?_ | refine nj_block_out ?_))
      refine nj_again (⟨s, i, bs, L, ao, cap⟩ : MaS) ⟨⟨hbl, hlay, H, hval⟩, hi0⟩ Nat.zero_lt_one rfl (by (repeat (first | exact trivial | refine And.intro rfl ?_))) (by (repeat (first | exact trivial | refine And.intro rfl ?_))) rfl (by (repeat' (first | exact trivial | constructor))) (by (repeat' exact trivial))
    have hil : i < kk := by have := of_decide_eq_true h; omega
    have hlen := hlay.len (many_wf bs)
    have hbw := many_w bs
    have hcl : cntV (manyG bs) ≤ 100 := by
      have h1 := shredV_cnt 1 (manyG bs) 0 false emptyS 0 (many_wf bs)
      have h2 := (shredV_len 1 (manyG bs) 0 false emptyS 0).1
      omega
    have S := lay_snd hlay (by omega) (many_wf bs) (by omega) (by omega) (by omega)
    have hrw := hlay.recsW (many_wf bs)
    (repeat (first | refine cj_seq ?_ | (refine cj_region ?_; refine oj_run TT rfl ?_) | refine cj_skip ?_ | refine cj_block ?_ | refine nj_then ?_))
    refine oj_callS rfl rfl rfl rfl rfl Tryd.call61 (by (repeat' (first | exact trivial | constructor))) (Room_c s L S ao cap H 0 0) fun v σ2 hle2 hv => ⟨.a (.v (.int .i64 (roomG L 0 0))), trivial, hv.symm, ?_⟩
    have H := H.mono hle2
    refine oj_run TT rfl ?_
    (repeat (first | refine cj_seq ?_ | (refine cj_region ?_; refine oj_run TT rfl ?_) | refine oj_then ?_ | (refine oj_band rfl rfl rfl rfl rfl rfl ?_; refine oj_run TT rfl ?_)))
    generalize hb : decide (bAnd .i64 (i : Int) 1 = 1) = b
    obtain ⟨M, mv, hins, hlayM, hmv⟩ := many_ins hlay (by omega) b
    have hcallI := Insert_c σ2 L S ao cap H 0 0 emptyS (by decide) (bG b) _ (b_rep σ2 b) (by show recsW L + 1 + 0 ≤ 100000; omega)
    rw [hins] at hcallI
    have hcallI : PureS Tryd.prog 62 [.a (.v (.slice ao L.length cap)), .a (.v (.int .i64 0)), .a (.v (.int .i64 0)), .a (.v (.string emptyS)), .agg (vCells (bG b) none 0 none 0)] σ2 (fun v σ' => ResOk σ' ⟨M, 1, mv, 0⟩ v) := hcallI
    refine oj_set 42 (.agg (vCells (bG b) none 0 none 0)) rfl (vCells_lt _ _ _ _ _ _) (fun _ => rfl) ?_
    refine oj_callS rfl rfl rfl rfl rfl Tryd.call62 ⟨trivial, trivial, trivial, trivial, vCells_lt _ _ _ _ _ _, trivial⟩ hcallI fun v σ3 hle3 ⟨bo, bc, hv, HM⟩ => ⟨.tup [.a (.v (.slice bo M.length bc)), .agg [.v (.int .i64 1), .v (.int .i64 mv)], .a (.v (.int .i64 0))], (by (repeat' (first | exact trivial | refine AllLt.of ?_ | refine SV.lt_tup ?_ | constructor))), hv.symm, ?_⟩
    have HM : SlAt σ3 bo M.length bc 11 (recRows M) := HM
    have hbs : (b :: bs).length ≤ 40 := by rw [List.length_cons]; omega
    have hlenM := hlayM.len (many_wf (b :: bs))
    have hcM : cntV (manyG (b :: bs)) ≤ 100 := by
      have h1 := shredV_cnt 1 (manyG (b :: bs)) 0 false emptyS 0 (many_wf _)
      have h2 := (shredV_len 1 (manyG (b :: bs)) 0 false emptyS 0).1
      have h3 := many_w (b :: bs)
      omega
    have SM := lay_snd hlayM (by omega) (many_wf _) (by omega) (by omega) (by rw [many_w]; omega)
    have hsM := lay_sound hlayM (by omega) (many_wf _) (many_sane _ (by omega)) (by omega) (by omega)
    refine oj_run TT rfl ?_
    (repeat (first | refine cj_seq ?_ | (refine cj_region ?_; refine oj_run TT rfl ?_) | refine oj_then ?_))
    refine oj_split 49 rfl (fun h => absurd h (by decide)) (fun _ => ?_)
    refine oj_run TT rfl ?_
    refine oj_split 54 rfl (fun h => absurd h (by decide)) (fun _ => ?_)
    refine oj_run TT rfl ?_
    refine oj_split 62 rfl (fun h => ?_) (fun _ => ?_)
    · have h : (decide (mv > 0) != decide (roomG L 0 0 < 2)) = true := h
      rw [show decide (mv > 0) = decide (roomG L 0 0 < 2) from decide_eq_decide.2 hmv] at h
      simp at h
    refine oj_run TT rfl ?_
    refine oj_callP rfl rfl rfl rfl rfl Tryd.call24 (by (repeat' (first | exact trivial | constructor))) (Sound_c σ3 M SM.ok.len SM.ok.fit SM.ok.bw bo bc HM) fun v hv => ⟨.a .tt, trivial, (by rw [hv, hsM]; rfl), ?_⟩
    refine oj_run TT rfl ?_
    (repeat (first | (refine cj_region ?_; refine oj_run TT rfl ?_) | refine oj_then ?_ | refine oj_nil ?_ | refine cj_if_f rfl ?_ | refine cj_skip ?_ | refine nj_then ?_ | refine nj_block ?_ | (refine oj_add rfl rfl rfl rfl rfl rfl (by omega) ?_; refine oj_run TT rfl ?_)))
    refine nj_again (⟨σ3, i + 1, b :: bs, M, bo, bc⟩ : MaS) ⟨⟨by dsimp only; rw [List.length_cons, hbl], hlayM, HM, fun j hj => ?_⟩, hil⟩ (by dsimp only; omega) rfl (by (repeat (first | exact trivial | refine And.intro rfl ?_))) (by (repeat (first | exact trivial | refine And.intro rfl ?_))) rfl (by (repeat' (first | exact trivial | constructor))) (by (repeat' exact trivial))
    dsimp only at hj ⊢
    cases j with
    | zero => rw [← hb, show ((i + 1 : Nat) : Int) - 1 - ((0 : Nat) : Int) = i by omega]; rfl
    | succ j => rw [List.getElem?_cons_succ, hval j (by omega), show ((i + 1 : Nat) : Int) - 1 - ((j + 1 : Nat) : Int) = i - 1 - j by omega]
  obtain ⟨s, i, bs, L, ao, cap⟩ := s
  obtain ⟨hbl, hlay, H, hval⟩ := hI
  dsimp only at hbl hlay H hval hsk ⊢
  subst hsk
  have hlen := hlay.len (many_wf bs)
  have hbw := many_w bs
  have hcl : cntV (manyG bs) ≤ 100 := by
    have h1 := shredV_cnt 1 (manyG bs) 0 false emptyS 0 (many_wf bs)
    have h2 := (shredV_len 1 (manyG bs) 0 false emptyS 0).1
    omega
  have S := lay_snd hlay (by omega) (many_wf bs) (by omega) (by omega) (by omega)
  have hbR := hlay.buildR (by omega) (many_wf bs) (many_sane bs (by omega)) (by omega) (by omega)
  (repeat (first | refine cj_seq ?_ | (refine cj_region ?_; refine oj_run TT rfl ?_)))
  refine oj_callS rfl rfl rfl rfl rfl Tryd.call22 ⟨trivial, trivial⟩ (Build_c s L S.ok.len S.ok.fit S.ok.bw ao cap H) fun v σ4 hle4 ⟨r_, hv, hrep⟩ => ⟨.tup [.agg r_, .a (.v (.int .i64 (buildR L).2))], SV.lt_tup ⟨hrep.clo, trivial, trivial⟩, hv.symm, ?_⟩
  rw [hbR] at hrep ⊢
  dsimp only at hrep ⊢
  obtain ⟨xla, xlc, xlrows, xma, xmc, xvrows, rfl, XV⟩ := hrep.open
  have hll : (manyG bs).l.length = i := by show (bs.map bG).length = i; rw [List.length_map, hbl]
  refine oj_run TT rfl ?_
  (repeat (first | refine cj_seq ?_ | (refine cj_region ?_; refine oj_run TT rfl ?_) | refine oj_then ?_))
  refine oj_split 75 rfl (fun h => absurd h (by decide)) (fun _ => ?_)
  refine oj_run TT rfl ?_
  (repeat refine oj_then ?_)
  refine cj_if rfl (fun h => absurd (show (!decide (((manyG bs).l.length : Int) = i)) = true from h) (by rw [hll]; simp)) (fun _ => ?_)
  (repeat (first | refine cj_seq ?_ | (refine cj_region ?_; refine oj_run TT rfl ?_) | refine oj_then ?_ | refine cj_skip ?_ | refine cj_block ?_ | refine nj_then ?_))
  refine cj_cutB (α := Unit) (fun _ => σ4) (fun _ => [(5, .a .tt)]) (fun _ => []) (fun _ => []) 0 (fun _ => True) ?_ (fun _ _ => ?_)
  · refine cj_loop (fun (_ : Nat) => σ4) (fun j => [(5, .a .tt), (6, .a (.v (.int .i64 i))), (14, .a (.p 0 0)), (16, .a (.v (.int .i64 (j : Nat))))]) (fun _ => [(0, .loc 27, vCells (manyG bs) xla xlc xma xmc)]) (fun _ => []) 1 (fun j => j ≤ i) (fun j => i - j) 0 (Nat.zero_le _) rfl (by (repeat (first | exact trivial | refine And.intro rfl ?_))) (by (repeat (first | exact trivial | refine And.intro rfl ?_))) rfl (by (repeat' (first | exact trivial | exact Nat.le_of_ble_eq_true rfl | constructor))) (by (repeat' (first | exact trivial | exact Nat.le_of_ble_eq_true rfl | exact vCells_lt _ _ _ _ _ _ | constructor))) fun j hj => ?_
    (repeat (first | refine cj_seq ?_ | (refine cj_region ?_; refine oj_run TT rfl ?_) | refine oj_then ?_))
    refine cj_if rfl (fun h => ?_) (fun h => ?_)
    rotate_left
    · (repeat (first | refine cj_exit ?_ | refine nj_then_exit ?_ | refine nj_block_out ?_))
      refine nj_again () trivial Nat.zero_lt_one rfl (by (repeat (first | exact trivial | refine And.intro rfl ?_))) (by (repeat (first | exact trivial | refine And.intro rfl ?_))) rfl (by (repeat' (first | exact trivial | constructor))) (by (repeat' exact trivial))
    have hjl : j < i := by have := of_decide_eq_true h; omega
    have hv := hval j hjl
    have hgl : (manyG bs).l[j]? = some (bG (decide (bAnd .i64 ((i : Int) - 1 - j) 1 = 1))) := by
      show (bs.map bG)[j]? = _
      rw [List.getElem?_map, hv]
      rfl
    obtain ⟨r, hr, hrep⟩ := XV.l.get hgl
    obtain ⟨la', lc', lrows', ma', mc', vrows', rfl, V'⟩ := hrep.open
    have hbb : (bG (decide (bAnd .i64 ((i : Int) - 1 - j) 1 = 1))).b = decide (bAnd .i64 ((i : Int) - 1 - j) 1 = 1) := rfl
    generalize hbx : bG (decide (bAnd .i64 ((i : Int) - 1 - j) 1 = 1)) = xb at *
    (repeat (first | refine cj_seq ?_ | (refine cj_region ?_; refine oj_run TT rfl ?_) | refine cj_skip ?_ | refine cj_block ?_ | refine nj_then ?_))
    refine oj_idx TT rfl rfl rfl rfl rfl rfl rfl rfl rfl XV.L (by omega) hr (oj_run TT rfl ?_)
    (repeat (first | refine oj_then ?_ | (refine oj_band rfl rfl rfl rfl rfl rfl ?_; refine oj_run TT rfl ?_) | (refine oj_minus rfl rfl rfl rfl rfl rfl (by omega) ?_; refine oj_run TT rfl ?_)))
    refine cj_if rfl (fun h => ?_) (fun _ => ?_)
    · have h : (xb.b != decide (bAnd .i64 ((i : Int) - 1 - j) 1 = 1)) = true := h
      rw [hbb] at h
      simp at h
    (repeat (first | (refine cj_region ?_; refine oj_run TT rfl ?_) | refine oj_nil ?_ | refine cj_skip ?_ | refine nj_then ?_ | refine nj_block ?_ | (refine oj_add rfl rfl rfl rfl rfl rfl (by omega) ?_; refine oj_run TT rfl ?_)))
    refine nj_again (j + 1) hjl (by omega) rfl (by (repeat (first | exact trivial | refine And.intro rfl ?_))) (by (repeat (first | exact trivial | refine And.intro rfl ?_))) rfl (by (repeat' (first | exact trivial | exact Nat.le_of_ble_eq_true rfl | constructor))) (by (repeat' (first | exact trivial | exact Nat.le_of_ble_eq_true rfl | exact vCells_lt _ _ _ _ _ _ | constructor)))
  (repeat (first | refine cj_seq ?_ | (refine cj_region ?_; refine oj_run TT rfl ?_) | refine oj_then ?_ | refine cj_ret ?_))
  refine nj_ret TT rfl fun β w' _ _ => ?_
  rfl
end Go.Sy
/- From a row's data to what the walks ask: a value that is read in the world is a tree that lies in memory, all of it sealed. -/
namespace Go.Sy
open Go.ChangeShapes Go.RowKit

def snapOf (W : World) : Snap := fun b => W.heap[b]?
theorem snapOf_sealed (W : World) : Sealed (snapOf W) W := fun _ _ h => h
theorem snapOf_cell (W : World) (a : Addr) : (snapOf W).cell a = W.cell? a := rfl

/-- The types of a value: itself, its list, its members, a member, its number, text, number, truth. -/
structure VT (P : Program) (tV tL tM tE tD tS tI tB : TypeId) : Prop where
  v : ∃ fs : Array Field, P.underlying tV = some (.struct fs) ∧ fs.toList.map (fun f => (f.type, f.offset)) = [(tI, 0), (tB, 1), (tD, 2), (tS, 5), (tL, 6), (tM, 7)]
  l : P.underlying tL = some (.slice tV)
  m : P.underlying tM = some (.slice tE)
  e : ∃ fs : Array Field, P.underlying tE = some (.struct fs) ∧ fs.toList.map (fun f => (f.type, f.offset)) = [(tS, 0), (tV, 1)]
  d : ∃ fs : Array Field, P.underlying tD = some (.struct fs) ∧ fs.toList.map (fun f => (f.type, f.offset)) = [(tB, 0), (tS, 1), (tI, 2)]
  s : P.underlying tS = some .string
  i : P.underlying tI = some (.int .i64)
  b : P.underlying tB = some .bool
  cV : P.cellsOf tV = 8
  cE : P.cellsOf tE = 9
  cD : P.cellsOf tD = 3
  cS : P.cellsOf tS = 1
  cI : P.cellsOf tI = 1
  cB : P.cellsOf tB = 1
  cL : P.cellsOf tL = 1
  cM : P.cellsOf tM = 1
  bV : 0 < P.bytesOf tV
  bE : 0 < P.bytesOf tE

section
variable {H : Type} {enc : TypeId × Value → H} {P : Program} {w : World} {sp : Nat → Bool} {held : Bool}

theorem field_at {fs : Array Field} {l : List (TypeId × Nat)} (h : fs.toList.map (fun f => (f.type, f.offset)) = l) {i : Nat} {t : TypeId} {o : Nat} (hi : l[i]? = some (t, o)) :
    ∃ f, fs[i]? = some f ∧ f.type = t ∧ f.offset = o := by
  subst h
  rw [List.getElem?_map] at hi
  simp only [Option.map_eq_some_iff, Prod.mk.injEq] at hi
  obtain ⟨f, h1, h2, h3⟩ := hi
  exact ⟨f, by simpa using h1, h2, h3⟩

theorem open_struct {t : TypeId} {fs : Array Field} {l : List (TypeId × Nat)} {n : Nat} {cs : List Value} {x : DataW H × List MemPlace} (hu : P.underlying t = some (.struct fs)) (hl : fs.toList.map (fun f => (f.type, f.offset)) = l)
    (h : DataW.trod enc P w 0 sp held n t cs = some x) :
    ∃ m, m < n ∧ cs.length = P.cellsOf t ∧ ∀ (i : Nat) (u : TypeId) (o : Nat), l[i]? = some (u, o) → ∃ y : DataW H × List MemPlace, DataW.trod enc P w 0 sp held m u ((cs.drop o).take (P.cellsOf u)) = some y ∧ ∀ k ∈ y.1.weights P u, k ∈ x.1.weights P t := by
  obtain ⟨xs, m, rfl, rfl, h1, h2, h3⟩ := DataW.trod_struct hu h
  refine ⟨m, by omega, h1, fun i u o hi => ?_⟩
  obtain ⟨f, hf, rfl, rfl⟩ := field_at hl hi
  have hi' : i < xs.length := by
    rw [h2]
    have := (List.getElem?_eq_some_iff.1 (show fs.toList[i]? = some f by simpa using hf)).1
    simpa using this
  refine ⟨xs[i], by rw [h3 i f hf, List.getElem?_eq_getElem hi'], fun k hk => ?_⟩
  rw [DataW.weights.eq_def]
  simp only [hu]
  exact DataW.weights_mem_each (j := i) (t := f.type) (d := xs[i].1) (by simp; exact ⟨f, by simpa using hf, rfl⟩) (by simp [List.getElem?_eq_getElem hi']) k hk

theorem weightsAll_mem {e : TypeId} : ∀ {ds : List (DataW H)} {d : DataW H}, d ∈ ds → ∀ k ∈ d.weights P e, k ∈ DataW.weightsAll P e ds
  | _ :: _, _, .head _, k, hk => by rw [DataW.weightsAll]; exact List.mem_append_left _ hk
  | _ :: _, _, .tail _ h, k, hk => by rw [DataW.weightsAll]; exact List.mem_append_right _ (weightsAll_mem h k hk)

theorem open_sl {t e : TypeId} {n sz : Nat} {c : Value} {x : DataW H × List MemPlace} (hu : P.underlying t = some (.slice e)) (hc : P.cellsOf e = sz) (hb : 0 < P.bytesOf e) (h : DataW.trod enc P w 0 sp held n t [c] = some x)
    (hw : ∀ k ∈ x.1.weights P t, k ≤ reachBytes) :
    ∃ (ao : Option Addr) (len cap m : Nat), c = .slice ao len cap ∧ m < n ∧ len ≤ cap ∧ len ≤ reachBytes ∧
      (len = 0 ∨ ∃ a, ao = some a ∧ ∀ i, i < len → ∃ (cs : List Value) (y : DataW H × List MemPlace), cs.length = sz ∧ (∀ j v, cs[j]? = some v → w.cell? (a.add (i * sz + j)) = some v) ∧
        DataW.trod enc P w 0 sp held m e cs = some y ∧ ∀ k ∈ y.1.weights P e, k ∈ x.1.weights P t) := by
  rcases DataW.trod_slice hu h with ⟨h1, rfl⟩ | ⟨a, len, cap, elems, rest, m, rfl, h1, rfl, _, h3, h4, h5, h6, _, _⟩
  · injection h1 with h1
    subst h1
    refine ⟨none, 0, 0, 0, rfl, ?_, Nat.le_refl _, by decide, .inl rfl⟩
    cases n with
    | zero => simp [DataW.trod] at h
    | succ n => omega
  · injection h1 with h1
    subst h1
    have hwt : (DataW.slice (elems.map (·.1)) (rest.map (·.1)) : DataW H).weights P t = ((elems.map (·.1)).length + (rest.map (·.1)).length) * P.bytesOf e :: (DataW.weightsAll P e (elems.map (·.1)) ++ DataW.weightsAll P e (rest.map (·.1))) := by
      rw [DataW.weights.eq_def]
      simp only [hu]
    refine ⟨some a, len, cap, m, rfl, by omega, h3, ?_, .inr ⟨a, rfl, fun i hi => ?_⟩⟩
    · have := hw _ (by rw [hwt]; exact List.mem_cons_self)
      simp only [List.length_map] at this
      have h7 : elems.length ≤ (elems.length + rest.length) * P.bytesOf e := Nat.le_trans (Nat.le_add_right _ _) (Nat.le_mul_of_pos_right _ hb)
      omega
    · have hi' : i < elems.length := by omega
      have h8 := h6 i hi
      rw [List.getElem?_eq_getElem hi', hc] at h8
      obtain ⟨cs, h9, h10⟩ := Option.bind_eq_some_iff.1 h8
      obtain ⟨_, h11, h12⟩ := World.cells?_some h9
      refine ⟨cs, elems[i], h11, fun j v hj => ?_, h10, fun k hk => ?_⟩
      · have hj' : j < sz := by rw [← h11]; exact (List.getElem?_eq_some_iff.1 hj).1
        have := h12 j hj'
        rw [hj] at this
        rw [← this]
        congr 1
        exact (Addr.add_add _ _ _).symm
      · rw [hwt]
        exact List.mem_cons_of_mem _ (List.mem_append_left _ (weightsAll_mem (List.mem_map.2 ⟨elems[i], List.getElem_mem hi', rfl⟩) k hk))

theorem RepL.range {σ : Snap} {G : Nat → GVal} {R : Nat → List AT} : ∀ l : List Nat, (∀ i ∈ l, RepV σ (G i) (R i)) → RepL σ (l.map G) (l.map R)
  | [], _ => by simp [RepL]
  | a :: l, h => by
    simp only [List.map_cons, RepL]
    exact ⟨R a, l.map R, rfl, h a List.mem_cons_self, RepL.range l fun i hi => h i (List.mem_cons_of_mem _ hi)⟩

theorem keyRows_range (K : Nat → ByteArray) (R : Nat → List AT) : ∀ l : List Nat, keyRows (l.map K) (l.map R) = l.map fun i => keyRow (K i) (R i)
  | [] => rfl
  | a :: l => by simp [keyRows, keyRows_range K R l]

/-- What each of its elements is, read off the memory. -/
theorem slAt_range {ao : Option Addr} {len cap sz : Nat} {R : Nat → List AT} (h1 : len ≤ cap) (h2 : ∀ i, i < len → (R i).length = sz ∧ ∀ c ∈ R i, c.lt 0)
    (h3 : len = 0 ∨ ∃ a, ao = some a ∧ ∀ i, i < len → ∀ j v, ((R i).map (AT.den β0))[j]? = some v → w.cell? (a.add (i * sz + j)) = some v) : SlAt (snapOf w) ao len cap sz ((List.range len).map R) := by
  refine ⟨by simp, h1, fun r hr => ?_, ?_⟩
  · obtain ⟨i, hi, rfl⟩ := List.mem_map.1 hr
    exact h2 i (List.mem_range.1 hi)
  · rcases h3 with h3 | ⟨a, h3, h4⟩
    · exact .inl h3
    · refine .inr ⟨a, h3, fun i r j c hr hc => ?_⟩
      rw [List.getElem?_map] at hr
      obtain ⟨i', h5, rfl⟩ := Option.map_eq_some_iff.1 hr
      obtain ⟨h6, h7⟩ := List.getElem?_eq_some_iff.1 h5
      have h8 : i < len := by simpa using h6
      have h9 : i' = i := by simpa using h7.symm
      subst h9
      rw [snapOf_cell]
      exact h4 i' h8 j _ (by rw [List.getElem?_map, hc]; rfl)

variable {tV tL tM tE tD tS tI tB : TypeId}

theorem open_str {n : Nat} {t : TypeId} {c : Value} {x : DataW H × List MemPlace} (hu : P.underlying t = some .string) (h : DataW.trod enc P w 0 sp held n t [c] = some x) (hw : ∀ k ∈ x.1.weights P t, k ≤ reachBytes) :
    ∃ s : ByteArray, c = .string s ∧ s.size ≤ mostLen := by
  obtain ⟨s, h1, rfl, _⟩ := DataW.trod_string hu h
  injection h1 with h1
  subst h1
  refine ⟨s, rfl, ?_⟩
  have := hw s.data.toList.length (by rw [DataW.weights.eq_def]; exact List.mem_cons_self)
  have h2 : s.data.toList.length = s.size := rfl
  rw [h2] at this
  exact this

/-- A VALUE THAT IS READ is a tree, and lies there. -/
theorem open_val (T : VT P tV tL tM tE tD tS tI tB) : ∀ (n : Nat) (cs : List Value) (x : DataW H × List MemPlace), DataW.trod enc P w 0 sp held n tV cs = some x → (∀ k ∈ x.1.weights P tV, k ≤ reachBytes) →
    ∃ (g : GVal) (r : List AT), cs = r.map (AT.den β0) ∧ RepV (snapOf w) g r := by
  intro n
  induction n using Nat.strongRecOn with
  | _ n ih => ?_
  intro cs x h hw
  obtain ⟨fs, hu, hl⟩ := T.v
  obtain ⟨m, hm, hlen, hf⟩ := open_struct hu hl h
  rw [T.cV] at hlen
  match cs, hlen with
  | [c0, c1, c2, c3, c4, c5, c6, c7], _ =>
  obtain ⟨y0, h0, _⟩ := hf 0 tI 0 rfl
  obtain ⟨y1, h1, _⟩ := hf 1 tB 1 rfl
  obtain ⟨y2, h2, w2⟩ := hf 2 tD 2 rfl
  obtain ⟨y3, h3, w3⟩ := hf 3 tS 5 rfl
  obtain ⟨y4, h4, w4⟩ := hf 4 tL 6 rfl
  obtain ⟨y5, h5, w5⟩ := hf 5 tM 7 rfl
  rw [T.cI] at h0
  rw [T.cB] at h1
  rw [T.cD] at h2
  rw [T.cS] at h3
  rw [T.cL] at h4
  rw [T.cM] at h5
  simp only [List.drop_zero, List.drop_succ_cons, List.take_succ_cons, List.take_zero] at h0 h1 h2 h3 h4 h5
  obtain ⟨k, e0, -, -⟩ := DataW.trod_int T.i h0
  obtain ⟨b, e1, -⟩ := DataW.trod_bool T.b h1
  obtain ⟨s, e5, hs⟩ := open_str T.s h3 fun k hk => hw k (w3 k hk)
  obtain ⟨fd, hud, hld⟩ := T.d
  obtain ⟨md, hmd, -, hfd⟩ := open_struct hud hld h2
  obtain ⟨z0, g0, _⟩ := hfd 0 tB 0 rfl
  obtain ⟨z1, g1, v1⟩ := hfd 1 tS 1 rfl
  obtain ⟨z2, g2, _⟩ := hfd 2 tI 2 rfl
  rw [T.cB] at g0
  rw [T.cS] at g1
  rw [T.cI] at g2
  simp only [List.drop_zero, List.drop_succ_cons, List.take_succ_cons, List.take_zero] at g0 g1 g2
  obtain ⟨ng, e2, -⟩ := DataW.trod_bool T.b g0
  obtain ⟨dg, e3, hdg⟩ := open_str T.s g1 fun k hk => hw k (w2 k (v1 k hk))
  obtain ⟨ex, e4, -, -⟩ := DataW.trod_int T.i g2
  injection e0 with e0
  injection e1 with e1
  injection e2 with e2
  injection e4 with e4
  subst e0 e1 e2 e3 e4 e5
  obtain ⟨la, ll, lc, ml, rfl, hml, hll, hlr, hle⟩ := open_sl T.l T.cV T.bV h4 fun k hk => hw k (w4 k hk)
  obtain ⟨ma, lm, mc, mm, rfl, hmm, hlm, hmr, hme⟩ := open_sl T.m T.cE T.bE h5 fun k hk => hw k (w5 k hk)
  have HL : ∀ i, ∃ gr : GVal × List AT, i < ll → RepV (snapOf w) gr.1 gr.2 ∧ ∀ a, la = some a → ∀ j v, (gr.2.map (AT.den β0))[j]? = some v → w.cell? (a.add (i * 8 + j)) = some v := by
    intro i
    by_cases hi : i < ll
    · rcases hle with h0 | ⟨a, rfl, hle⟩
      · omega
      · obtain ⟨cs, y, _, q2, q3, q4⟩ := hle i hi
        obtain ⟨g, r, rfl, hr⟩ := ih ml (by omega) cs y q3 fun k hk => hw k (w4 k (q4 k hk))
        exact ⟨(g, r), fun _ => ⟨hr, fun a' ha => by injection ha with ha; subst ha; exact q2⟩⟩
    · exact ⟨(.mk 0 false ⟨false, ⟨#[]⟩, 0⟩ ⟨#[]⟩ [] [] [], []), fun h => absurd h hi⟩
  have HM : ∀ i, ∃ gr : ByteArray × GVal × List AT, i < lm → gr.1.size ≤ mostLen ∧ RepV (snapOf w) gr.2.1 gr.2.2 ∧ ∀ a, ma = some a → ∀ j v, ((keyRow gr.1 gr.2.2).map (AT.den β0))[j]? = some v → w.cell? (a.add (i * 9 + j)) = some v := by
    intro i
    by_cases hi : i < lm
    · rcases hme with h0 | ⟨a, rfl, hme⟩
      · omega
      · obtain ⟨cs, y, q1, q2, q3, q4⟩ := hme i hi
        obtain ⟨fe, hue, hle'⟩ := T.e
        obtain ⟨me, hme', -, hfe⟩ := open_struct hue hle' q3
        obtain ⟨u0, p0, x0⟩ := hfe 0 tS 0 rfl
        obtain ⟨u1, p1, x1⟩ := hfe 1 tV 1 rfl
        rw [T.cS] at p0
        rw [T.cV] at p1
        match cs, q1 with
        | c :: cs', q1 =>
          simp only [List.drop_zero, List.drop_succ_cons, List.take_succ_cons, List.take_zero] at p0 p1
          rw [List.take_of_length_le (by simp at q1; omega)] at p1
          obtain ⟨key, rfl, hk⟩ := open_str T.s p0 fun k hk => hw k (w5 k (q4 k (x0 k hk)))
          obtain ⟨g, r, rfl, hr⟩ := ih me (by omega) cs' u1 p1 fun k hk => hw k (w5 k (q4 k (x1 k hk)))
          exact ⟨(key, g, r), fun _ => ⟨hk, hr, fun a' ha => by injection ha with ha; subst ha; exact q2⟩⟩
    · exact ⟨(⟨#[]⟩, .mk 0 false ⟨false, ⟨#[]⟩, 0⟩ ⟨#[]⟩ [] [] [], []), fun h => absurd h hi⟩
  obtain ⟨FL, HL⟩ := Classical.axiomOfChoice HL
  obtain ⟨FM, HM⟩ := Classical.axiomOfChoice HM
  refine ⟨.mk k b ⟨ng, dg, ex⟩ s ((List.range ll).map fun i => (FL i).1) ((List.range lm).map fun i => (FM i).1) ((List.range lm).map fun i => (FM i).2.1),
    [.v (.int .i64 k), .b b, .b ng, .v (.string dg), .v (.int .i64 ex), .v (.string s), .v (.slice la ll lc), .v (.slice ma lm mc)], rfl, ?_⟩
  simp only [RepV]
  refine ⟨la, lc, (List.range ll).map fun i => (FL i).2, ma, mc, (List.range lm).map fun i => (FM i).2.2, by simp, ?_, RepL.range _ fun i hi => (HL i (List.mem_range.1 hi)).1, by simp, ?_, RepL.range _ fun i hi => (HM i (List.mem_range.1 hi)).2.1, hdg, hs, by simpa [mostLen, reachBytes] using hlr, by simpa [mostLen, reachBytes] using hmr, ?_⟩
  · simp only [List.length_map, List.length_range]
    refine slAt_range hll (fun i hi => ⟨(HL i hi).1.len, (HL i hi).1.clo⟩) ?_
    rcases hle with h0 | ⟨a, rfl, _⟩
    · exact .inl h0
    · exact .inr ⟨a, rfl, fun i hi => (HL i hi).2 a rfl⟩
  · rw [keyRows_range]
    simp only [List.length_map, List.length_range]
    refine slAt_range hlm (fun i hi => ⟨by simp [keyRow, (HM i hi).2.1.len], fun c hc => ?_⟩) ?_
    · cases hc with
      | head => trivial
      | tail _ hc => exact (HM i hi).2.1.clo c hc
    · rcases hme with h0 | ⟨a, rfl, _⟩
      · exact .inl h0
      · exact .inr ⟨a, rfl, fun i hi => (HM i hi).2.2 a rfl⟩
  · intro key hk
    obtain ⟨i, hi, rfl⟩ := List.mem_map.1 hk
    exact (HM i (List.mem_range.1 hi)).1

end
end Go.Sy
/- The closing of a law's row, alike from law to law. -/
namespace Go.Sy
open Go.ChangeShapes Go.RowKit

section
variable {H : Type} {enc : TypeId × Value → H} {P : Program} {W W' : World} {sp : Nat → Bool}

theorem trodAll_stays {T : TypeId → Prop} (K : _root_.Go.Kids P T) (hz : ∀ t e, T t → P.underlying t = some (.slice e) → 0 < P.cellsOf e) :
    ∀ {ts : List TypeId} {vs : List Value} {ds : List (DataW H)} {ps : List MemPlace}, (∀ t ∈ ts, T t) → DataW.TrodAll enc P W 0 (fun _ => true) true ts vs ds ps →
      (∀ p ∈ ps, W.sameAt W' p) → (∀ p ∈ ps, sp p.block = true) → DataW.TrodAll enc P W' 0 sp true ts vs ds ps
  | [], [], [], _, _, h, _, _ => h
  | _ :: _, _ :: _, _ :: _, _, hT, ⟨p, q, ⟨n, h1⟩, h2, e⟩, hs, hb =>
    ⟨p, q, ⟨n, DataW.trod_stays K (fun ht hu => hz _ _ ht hu) (fun h => by cases h) (hT _ List.mem_cons_self) h1 (fun x hx => hs x (by rw [e]; exact List.mem_append_left _ hx)) (fun x hx => hb x (by rw [e]; exact List.mem_append_left _ hx))⟩,
      trodAll_stays K hz (fun t ht => hT t (List.mem_cons_of_mem _ ht)) h2 (fun x hx => hs x (by rw [e]; exact List.mem_append_right _ hx)) (fun x hx => hb x (by rw [e]; exact List.mem_append_right _ hx)), e⟩

theorem below_of_fr {M : Nat → Prop} {w w' : World} (h : Fr M w w') (hM : ∀ b, ¬ M b) : Below w.heap.size w w' := ⟨h.os, h.tape, h.output, h.size, fun k hk => h.block k hk (hM k)⟩

/-- A law's answer is true and nothing that was there has turned. -/
theorem post_of_law {f : Func} {s : ChangeSpec} {apart fresh handsOn again : Bool} {args : Array Value} {ds gs : List (DataW H)} {before : List MemPlace} {tB : TypeId}
    (hl : laidOutB P = true) (hm : mapsRowed P = true) (hz : ∀ t e, t < P.types.size → P.underlying t = some (.slice e) → 0 < P.cellsOf e)
    (hts : ∀ t ∈ f.params.toList, t < P.types.size) (hr : f.resultTypes = #[tB]) (hB : P.underlying tB = some .bool) (hv : s.vars = [])
    (hres : (s.fn H (ds ++ gs)).results = [.lit (.bool true)]) (hargs : (s.fn H (ds ++ gs)).args = ds) (hvars : (s.fn H (ds ++ gs)).vars = [])
    (hW : DataW.Whole enc P f.params.toList s.vars apart W args.toList ds gs before) (hb : Below W.heap.size W W') :
    s.post enc P f apart fresh handsOn again W args (.bool true) W' := by
  have hW' := hW
  obtain ⟨p, q, hA, hV, rfl, hfz, hnd⟩ := hW
  rw [hv] at hV
  obtain ⟨rfl, rfl⟩ := trodVars_none hV
  have hlt : ∀ x ∈ p ++ ([] : List MemPlace), x.block < W.heap.size := fun x hx => hW'.lt x hx
  have h1 : ∀ (b : Nat) (sp : Nat → Bool) (hd : Bool), DataW.TrodAll enc P W' b sp hd f.resultTypes.toList ((Value.bool true).resultList f.resultTypes.size) (s.fn H (ds ++ [])).results [] := by
    intro b sp hd
    rw [hr, hres]
    exact trodAll_mk1 (shut_bool hB true)
  have h2 : ∀ sp : Nat → Bool, (∀ x ∈ p ++ ([] : List MemPlace), sp x.block = true) → DataW.TrodAll enc P W' 0 sp true f.params.toList args.toList (s.fn H (ds ++ [])).args p := by
    intro sp hs
    rw [hargs]
    exact trodAll_stays (T := (· < P.types.size)) (kids_rows hl hm) hz hts hA (fun x hx => hb.same (hlt x (List.mem_append_left _ hx))) (fun x hx => hs x (List.mem_append_left _ hx))
  have h3 : ∀ sp : Nat → Bool, DataW.TrodVars enc P W' sp s.vars (s.fn H (ds ++ [])).vars [] := by
    intro sp
    rw [hv, hvars]
    rfl
  have hold : ∀ x ∈ p ++ ([] : List MemPlace), (fun b => decide (b < W.heap.size)) x.block = true := fun x hx => by simpa using hlt x hx
  refine ⟨ds, [], _, [], p, [], hW', h1 _ _ _, h2 _ hold, h3 _, hb.frame _, fun _ => ⟨ok_one hr rfl (okWide_bool_mk hB _), _, _, ([] ++ p) ++ [], ⟨[] ++ p, [], trodAll_append (h2 _ (fun _ _ => rfl)) (h1 _ _ _), h3 _, rfl, ?_, ?_⟩, ?_⟩⟩
  · intro b off hp
    have hp' : MemPlace.cell b off ∈ p ++ ([] : List MemPlace) := by simpa using hp
    rw [hb.frozen (p := ⟨b, off, none⟩) (hlt _ hp')]
    exact hfz b off hp'
  · intro ha
    have := hnd ha
    simpa using this
  · intro x hp _
    simpa using hp

theorem okWide_agg {tV tL tM tE tD tS tI tB : TypeId} (T : VT P tV tL tM tE tD tS tI tB) {r : Reach} {base : Nat} {v : Value} (h : Value.okWide P W r base tV v) : ∃ cs : Array Value, v = .agg cs ∧ cs.size = P.cellsOf tV := by
  obtain ⟨fs, hu, _⟩ := T.v
  unfold Value.okWide at h
  rw [hu] at h
  obtain ⟨cs, h1, h2, _⟩ := h
  exact ⟨cs, h1, h2⟩

theorem okWide_str {t : TypeId} (T : ∃ fs, P.underlying t = some (.struct fs)) {r : Reach} {base : Nat} {v : Value} (h : Value.okWide P W r base t v) : ∃ (fs : Array Field) (_ : P.underlying t = some (.struct fs)) (cs : Array Value), v = .agg cs ∧ cs.size = P.cellsOf t := by
  obtain ⟨fs, hu⟩ := T
  unfold Value.okWide at h
  rw [hu] at h
  obtain ⟨cs, h1, h2, _⟩ := h
  exact ⟨fs, hu, cs, h1, h2⟩

theorem weights_le {ts : List TypeId} {ds : List (DataW H)} (h : (DataW.weightsEach P ts ds).all (· ≤ reachBytes) = true) {j : Nat} {t : TypeId} {d : DataW H} (ht : ts[j]? = some t) (hd : ds[j]? = some d) : ∀ k ∈ d.weights P t, k ≤ reachBytes := by
  intro k hk
  have := List.all_eq_true.1 h k (DataW.weights_mem_each ht hd k hk)
  simpa using this

end
end Go.Sy
/- Closed facts of the program that every row's closing asks. -/
namespace Go.Proofs.YtadnijcgohflhaaDoor.Row
open Go Go.Proofs Go.Sy Go.ChangeShapes Go.WideShapes Go.ChangeAt Go.RowKit
set_option maxRecDepth 100000

theorem own : ownKnob Tryd.prog.godebug = none := by kernel_rfl
theorem laidOut : laidOutB Tryd.prog = true := by kernel_rfl
theorem rowed : mapsRowed Tryd.prog = true := by kernel_rfl
theorem full : ∀ t e, t < Tryd.prog.types.size → Tryd.prog.underlying t = some (.slice e) → 0 < Tryd.prog.cellsOf e := slices_full_of Tryd.prog (by kernel_rfl)
theorem vt : VT Tryd.prog 27 24 25 125 23 9 3 4 where
  v := ⟨_, Tryd.underlying27, rfl⟩
  l := by kernel_rfl
  m := by kernel_rfl
  e := ⟨_, Tryd.underlying125, rfl⟩
  d := ⟨_, Tryd.underlying23, rfl⟩
  s := by kernel_rfl
  i := by kernel_rfl
  b := by kernel_rfl
  cV := by kernel_rfl
  cE := by kernel_rfl
  cD := by kernel_rfl
  cS := by kernel_rfl
  cI := by kernel_rfl
  cB := by kernel_rfl
  cL := by kernel_rfl
  cM := by kernel_rfl
  bV := of_decide_eq_true (by kernel_rfl)
  bE := of_decide_eq_true (by kernel_rfl)
end Go.Proofs.YtadnijcgohflhaaDoor.Row
