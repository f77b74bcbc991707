/- Parts of the proof of CEditsMany: Lk, SyT, SyW, F42, F43, F44. No conditions. -/
import Derived.Test.YtadnijcgohflhaaDoorM10
/- Plain: what the program computes of changes of records; records numbered anew tell their value. No program in sight. -/
namespace Go.Sy

def stAt (L : List GRec) (i : Nat) : Int := (L[i]?.map GRec.st).getD 0
def enAt (L : List GRec) (i : Nat) : Int := (L[i]?.map GRec.en).getD 0

/-! ### Numbers given anew -/

/-- The records, the open ones (the last one first), the next number. -/
structure RnS where
  L : List GRec
  op : List Nat
  ord : Int

def GRec.atSt (r : GRec) (x : Int) : GRec := ⟨x, r.en, r.lv, r.kd, r.nm, r.name, r.b, r.n, r.s⟩
def GRec.atEn (r : GRec) (x : Int) : GRec := ⟨r.st, x, r.lv, r.kd, r.nm, r.name, r.b, r.n, r.s⟩
def setEn (L : List GRec) (i : Nat) (x : Int) : List GRec := match L[i]? with
  | some r => L.set i (r.atEn x)
  | none => L
def setSt (L : List GRec) (i : Nat) (x : Int) : List GRec := match L[i]? with
  | some r => L.set i (r.atSt x)
  | none => L
theorem setEn_len (L : List GRec) (i : Nat) (x : Int) : (setEn L i x).length = L.length := by
  unfold setEn
  split
  · rw [List.length_set]
  · rfl
theorem setSt_len (L : List GRec) (i : Nat) (x : Int) : (setSt L i x).length = L.length := by
  unfold setSt
  split
  · rw [List.length_set]
  · rfl

/-- The open ones shut down to a level. -/
def shutS (lv : Int) : List GRec → List Nat → Int → RnS
  | L, [], ord => ⟨L, [], ord⟩
  | L, t :: op, ord => if lv < (op.length : Int) + 1 then shutS lv (setEn L t ord) op (ord + 1) else ⟨L, t :: op, ord⟩
def lvAt (L : List GRec) (i : Nat) : Int := (L[i]?.map GRec.lv).getD 0
def stepR (s : RnS) (k : Nat) : RnS :=
  let t := shutS (lvAt s.L k) s.L s.op s.ord
  ⟨setSt t.L k t.ord, k :: t.op, t.ord + 1⟩
def runR (s : RnS) (a n : Nat) : RnS := (List.range' a n).foldl stepR s
/-- Records numbered anew. -/
def renumG (L : List GRec) : List GRec :=
  let s := runR ⟨L, [], 0⟩ 0 L.length
  (shutS 0 s.L s.op s.ord).L

/-! ### A value by numbers -/

mutual
def treeN : Nat → List GRec → GVal
  | 0, _ => gval0
  | _ + 1, [] => gval0
  | n + 1, r :: l => .mk r.kd r.b r.n r.s (forestN n l).ls (forestN n l).ks (forestN n l).vs
def forestN : Nat → List GRec → Kids
  | 0, _ => ⟨[], [], [], []⟩
  | _ + 1, [] => ⟨[], [], [], []⟩
  | n + 1, k :: l =>
    let R := forestN n (l.drop (runL k.en l))
    let x := treeN n (k :: l.take (runL k.en l))
    if k.nm then ⟨R.ls, k.name :: R.ks, x :: R.vs, []⟩ else ⟨x :: R.ls, R.ks, R.vs, []⟩
end
def treeG (L : List GRec) : GVal := treeN (enough L) L

/-- How much records weigh. -/
def recW (r : GRec) : Nat := 1 + r.s.size + r.n.dg.size + r.name.size
def recsW : List GRec → Nat
  | [] => 0
  | r :: l => recW r + recsW l
theorem recsW_append : ∀ a b : List GRec, recsW (a ++ b) = recsW a + recsW b
  | [], b => by simp [recsW]
  | r :: a, b => by simp only [List.cons_append, recsW, recsW_append a b]; omega
theorem recsW_len : ∀ L : List GRec, L.length ≤ recsW L
  | [] => Nat.le_refl _
  | r :: l => by have := recsW_len l; simp only [List.length_cons, recsW, recW]; omega

mutual
theorem treeN_w : ∀ (n : Nat) (L : List GRec), 0 < L.length → (treeN n L).weight ≤ recsW L
  | 0, L, h => by
    have : gval0.weight = 1 := rfl
    have := recsW_len L
    rw [treeN]
    omega
  | n + 1, [], h => by simp at h
  | n + 1, r :: l, _ => by
    have := forestN_w n l
    rw [treeN, GVal.weight, recsW, recW]
    omega
theorem forestN_w : ∀ (n : Nat) (L : List GRec), GVal.weights (forestN n L).ls + sizes (forestN n L).ks + GVal.weights (forestN n L).vs ≤ recsW L
  | 0, L => by rw [forestN]; simp [GVal.weights, sizes]
  | n + 1, [] => by rw [forestN]; simp [GVal.weights, sizes]
  | n + 1, k :: l => by
    have h1 := treeN_w n (k :: l.take (runL k.en l)) (by simp)
    have h2 := forestN_w n (l.drop (runL k.en l))
    have h3 : recsW (l.take (runL k.en l)) + recsW (l.drop (runL k.en l)) = recsW l := by rw [← recsW_append, List.take_append_drop]
    rw [recsW] at h1
    rw [forestN, recsW]
    by_cases hn : k.nm = true
    · rw [if_pos hn]
      dsimp only
      rw [sizes, GVal.weights]
      have : (treeN n (k :: l.take (runL k.en l))).weight + k.name.size ≤ recW k + recsW (l.take (runL k.en l)) := by
        cases n with
        | zero =>
          have : gval0.weight = 1 := rfl
          rw [treeN, recW]
          omega
        | succ n =>
          have := forestN_w n (l.take (runL k.en l))
          rw [treeN, GVal.weight, recW]
          omega
      omega
    · rw [if_neg hn]
      dsimp only
      rw [GVal.weights]
      omega
end

/-! ### Numbers given anew to a value's records are a shred's -/

theorem shutS_len : ∀ (lv : Int) (L : List GRec) (op : List Nat) (ord : Int), (shutS lv L op ord).L.length = L.length
  | _, L, [], _ => rfl
  | lv, L, t :: op, ord => by
    rw [shutS]
    split
    · rw [shutS_len lv, setEn_len]
    · rfl
theorem setEn_lv (L : List GRec) (i : Nat) (x : Int) (k : Nat) : lvAt (setEn L i x) k = lvAt L k := by
  unfold lvAt setEn
  split
  · rename_i r hr
    rw [List.getElem?_set]
    by_cases h : i = k
    · subst h
      rw [if_pos rfl, if_pos (List.getElem?_eq_some_iff.1 hr).1, hr]
      rfl
    · rw [if_neg h]
  · rfl
theorem shutS_lv : ∀ (lv : Int) (L : List GRec) (op : List Nat) (ord : Int) (k : Nat), lvAt (shutS lv L op ord).L k = lvAt L k
  | _, L, [], _, _ => rfl
  | lv, L, t :: op, ord, k => by
    rw [shutS]
    split
    · rw [shutS_lv lv, setEn_lv]
    · rfl
theorem shutS_same {lv : Int} (L : List GRec) (op : List Nat) (ord : Int) (h : (op.length : Int) ≤ lv) : shutS lv L op ord = ⟨L, op, ord⟩ := by
  cases op with
  | nil => rfl
  | cons t op =>
    rw [List.length_cons] at h
    rw [shutS, if_neg (by omega)]
theorem shutS_trans : ∀ (lv lv' : Int) (_ : lv' ≤ lv) (L : List GRec) (op : List Nat) (ord : Int), shutS lv' (shutS lv L op ord).L (shutS lv L op ord).op (shutS lv L op ord).ord = shutS lv' L op ord
  | _, _, _, L, [], _ => rfl
  | lv, lv', h, L, t :: op, ord => by
    by_cases h1 : lv < (op.length : Int) + 1
    · conv => rhs; rw [shutS, if_pos (by omega)]
      rw [shutS, if_pos h1]
      exact shutS_trans lv lv' h _ _ _
    · rw [shutS_same (lv := lv) L (t :: op) ord (by rw [List.length_cons]; omega)]

theorem er_map {L M : List GRec} (h : L.map er = M.map er) (k : Nat) : (L[k]?.map er) = (M[k]?.map er) := by
  have := congrArg (fun l : List GRec => l[k]?) h
  simpa using this
theorem er_lv {L M : List GRec} (h : L.map er = M.map er) (k : Nat) : lvAt L k = lvAt M k := by
  have := congrArg (fun o : Option GRec => (o.map GRec.lv).getD 0) (er_map h k)
  have h0 : ∀ o : Option GRec, ((o.map er).map GRec.lv).getD 0 = (o.map GRec.lv).getD 0 := fun o => by cases o <;> rfl
  unfold lvAt
  rw [← h0, this, h0]

theorem runR_add (s : RnS) (a m n : Nat) : runR s a (m + n) = runR (runR s a m) (a + m) n := by
  unfold runR
  rw [← List.range'_append_1, List.foldl_append]
theorem runR_one (s : RnS) (a : Nat) : runR s a 1 = stepR s a := rfl

theorem setSt_at (A C : List GRec) (r : GRec) (x : Int) : setSt (A ++ r :: C) A.length x = A ++ r.atSt x :: C := by
  unfold setSt
  rw [List.getElem?_append_right (Nat.le_refl _), Nat.sub_self]
  dsimp only [List.getElem?_cons_zero]
  rw [List.set_append_right _ _ (Nat.le_refl _), Nat.sub_self]
  rfl
theorem setEn_at (A C : List GRec) (r : GRec) (x : Int) : setEn (A ++ r :: C) A.length x = A ++ r.atEn x :: C := by
  unfold setEn
  rw [List.getElem?_append_right (Nat.le_refl _), Nat.sub_self]
  dsimp only [List.getElem?_cons_zero]
  rw [List.set_append_right _ _ (Nat.le_refl _), Nat.sub_self]
  rfl

mutual
theorem renum_V : ∀ (n : Nat) (g : GVal), cntV g ≤ n → g.wf → ∀ (lv : Int) (nm : Bool) (name : ByteArray) (B A C L0 : List GRec) (op0 op : List Nat) (ord0 ord : Int), 0 ≤ lv → (op.length : Int) = lv →
    B.map er = (shredV 1 g lv nm name 0).1.map er → shutS lv L0 op0 ord0 = ⟨A ++ (B ++ C), op, ord⟩ →
    shutS lv (runR ⟨L0, op0, ord0⟩ A.length (cntV g)).L (runR ⟨L0, op0, ord0⟩ A.length (cntV g)).op (runR ⟨L0, op0, ord0⟩ A.length (cntV g)).ord = ⟨A ++ ((shredV 1 g lv nm name (ord - 1)).1 ++ C), op, ord + wV 1 g⟩
  | 0, g, hn, _, _, _, _, _, _, _, _, _, _, _, _, _, _, _, _ => by have := cntV_pos g; omega
  | n + 1, g, hn, hw, lv, nm, name, B, A, C, L0, op0, op, ord0, ord, h0, hop, hB, hS => by
    have hc := cntI_its hw
    have hsv := shredV_its 1 g lv nm name 0 hw
    rw [hsv] at hB
    cases B with
    | nil => simp at hB
    | cons r K =>
      simp only [List.map_cons, List.cons.injEq] at hB
      obtain ⟨hr, hK⟩ := hB
      have hlv0 : lvAt L0 A.length = lv := by
        rw [← shutS_lv lv L0 op0 ord0, hS]
        unfold lvAt
        dsimp only
        rw [List.getElem?_append_right (Nat.le_refl _), Nat.sub_self]
        exact congrArg GRec.lv hr
      have hstep : stepR ⟨L0, op0, ord0⟩ A.length = ⟨A ++ (r.atSt ord :: (K ++ C)), A.length :: op, ord + 1⟩ := by
        unfold stepR
        dsimp only
        rw [hlv0, hS]
        dsimp only
        rw [List.cons_append, setSt_at]
      have hlenA : (A ++ [r.atSt ord]).length = A.length + 1 := by simp
      have hI := renum_I n (its g) (by omega) (wfs_its hw) (lv + 1) K (A ++ [r.atSt ord]) C (A ++ (r.atSt ord :: (K ++ C))) (A.length :: op) (A.length :: op) (ord + 1) (ord + 1) (by omega) (by rw [List.length_cons]; omega)
        (by
          rw [hK]
          have e1 := (shredI_lay' (gap := 1) (by omega) (wfs_its hw) (lv + 1) (0 + 1)).er_eq (wfs_its hw) 1 0
          exact e1)
        (by rw [shutS_same _ _ _ (by rw [List.length_cons]; omega)]; simp)
      rw [hlenA] at hI
      rw [hc, runR_add, runR_one, hstep]
      generalize runR ⟨A ++ (r.atSt ord :: (K ++ C)), A.length :: op, ord + 1⟩ (A.length + 1) (cntI (its g)) = s at *
      rw [← shutS_trans (lv + 1) lv (by omega), hI]
      dsimp only
      rw [shutS, if_pos (by omega), shutS_same _ _ _ (by omega)]
      rw [List.append_assoc, List.singleton_append, setEn_at, shredV_its 1 g lv nm name (ord - 1) hw]
      have hwe := wI_its (gap := 1) hw
      congr 1
      · rw [show ord + 1 - 1 = ord - 1 + 1 by omega, List.cons_append]
        congr 2
        · have e := hr
          unfold er stE at e
          injection e with _ _ e3 e4 e5 e6 e7 e8 e9
          obtain ⟨a1, a2, a3, a4, a5, a6, a7, a8, a9⟩ := r
          dsimp only at e3 e4 e5 e6 e7 e8 e9
          subst e3 e4 e5 e6 e7 e8 e9
          unfold GRec.atEn GRec.atSt
          dsimp only
          congr 1 <;> omega
      · omega
termination_by n => (n, 0)
theorem renum_I : ∀ (n : Nat) (xs : List Itm), cntI xs ≤ n → GVal.wfs (valsI xs) → ∀ (lv : Int) (B A C L0 : List GRec) (op0 op : List Nat) (ord0 ord : Int), 0 ≤ lv → (op.length : Int) = lv →
    B.map er = (shredI 1 xs lv 0).1.map er → shutS lv L0 op0 ord0 = ⟨A ++ (B ++ C), op, ord⟩ →
    shutS lv (runR ⟨L0, op0, ord0⟩ A.length (cntI xs)).L (runR ⟨L0, op0, ord0⟩ A.length (cntI xs)).op (runR ⟨L0, op0, ord0⟩ A.length (cntI xs)).ord = ⟨A ++ ((shredI 1 xs lv (ord - 1)).1 ++ C), op, ord + wI 1 xs⟩
  | n, [], hn, hw, lv, B, A, C, L0, op0, op, ord0, ord, h0, hop, hB, hS => by
    have : B = [] := by simpa [shredI] using hB
    subst this
    have h1 : cntI [] = 0 := rfl
    have h2 : wI 1 [] = 0 := rfl
    rw [h1, h2, Int.add_zero]
    exact hS
  | n, x :: xs, hn, hw, lv, B, A, C, L0, op0, op, ord0, ord, h0, hop, hB, hS => by
    simp only [valsI, List.map_cons, GVal.wfs] at hw
    have hc : cntI (x :: xs) = cntV x.v + cntI xs := rfl
    have he : wI 1 (x :: xs) = wV 1 x.v + wI 1 xs := rfl
    unfold shredI at hB
    dsimp only at hB
    rw [List.map_append] at hB
    obtain ⟨B1, B2, rfl, h1, h2⟩ := List.map_eq_append_iff.1 hB
    have hlen1 : B1.length = cntV x.v := by
      have := congrArg List.length h1
      rw [List.length_map, List.length_map] at this
      rw [this]
      have := congrArg List.length (shredV_sk 1 x.v lv x.nm x.name 0 hw.1).1
      rw [List.length_map, skV_len] at this
      exact this
    have hV := renum_V n x.v (by omega) hw.1 lv x.nm x.name B1 A (B2 ++ C) L0 op0 op ord0 ord h0 hop h1 (by rw [hS, List.append_assoc])
    have hsk := shredV_sk 1 x.v lv x.nm x.name (ord - 1) hw.1
    have hlen2 : (shredV 1 x.v lv x.nm x.name (ord - 1)).1.length = cntV x.v := by
      have := congrArg List.length hsk.1
      rw [List.length_map, skV_len] at this
      exact this
    rw [hc, runR_add]
    generalize runR ⟨L0, op0, ord0⟩ A.length (cntV x.v) = s at *
    have hI := renum_I n xs (by omega) hw.2 lv B2 (A ++ (shredV 1 x.v lv x.nm x.name (ord - 1)).1) C s.L s.op op s.ord (ord + wV 1 x.v) h0 hop
      (by
        rw [h2]
        have hw2 : GVal.wfs (valsI xs) := hw.2
        exact (shredI_lay' (gap := 1) (by omega) hw2 lv _).er_eq hw2 1 0)
      (by rw [hV, List.append_assoc])
    rw [List.length_append, hlen2] at hI
    rw [show (⟨s.L, s.op, s.ord⟩ : RnS) = s from rfl] at hI
    have hI2 : (shredI 1 (x :: xs) lv (ord - 1)).1 = (shredV 1 x.v lv x.nm x.name (ord - 1)).1 ++ (shredI 1 xs lv (shredV 1 x.v lv x.nm x.name (ord - 1)).2).1 := rfl
    rw [hI, he, hI2, hsk.2, show ord + wV 1 x.v - 1 = ord - 1 + wV 1 x.v by omega]
    congr 1
    · simp only [List.append_assoc]
    · omega
termination_by n xs => (n, xs.length + 1)
end

/-- RECORDS OF A VALUE, NUMBERED ANEW, ARE A SHRED. -/
theorem renum_shred {g : GVal} (hw : g.wf) {nm : Bool} {name : ByteArray} {L : List GRec} (h : L.map er = (shredV 1 g 0 nm name 0).1.map er) : renumG L = (shredV 1 g 0 nm name (-1)).1 := by
  have hlen : L.length = cntV g := by
    have := congrArg List.length h
    rw [List.length_map, List.length_map] at this
    rw [this]
    have := congrArg List.length (shredV_sk 1 g 0 nm name 0 hw).1
    rw [List.length_map, skV_len] at this
    exact this
  have := renum_V (cntV g) g (Nat.le_refl _) hw 0 nm name L [] [] L [] [] 0 0 (Int.le_refl _) rfl h (by rw [shutS]; simp)
  unfold renumG
  dsimp only
  rw [hlen]
  rw [List.length_nil] at this
  rw [this]
  simp

/-! ### A shred's numbers tell its value -/

theorem runL_blk {en : Int} : ∀ (B C : List GRec), (∀ r ∈ B, r.st < en) → (∀ r, C.head? = some r → en ≤ r.st) → runL en (B ++ C) = B.length
  | [], C, _, hc => by
    cases C with
    | nil => rfl
    | cons r l =>
      have := hc r rfl
      rw [List.nil_append, runL, if_neg (by omega)]
      rfl
  | r :: B, C, h, hc => by
    rw [List.cons_append, runL, if_pos (h r List.mem_cons_self), runL_blk B C (fun x hx => h x (List.mem_cons_of_mem _ hx)) hc, List.length_cons]

mutual
theorem LayV.tree : ∀ {g : GVal} {lv : Int} {nm : Bool} {name : ByteArray} {lo hi : Int} {L : List GRec}, LayV g lv nm name lo L hi → g.wf → ∀ n, 2 * L.length ≤ n → treeN n L = g
  | g, _, _, _, _, _, _, .mk (K := K) h1 h2 h3 h4, hw, n, hn => by
    rw [List.length_cons] at hn
    obtain ⟨n, rfl⟩ : ∃ m, n = m + 1 := ⟨n - 1, by omega⟩
    have := h2.forest (wfs_its hw) n (by omega)
    rw [treeN]
    dsimp only
    have hk := (wf_eq g).1 hw
    have e1 := this.1
    have e2 := this.2.1
    have e3 := this.2.2
    have hL : ((its g).filter fun x => !x.nm).map Itm.v = g.l ∧ ((its g).filter fun x => x.nm).map Itm.name = g.ks ∧ ((its g).filter fun x => x.nm).map Itm.v = g.vs := by
      have a1 : ∀ l : List GVal, (itsL l).filter (fun x => !x.nm) = itsL l ∧ (itsL l).filter (fun x => x.nm) = [] := by
        intro l
        constructor
        · rw [List.filter_eq_self]
          intro x hx
          obtain ⟨y, _, rfl⟩ := List.mem_map.1 hx
          rfl
        · rw [List.filter_eq_nil_iff]
          intro x hx
          obtain ⟨y, _, rfl⟩ := List.mem_map.1 hx
          simp
      have a2 : ∀ (vs : List GVal) (ks : List ByteArray), ks.length = vs.length → (itsM vs ks).filter (fun x => !x.nm) = [] ∧ (itsM vs ks).filter (fun x => x.nm) = itsM vs ks ∧ (itsM vs ks).map Itm.name = ks := by
        intro vs
        induction vs with
        | nil =>
          intro ks h
          cases ks with
          | nil => exact ⟨rfl, rfl, rfl⟩
          | cons => simp at h
        | cons v vs ih =>
          intro ks h
          cases ks with
          | nil => simp at h
          | cons k ks =>
            obtain ⟨b1, b2, b3⟩ := ih ks (by simpa using h)
            unfold itsM
            refine ⟨?_, ?_, ?_⟩
            · rw [List.filter_cons_of_neg (by simp), b1]
            · rw [List.filter_cons_of_pos rfl, b2]
            · rw [List.map_cons, b3]
      have b1 := a1 g.l
      have b2 := a2 g.vs g.ks hk.1
      have b3 := (itsM_len g.vs g.ks hk.1).2
      unfold its
      rw [List.filter_append, List.filter_append, b1.1, b1.2, b2.1, b2.2.1, List.append_nil, List.nil_append]
      refine ⟨valsI_L g.l, b2.2.2, b3⟩
    rw [e1, e2, e3, hL.1, hL.2.1, hL.2.2]
    cases g
    rfl
theorem LayI.forest : ∀ {xs : List Itm} {lv lo hi : Int} {L : List GRec}, LayI xs lv lo L hi → GVal.wfs (valsI xs) → ∀ n, 2 * L.length + 1 ≤ n →
    (forestN n L).ls = (xs.filter fun x => !x.nm).map Itm.v ∧ (forestN n L).ks = (xs.filter fun x => x.nm).map Itm.name ∧ (forestN n L).vs = (xs.filter fun x => x.nm).map Itm.v
  | _, _, _, _, _, .nil h, _, n, hn => by
    obtain ⟨n, rfl⟩ : ∃ m, n = m + 1 := ⟨n - 1, by omega⟩
    rw [forestN]
    exact ⟨rfl, rfl, rfl⟩
  | x :: xs, lv, lo, hi, _, .cons (A := A) (B := B) h1 h2, hw, n, hn => by
    obtain ⟨n, rfl⟩ : ∃ m, n = m + 1 := ⟨n - 1, by omega⟩
    simp only [valsI, List.map_cons, GVal.wfs] at hw
    have hB := h2.bd
    have hT := fun n hn => h1.tree hw.1 n hn
    have hpos : 0 < A.length := by
      have := h1.len hw.1
      have := cntV_pos x.v
      omega
    rw [List.length_append] at hn
    cases h1 with
    | mk a b c d =>
      rename_i st en m K
      have hKb := b.bd
      have hrun : runL en (K ++ B) = K.length := runL_blk K B (fun r hr => by have := hKb r hr; omega) (fun r hr => by
        have := hB r (by cases B with | nil => cases hr | cons y l => simp only [List.head?_cons, Option.some.injEq] at hr; subst hr; exact List.mem_cons_self)
        omega)
      rw [List.length_cons] at hn
      have hT := hT n (by rw [List.length_cons]; omega)
      obtain ⟨f1, f2, f3⟩ := h2.forest hw.2 n (by omega)
      rw [List.cons_append, forestN]
      dsimp only
      rw [hrun, List.take_left, List.drop_left, hT]
      by_cases hnm : x.nm = true
      · rw [if_pos hnm]
        rw [List.filter_cons_of_neg (by simp [hnm]), List.filter_cons_of_pos hnm]
        exact ⟨f1, by rw [List.map_cons, f2], by rw [List.map_cons, f3]⟩
      · rw [if_neg hnm]
        rw [List.filter_cons_of_pos (by simpa using hnm), List.filter_cons_of_neg hnm]
        exact ⟨by rw [List.map_cons, f1], f2, f3⟩
end

/-- RECORDS OF A VALUE, NUMBERED ANEW, TELL IT. -/
theorem tree_renum {g : GVal} (hw : g.wf) {nm : Bool} {name : ByteArray} {L : List GRec} (h : L.map er = (shredV 1 g 0 nm name 0).1.map er) : treeG (renumG L) = g := by
  rw [renum_shred hw h]
  exact (shred_lay (gap := 1) (by omega) hw 0 nm name (-1)).tree hw _ (by unfold enough; omega)
end Go.Sy
/- Arrays that are made, of elements of several cells. No program in sight. -/
namespace Go.Sy
theorem madeCells_rep (z : List Value) (k : Nat) : (madeCells z.toArray (k * z.length)).toList = (List.replicate k z).flatten := by
  have hall : ∀ r ∈ List.replicate k z, r.length = z.length := fun r hr => by rw [List.eq_of_mem_replicate hr]
  have hl : (List.replicate k z).flatten.length = k * z.length := by rw [flat_len hall, List.length_replicate]
  have hl2 : (madeCells z.toArray (k * z.length)).toList.length = k * z.length := by rw [Array.length_toList, size_madeCells]
  apply List.ext_getElem?
  intro i
  by_cases hi : i < k * z.length
  · have hz : 0 < z.length := by
      rcases Nat.eq_zero_or_pos z.length with h | h
      · rw [h, Nat.mul_zero] at hi; omega
      · exact h
    have hm : i / z.length < k := Nat.div_lt_of_lt_mul (by rw [Nat.mul_comm]; exact hi)
    have hj : i % z.length < z.length := Nat.mod_lt _ hz
    have := flat_get hall (m := i / z.length) (j := i % z.length) (r := z) (c := z[i % z.length]) (by rw [List.getElem?_replicate, if_pos hm]) (List.getElem?_eq_getElem hj)
    rw [Nat.mul_comm, Nat.div_add_mod] at this
    rw [this]
    unfold madeCells
    rw [Array.getElem?_toList, Array.getElem?_map, Array.getElem?_range, if_pos hi]
    simp [hj]
  · rw [List.getElem?_eq_none (by omega), List.getElem?_eq_none (by omega)]
section
variable {cf : Cf} {Q : Exit → Act → World → Prop} {σ : Snap} {env : Env} {hp : HP} {A : List AE} {nh : Nat} {it : Item} {rest : List Item}

/-- 'make([]T, n)'. -/
theorem oj_makeSliceN {d : Nat} {t e n : Nat} {x y : Operand} {T : List (Nat × TI)} (hT : TTok cf.P T) {ti te : TI} (xs : List Value) (hop : it.o.op = .makeSlice t x y) (hd : it.o.dst = some d) (hg : guardVal it.guard env = some true) (hN : Nat.blt d cf.N = true)
    (htg : canSink it.tag = true) (hx : evalO env x = some (.a (.v (.int .i64 n)))) (hy : evalO env y = some (.a (.v (.int .i64 n)))) (ht : tget T t = some ti) (hkt : ti.kind = .slice e) (hte : tget T e = some te)
    (hby : n * te.bytes ≤ 281474976710656) (hmax : n ≤ 1000000000) (hxs : (madeCells (te.zero.map AT.val).toArray (n * te.size)).toList = xs)
    (hk : ∀ g, OJ cf rest Q σ ((d, .a (.v (.slice (some ⟨g, 0, none⟩) n n))) :: env) hp (A ++ [⟨some ⟨g, 0, none⟩, n, n, e, te.size, xs⟩]) nh) : OJ cf (it :: rest) Q σ env hp A nh := by
  refine oj_step hd hg hN htg fun hb a β ha w hw => ?_
  obtain ⟨i1, d1, z1, hs1⟩ := tiOf_spec (hT _ _ ht)
  obtain ⟨i3, d3, z3, hs3⟩ := tiOf_spec (hT _ _ hte)
  have hut : cf.P.underlying t = some (.slice e) := by
    have h1 := hs1.kind
    rw [hkt] at h1
    have h2 := hs1.und
    cases d1 <;> first
      | (simp only [kindD, TK.slice.injEq] at h1; subst h1; exact h2)
      | (simp only [kindD] at h1; cases h1)
  have hz3 : z3.cells = (te.zero.map AT.val).toArray := (zero_den hs3 β0).symm
  have hxl : xs.length = n * te.size := by rw [← hxs, Array.length_toList, size_madeCells]
  have hxe : a.eval x = .int .i64 n := evalO_eval ha hx
  have hye : a.eval y = .int .i64 n := evalO_eval ha hy
  have hrun := run_make (P := cf.P) w t e i3 z3 hut hs3.info hs3.zero .i64 .i64 n n (by omega) (Int.le_refl _) (by rw [hs3.bytes]; rw [← Int.natCast_mul, Nat.mul_comm]; omega) (by omega)
  rw [hs3.size, Int.toNat_natCast, hz3] at hrun
  have hm := ((StW.nilArr e te.size).1 hw).moveArr (i := A.length) (E := ⟨none, 0, 0, e, te.size, []⟩) (E' := ⟨some ⟨w.heap.size, 0, none⟩, n, n, e, te.size, xs⟩) (cur' := madeCells (te.zero.map AT.val).toArray (n * te.size)) (by simp) rfl (Nat.le_refl _) (by simp only [maxLen]; omega) (by dsimp only; exact hxl) (by rw [size_madeCells]) (by dsimp only; rw [hxs, ← hxl, List.take_length])
  have hset : (A ++ [(⟨none, 0, 0, e, te.size, []⟩ : AE)]).set A.length ⟨some ⟨w.heap.size, 0, none⟩, n, n, e, te.size, xs⟩ = A ++ [⟨some ⟨w.heap.size, 0, none⟩, n, n, e, te.size, xs⟩] := by
    rw [List.set_append_right _ _ (Nat.le_refl _), Nat.sub_self]
    rfl
  rw [hset] at hm
  refine ⟨.a (.v (.slice (some ⟨w.heap.size, 0, none⟩) n n)), σ, hp, _, nh, _, β, ?_, ha, hb.put (x := .a (.v (.slice (some ⟨w.heap.size, 0, none⟩) n n))) trivial d, hm.undrew, hk w.heap.size⟩
  simp only [execOp, hop, hxe, hye, Sem.run_bind, hrun, Result.andThen_ok, Sem.run_pure]
  rfl
end

/-! ### A row becomes an array, also where other rows speak of it -/

def concH (h g : Nat) : HP → HP
  | [] => []
  | (i, k, cs) :: l => (i, k, cs.map (conc h g)) :: concH h g l
theorem concH_get {h g : Nat} : ∀ {hp : HP} {i : Nat}, (concH h g hp).get i = (hp.get i).map fun x => (x.1, x.2.map (conc h g))
  | [], _ => rfl
  | (j, k, cs) :: l, i => by
    rw [concH, HP.get_cons, HP.get_cons]
    split
    · rfl
    · exact concH_get
theorem concH_some {h g : Nat} {hp : HP} {i : Nat} {k : HK} {cs' : List AT} (hi : (concH h g hp).get i = some (k, cs')) : ∃ cs, hp.get i = some (k, cs) ∧ cs' = cs.map (conc h g) := by
  rw [concH_get] at hi
  cases hx : hp.get i with
  | none => rw [hx] at hi; cases hi
  | some x =>
    rw [hx] at hi
    obtain ⟨k0, cs⟩ := x
    simp only [Option.map_some, Option.some.injEq, Prod.mk.injEq] at hi
    exact ⟨cs, by rw [hi.1], hi.2.symm⟩
theorem concH_of {h g : Nat} {hp : HP} {i : Nat} {k : HK} {cs : List AT} (hi : hp.get i = some (k, cs)) : (concH h g hp).get i = some (k, cs.map (conc h g)) := by
  rw [concH_get, hi]
  rfl
section
variable {cf : Cf} {σ : Snap} {hp : HP} {A : List AE} {β : Nat → Addr} {w : World}
theorem StW.concH {h g : Nat} (hβ : β h = ⟨g, 0, none⟩) : StW cf σ hp A β w ↔ StW cf σ (concH h g hp) A β w := by
  constructor
  · intro s
    refine ⟨s.os, s.tape, s.output, s.size, s.fr, s.sealed, s.le, s.grow, fun i e cs hi => ?_, fun i cs hi j c hc => ?_, fun i j e e' cs cs' hi hj => ?_, s.arr, s.arrd, fun i j E e cs hE hj => ?_⟩
    · obtain ⟨cs0, h1, rfl⟩ := concH_some hi
      obtain ⟨q1, q2, q3⟩ := s.loc i e cs0 h1
      exact ⟨q1, by rw [concL_den hβ]; exact q2, q3⟩
    · obtain ⟨cs0, h1, rfl⟩ := concH_some hi
      rw [List.getElem?_map] at hc
      cases hc0 : cs0[j]? with
      | none => rw [hc0] at hc; cases hc
      | some c0 =>
        rw [hc0] at hc
        obtain rfl := Option.some.inj hc
        rw [conc_den hβ]
        exact s.ro i cs0 h1 j c0 hc0
    · obtain ⟨c1, h1, rfl⟩ := concH_some hi
      obtain ⟨c2, h2, rfl⟩ := concH_some hj
      exact s.inj i j e e' c1 c2 h1 h2
    · obtain ⟨c1, h1, rfl⟩ := concH_some hj
      exact s.arrh i j E e c1 hE h1
  · intro s
    refine ⟨s.os, s.tape, s.output, s.size, s.fr, s.sealed, s.le, s.grow, fun i e cs hi => ?_, fun i cs hi j c hc => ?_, fun i j e e' cs cs' hi hj => ?_, s.arr, s.arrd, fun i j E e cs hE hj => ?_⟩
    · obtain ⟨q1, q2, q3⟩ := s.loc i e _ (concH_of hi)
      rw [concL_den hβ] at q2
      exact ⟨q1, q2, q3⟩
    · have := s.ro i _ (concH_of hi) j (conc h g c) (by rw [List.getElem?_map, hc]; rfl)
      rw [conc_den hβ] at this
      exact this
    · exact s.inj i j e e' _ _ (concH_of hi) (concH_of hj)
    · exact s.arrh i j E e _ hE (concH_of hj)
end
section
variable {cf : Cf} {Q : Exit → Act → World → Prop} {σ : Snap} {env : Env} {hp : HP} {A : List AE} {nh : Nat}
theorem Bd.concH {h g : Nat} (hb : Bd env hp nh) : Bd env (concH h g hp) nh := by
  refine ⟨hb.env, fun i k cs hi => ?_⟩
  obtain ⟨cs0, h1, rfl⟩ := concH_some hi
  obtain ⟨h2, h3⟩ := hb.hp i k cs0 h1
  refine ⟨h2, fun c hc => ?_⟩
  obtain ⟨c0, h4, rfl⟩ := List.mem_map.1 hc
  exact conc_lt (h3 c0 h4)
theorem oj_ownH {l : List Item} (h : Nat) {e : TypeId} {cs : List AT} (n sz : Nat) (hrow : hp.get h = some (.loc e, cs)) (hcs : ∀ c ∈ cs, c.lt 0) (hlen : cs.length = n * sz) (hn : n ≤ 9223372036854775807)
    (k : ∀ g, OJ cf l Q σ (concE h g env) (concH h g (HP.del h hp)) (A ++ [⟨some ⟨g, 0, none⟩, n, n, e, sz, cs.map AT.val⟩]) nh) : OJ cf l Q σ env hp A nh := by
  refine ⟨fun hb a β ha hex => ?_⟩
  obtain ⟨w, hw⟩ := hex
  have hβ : β h = ⟨(β h).block, 0, none⟩ := (hw.loc h e cs hrow).1
  have e1 : (fun w => StW cf σ hp A β w) = fun w => StW cf σ (concH h (β h).block (HP.del h hp)) (A ++ [⟨some ⟨(β h).block, 0, none⟩, n, n, e, sz, cs.map AT.val⟩]) β w := by
    funext w; exact propext ((StW.own hrow hcs hβ hlen (by simp only [maxLen]; exact hn)).trans (StW.concH hβ))
  rw [e1]
  exact (k _).run hb.conc.concH a β (ha.conc hβ) ⟨w, (congrFun e1 w) ▸ hw⟩
theorem cj_ownH {c : Code} (h : Nat) {e : TypeId} {cs : List AT} (n sz : Nat) (hrow : hp.get h = some (.loc e, cs)) (hcs : ∀ c ∈ cs, c.lt 0) (hlen : cs.length = n * sz) (hn : n ≤ 9223372036854775807)
    (k : ∀ g, CJ cf c Q σ (concE h g env) (concH h g (HP.del h hp)) (A ++ [⟨some ⟨g, 0, none⟩, n, n, e, sz, cs.map AT.val⟩]) nh) : CJ cf c Q σ env hp A nh := by
  refine ⟨fun hb a β w ha hw => ?_⟩
  have hβ : β h = ⟨(β h).block, 0, none⟩ := (hw.loc h e cs hrow).1
  exact (k _).run hb.conc.concH a β w (ha.conc hβ) ((StW.concH hβ).1 ((StW.own hrow hcs hβ hlen (by simp only [maxLen]; exact hn)).1 hw))
end
end Go.Sy
/- More rules: room made by 'append(nil, make(..)..)'; values read in a wider class. No program in sight. -/
namespace Go.Sy

section
variable {cf : Cf} {Q : Exit → Act → World → Prop} {σ : Snap} {env : Env} {hp : HP} {A : List AE} {nh : Nat} {it : Item} {rest : List Item}

/-- 'append(nil, make([]E, m)...)'. -/
theorem StW.appendZ {β : Nat → Addr} {w : World} (h : StW cf σ hp A β w) {i : Nat} {e sz : Nat} (hi : A[i]? = some ⟨none, 0, 0, e, sz, []⟩) {t u ty : TypeId} {ie : TypeInfo} {z : Value} {m : Nat} {k : IntKind}
    (ht : cf.P.underlying t = some (.slice e)) (hu : cf.P.underlying u = some (.int k)) (hie : cf.P.info? e = some ie) (hz : ie.zero = some z) (hsz : ie.size = sz) (hzs : z.cells.size = sz) (hs0 : 0 < sz)
    (hm : 0 < m) (hmax : m ≤ maxLen) (hbytes : m * ie.bytes ≤ 140737488355328) :
    ∃ g cap' w', (Builtin.append_ #[t, u] ty #[.slice none 0 0, .int .i64 m]).run cf.P w = .ok (.slice (some ⟨g, 0, none⟩) m cap') w' ∧ StW cf σ hp (A.set i ⟨some ⟨g, 0, none⟩, m, cap', e, sz, (Builtin.zeroCells z.cells m).toList⟩) β w' ∧ m ≤ cap' := by
  have hfits := growslice_fits (old := 0) (need := m) (bytes := ie.bytes) (by omega) hbytes
  have hge := grownCap_ge w m 0 e
  have hgm := grownCap_le_maxLen w m 0 e hmax
  have hmi : ¬ (9223372036854775807 < ((m : Nat) : Int)) := by simp only [maxLen] at hmax; omega
  have hmi2 : ¬ (9223372036854775807 < ((0 + m : Nat) : Int)) := by simp only [maxLen] at hmax; omega
  have h48 : ¬ (281474976710656 < Builtin.nextslicecap m 0 * ie.bytes) := by omega
  have hw64 : IntKind.i64.wrap (m : Int) = m := IntWalk.i64_in _ (by simp only [maxLen] at hmax; omega)
  have hneg : ¬ ((m : Int) < 0) := by omega
  have hb1 : ¬ ((2 : Int) ^ 48 < (m : Int) * (ie.bytes : Int)) := by rw [← Int.natCast_mul]; omega
  have h48' : ¬ (2 ^ 48 < Builtin.nextslicecap m 0 * ie.bytes) := by omega
  have hroom : ¬ (0 + m ≤ 0) := by omega
  refine ⟨w.heap.size, grownCap w m 0 e, w.drew.alloc (.cells (Builtin.zeroCells z.cells m ++ Builtin.zeroCells z.cells (grownCap w m 0 e - m)) e), ?_, ?_, hge⟩
  · have hroom' : ¬ (m ≤ 0) := by omega
    have hms : ¬ (m * sz = 0) := by
      intro h
      rcases Nat.mul_eq_zero.1 h with h | h <;> omega
    simp only [Builtin.append_, List.getElem?_toArray, List.getElem?_cons_zero, List.getElem?_cons_succ, Sem.run_bind, run_underlying ht, Result.andThen_ok, run_size hie, hsz, run_underlying hu, if_true, Sem.run_pure]
    have ha : Sem.run cf.P (asInt (Value.int IntKind.i64 m)) w = .ok (m : Int) w := rfl
    have hf0 : ∀ w' : World, Sem.run cf.P (Builtin.firstCells sz 0 (.slice none 0 0)) w' = .ok #[] w' := fun _ => rfl
    simp only [ha, Result.andThen_ok, hw64, hneg, if_false, Sem.run_bind, run_tinfo hie, gt_iff_lt, hb1, Sem.run_pure, Int.toNat_natCast, Nat.zero_add, hroom', hmi, false_and, h48, run_choose, Question.forced, Bool.false_eq_true, run_askRoom, hf0, Bool.not_true, hms, run_zero hie hz, newRow, run_newObj]
    simp only [IntKind.max_i64, hmi, false_and, if_false, h48', Sem.run_pure, Sem.run_bind, Result.andThen_ok, run_tinfo hie, run_choose, Question.forced, Bool.false_eq_true, run_askRoom, hf0, hms, run_zero hie hz, newRow, run_newObj]
    rw [Array.empty_append]
    rfl
  · have hxl : (Builtin.zeroCells z.cells m).toList.length = m * sz := by rw [Array.length_toList, size_zeroCells, hzs]
    refine h.moveArr hi rfl hge hgm hxl ?_ ?_
    · simp only [Array.size_append, size_zeroCells, hzs, ← Nat.add_mul]
      congr 1
      omega
    · simp only [Array.toList_append]
      rw [← hxl]
      exact List.take_left

/-- 'append(nil, make([]E, m)...)'. -/
theorem oj_appendZ {d : Nat} {s x : Operand} {t u e : Nat} {T : List (Nat × TI)} (hT : TTok cf.P T) {ti tu te : TI} (i : Nat) {m : Nat} {k : IntKind}
    (hop : appendOf it.o.op = some (s, x, t, u)) (hd : it.o.dst = some d) (hg : guardVal it.guard env = some true) (hN : Nat.blt d cf.N = true) (htg : canSink it.tag = true)
    (hs : evalO env s = some (.a (.v (.slice none 0 0)))) (hx : evalO env x = some (.a (.v (.int .i64 m)))) (hA : A[i]? = some ⟨none, 0, 0, e, te.size, []⟩)
    (ht : tget T t = some ti) (hkt : ti.kind = .slice e) (hu : tget T u = some tu) (hku : tu.kind = .int k) (hte : tget T e = some te) (hzl : te.zero.length = te.size) (hs0 : 0 < te.size)
    (hm : 0 < m) (hmax : m ≤ 9223372036854775807) (hby : m * te.bytes ≤ 140737488355328)
    (hk : ∀ g cap' xs, m ≤ cap' → OJ cf rest Q σ ((d, .a (.v (.slice (some ⟨g, 0, none⟩) m cap'))) :: env) hp (A.set i ⟨some ⟨g, 0, none⟩, m, cap', e, te.size, xs⟩) nh) : OJ cf (it :: rest) Q σ env hp A nh := by
  refine oj_step hd hg hN htg fun hb a β ha w hw => ?_
  obtain ⟨i1, d1, z1, hs1⟩ := tiOf_spec (hT _ _ ht)
  obtain ⟨i2, d2, z2, hs2⟩ := tiOf_spec (hT _ _ hu)
  obtain ⟨i3, d3, z3, hs3⟩ := tiOf_spec (hT _ _ hte)
  have hut : cf.P.underlying t = some (.slice e) := by
    have h1 := hs1.kind
    rw [hkt] at h1
    have h2 := hs1.und
    cases d1 <;> first
      | (simp only [kindD, TK.slice.injEq] at h1; subst h1; exact h2)
      | (simp only [kindD] at h1; cases h1)
  have huu : cf.P.underlying u = some (.int k) := by
    have h1 := hs2.kind
    rw [hku] at h1
    have h2 := hs2.und
    cases d2 <;> first
      | (simp only [kindD, TK.int.injEq] at h1; subst h1; exact h2)
      | (simp only [kindD] at h1; cases h1)
  have hz3 : z3.cells.size = te.size := by
    have := congrArg Array.size (zero_den hs3 β0)
    rw [← this]
    simp only [List.size_toArray, List.length_map]
    exact hzl
  have hse : a.eval s = .slice none 0 0 := evalO_eval ha hs
  have hxe : a.eval x = .int .i64 m := evalO_eval ha hx
  obtain ⟨g, cap', w', hrun, hw', hc'⟩ := hw.appendZ (ty := it.o.type) hA hut huu hs3.info hs3.zero hs3.size hz3 hs0 hm (by simp only [maxLen]; exact hmax) (by rw [hs3.bytes]; exact hby)
  refine ⟨.a (.v (.slice (some ⟨g, 0, none⟩) m cap')), σ, hp, _, nh, w', β, ?_, ha, hb.put (x := .a (.v (.slice (some ⟨g, 0, none⟩) m cap'))) trivial d, hw', hk g cap' _ hc'⟩
  exact appendOf_run hop (by rw [hse, hxe]; exact hrun)

/-! ### A class that knows just what is sealed -/

theorem sealed_cell {σ : Snap} {w : World} (h : Sealed σ w) {a : Addr} {v : Value} (hv : σ.cell a = some v) : w.cell? a = some v := by
  unfold Snap.cell at hv
  unfold World.cell?
  split at hv
  · rename_i c e f hc
    rw [h _ _ hc]
    exact hv
  · cases hv

variable {W : (Nat → Addr) → World → Prop}

/-- The address of what stands in a list. -/
theorem ow_idxA {d : Nat} {x i : Operand} {t : TypeId} {T : List (Nat × TI)} (hT : TTok cf.P T) {ti te : TI} {e : Nat} {ad : Addr} {n c : Nat} {k : IntKind} {m : Int} (hp' : isPure it.tag = true) (hop : it.o.op = .indexAddr t x i) (hd : it.o.dst = some d)
    (hg : guardVal it.guard env = some true) (hN : Nat.blt d cf.N = true) (hx : evalO env x = some (.a (.v (.slice (some ad) n c)))) (hi : evalO env i = some (.a (.v (.int k m)))) (ht : tget T t = some ti) (hkd : ti.kind = .slice e)
    (hte : tget T e = some te) (h0 : 0 ≤ m ∧ m < n)
    (hk : OW cf rest Q W σ ((d, .a (.v (.pointer (some (ad.add (m.toNat * te.size)))))) :: env) hp A nh) : OW cf (it :: rest) Q W σ env hp A nh := by
  refine ow_val (.a (.v (.pointer (some (ad.add (m.toNat * te.size)))))) hd hg hN trivial (fun _ a β ha => ?_) hk
  cases htag : it.tag with
  | pure =>
    intro w
    obtain ⟨i2, d2, z2, hs2⟩ := tiOf_spec (hT _ _ ht)
    obtain ⟨i3, d3, z3, hs3⟩ := tiOf_spec (hT _ _ hte)
    have h1 := hs2.kind
    have hun : cf.P.underlying t = some (.slice e) := by
      rw [hkd] at h1
      have h2 := hs2.und
      cases d2 <;> first
        | (simp only [kindD, TK.slice.injEq] at h1; subst h1; exact h2)
        | (simp only [kindD] at h1; cases h1)
    have h2 : a.eval x = .slice (some ad) n c := evalO_eval ha hx
    have h3 : a.eval i = .int k m := evalO_eval ha hi
    simp only [execOp, hop, h2, h3, Instr.indexAt, asIntOf, Sem.run_bind, Sem.run_pure, Result.andThen_ok, run_underlying hun, h0, and_self, if_true, run_size hs3.info, hs3.size]
    rfl
  | quiet => rw [htag] at hp'; cases hp'
  | keep => rw [htag] at hp'; cases hp'
  | sink => rw [htag] at hp'; cases hp'
  | free => rw [htag] at hp'; cases hp'

/-- The field of what stands at an address. -/
theorem ow_ldS {σ0 : Snap} {d t : Nat} {x : Operand} {T : List (Nat × TI)} (hT : TTok cf.P T) {ti : TI} {ad : Addr} {c : AT} (hq : (match it.tag with | .quiet => true | _ => false) = true) (hop : it.o.op = .load t x) (hd : it.o.dst = some d) (hg : guardVal it.guard env = some true) (hN : Nat.blt d cf.N = true)
    (hx : evalO env x = some (.a (.v (.pointer (some ad))))) (ht : tget T t = some ti) (hag : ti.agg = false)
    (hv : σ0.cell ad = some c.val) (hc : c.lt 0) (k : OW cf rest Q (fun _ w => Sealed σ0 w) σ ((d, .a c) :: env) hp A nh) : OW cf (it :: rest) Q (fun _ w => Sealed σ0 w) σ env hp A nh := by
  refine ow_val (.a c) hd hg hN (AT.lt_mono (Nat.zero_le _) hc) (fun _ a β ha => ?_) k
  cases htag : it.tag with
  | quiet =>
    intro w hw
    obtain ⟨inf, d', z, hs⟩ := tiOf_spec (hT _ _ ht)
    have hcell := sealed_cell hw hv
    have hx' : a.eval x = .pointer (some ad) := evalO_eval ha hx
    have hload : (load ad).run cf.P w = .ok c.val w := by rw [run_load, hcell]
    simp only [execOp, hop, Instr.loadAt, hx', Instr.sureAddr, loadVar, Sem.run_bind, Sem.run_pure, Result.andThen_ok, run_isAgg hs.und, hs.agg, hag, Bool.false_eq_true, if_false, hload]
    simp only [SV.den, AT.den_val hc β]
  | pure => rw [htag] at hq; cases hq
  | keep => rw [htag] at hq; cases hq
  | sink => rw [htag] at hq; cases hq
  | free => rw [htag] at hq; cases hq

theorem ow_minus {d : Nat} {x y : Operand} {xt yt : TypeId} {m n : Int} (hp' : isPure it.tag = true) (hop : it.o.op = .binOp .sub xt x y yt) (hd : it.o.dst = some d) (hg : guardVal it.guard env = some true) (hN : Nat.blt d cf.N = true)
    (hx : evalO env x = some (.a (.v (.int .i64 m)))) (hy : evalO env y = some (.a (.v (.int .i64 n)))) (hb : -9223372036854775808 ≤ m - n ∧ m - n ≤ 9223372036854775807)
    (hk : OW cf rest Q W σ ((d, .a (.v (.int .i64 (m - n)))) :: env) hp A nh) : OW cf (it :: rest) Q W σ env hp A nh := by
  refine ow_val (.a (.v (.int .i64 (m - n)))) hd hg hN trivial (fun _ a β ha => ?_) hk
  cases htag : it.tag with
  | pure =>
    intro w
    have h1 : a.eval x = .int .i64 m := evalO_eval ha hx
    have h2 : a.eval y = .int .i64 n := evalO_eval ha hy
    have hr := run_sub (xt := xt) (k := .i64) (m := m) (n := n) (r := m - n) (IntWalk.i64_in _ (by omega)) w cf.P
    simp only [execOp, hop, h1, h2, eqGuard_at_int, Sem.run_bind, hr, Result.andThen_ok, Sem.run_pure]
    rfl
  | quiet => rw [htag] at hp'; cases hp'
  | keep => rw [htag] at hp'; cases hp'
  | sink => rw [htag] at hp'; cases hp'
  | free => rw [htag] at hp'; cases hp'
theorem ow_add {d : Nat} {x y : Operand} {xt yt : TypeId} {m n : Int} (hp' : isPure it.tag = true) (hop : it.o.op = .binOp .add xt x y yt) (hd : it.o.dst = some d) (hg : guardVal it.guard env = some true) (hN : Nat.blt d cf.N = true)
    (hx : evalO env x = some (.a (.v (.int .i64 m)))) (hy : evalO env y = some (.a (.v (.int .i64 n)))) (hb : -9223372036854775808 ≤ m + n ∧ m + n ≤ 9223372036854775807)
    (hk : OW cf rest Q W σ ((d, .a (.v (.int .i64 (m + n)))) :: env) hp A nh) : OW cf (it :: rest) Q W σ env hp A nh := by
  refine ow_val (.a (.v (.int .i64 (m + n)))) hd hg hN trivial (fun _ a β ha => ?_) hk
  cases htag : it.tag with
  | pure =>
    intro w
    have h1 : a.eval x = .int .i64 m := evalO_eval ha hx
    have h2 : a.eval y = .int .i64 n := evalO_eval ha hy
    have hr := run_add (xt := xt) (k := .i64) (m := m) (n := n) (r := m + n) (IntWalk.i64_in _ (by omega)) w cf.P
    simp only [execOp, hop, h1, h2, eqGuard_at_int, Sem.run_bind, hr, Result.andThen_ok, Sem.run_pure]
    rfl
  | quiet => rw [htag] at hp'; cases hp'
  | keep => rw [htag] at hp'; cases hp'
  | sink => rw [htag] at hp'; cases hp'
  | free => rw [htag] at hp'; cases hp'

/-- A call that makes nothing known. -/
theorem ow_callP {d : Nat} {f : FuncId} {ys : List SV} {Φ : Value → Prop} (hW : ∀ β w, StW cf σ hp A β w → W β w)
    (hc : callee env it.o.op = some (f, ys)) (hd : it.o.dst = some d) (hg : guardVal it.guard env = some true)
    (hN : Nat.blt d cf.N = true) (hk : (match it.tag with | .keep => true | _ => false) = true) (hcall : ∀ args w, (callFunc f args).run cf.P w = .ok (.enter f args) w) (hlt : LtAll ys)
    (hC : PlainS cf.P f ys σ Φ)
    (k : ∀ v, Φ v → ∃ y : SV, y.lt 0 ∧ y.den β0 = v ∧ OW cf rest Q W σ ((d, y) :: env) hp A nh) : OW cf (it :: rest) Q W σ env hp A nh := by
  refine ⟨fun hb a β ha hex => ?_⟩
  have hN' : d < cf.N := by simpa [Nat.blt_eq] using hN
  have den0 : ∀ {y : SV}, y.lt 0 → y.den β = y.den β0 := fun hy => SV.den_congr (n := 0) (fun i hi => by omega) hy
  have hargs : (ys.map (SV.den β)).toArray = (ys.map (SV.den β0)).toArray := by
    rw [List.map_congr_left fun y hy => den0 (hlt.of y hy)]
  simp only [RunT]
  rw [if_pos (guardVal_ok ha hg)]
  cases htag : it.tag with
  | keep =>
    intro w hw
    unfold Oper.wq
    rw [callee_ok ha hc hcall]
    simp only [Oper.uponIn]
    rw [hargs]
    refine ⟨fun h => (by cases h), CallsIn.mono (callsIn_FR.2 (hC w hw.sealed)) fun e w' ⟨v, σ', he, h1, h2, h3, h4⟩ => ?_⟩
    subst he
    obtain ⟨y, hy, hyv, hk⟩ := k v h4
    have hw' : StW cf σ hp A β w' := hw.after h1 ⟨Snap.le_refl σ, fun b hb => .inl hb⟩ (fun b o hb => h3 b o (h2.le b o hb))
    refine ⟨W β, _, hw', fun x hx => hW β x hx, fun _ h => h, ?_⟩
    have := hk.run (hb.put (SV.lt_mono (Nat.zero_le _) hy) d) (a.put (some d) (y.den β)) β (ha.put hN' y) ⟨_, hw'⟩
    rw [hd, ← hyv, ← den0 hy]
    exact this
  | _ => rw [htag] at hk; cases hk

/-! ### cap -/

def capOf : Op → Option (Operand × TypeId)
  | .call c =>
    match c.callee, c.args.toList, c.argTypes.toList with
    | .builtin .cap, [x], [t] => some (x, t)
    | _, _, _ => none
  | _ => none

theorem capOf_run {o : Oper} {x : Operand} {t : TypeId} (h : capOf o.op = some (x, t)) {P : Program} {a : Act} {w w' : World} {v : Value}
    (hr : (Builtin.cap_ #[t] o.type #[a.eval x]).run P w = .ok v w') : (execOp a.eval o).run P w = .ok (.value v) w' := by
  unfold capOf at h
  split at h
  · rename_i c hop
    split at h
    · rename_i x' t' hcal hargs htys
      injection h with h
      simp only [Prod.mk.injEq] at h
      obtain ⟨rfl, rfl⟩ := h
      have e1 : c.args = #[x'] := by
        cases hq : c.args with
        | mk l => rw [hq] at hargs; simp only at hargs; rw [hargs]
      have e2 : c.argTypes = #[t'] := by
        cases hq : c.argTypes with
        | mk l => rw [hq] at htys; simp only at htys; rw [htys]
      simp only [execOp, hop, resolve, hcal, e1, e2, invoke, builtin, Sem.run_bind, Sem.run_pure, Result.andThen_ok, List.map_toArray, List.map_cons, List.map_nil, hr]
    · cases h
  · cases h

theorem oj_cap {d : Nat} {x : Operand} {t e : TypeId} {T : List (Nat × TI)} (hT : TTok cf.P T) {ti : TI} {ao : Option Addr} {n cap : Nat} (hop : capOf it.o.op = some (x, t)) (hd : it.o.dst = some d)
    (hg : guardVal it.guard env = some true) (hN : Nat.blt d cf.N = true) (hx : evalO env x = some (.a (.v (.slice ao n cap)))) (ht : tget T t = some ti) (hkd : ti.kind = .slice e)
    (hk : OJ cf rest Q σ ((d, .a (.v (.int .i64 cap))) :: env) hp A nh) : OJ cf (it :: rest) Q σ env hp A nh := by
  refine oj_val (.a (.v (.int .i64 cap))) hd hg hN trivial (fun _ a β ha w => ?_) hk
  obtain ⟨i2, d2, z2, hs2⟩ := tiOf_spec (hT _ _ ht)
  have h1 := hs2.kind
  have hun : cf.P.underlying t = some (.slice e) := by
    rw [hkd] at h1
    have h2 := hs2.und
    cases d2 <;> first
      | (simp only [kindD, TK.slice.injEq] at h1; subst h1; exact h2)
      | (simp only [kindD] at h1; cases h1)
  have h2 : a.eval x = .slice ao n cap := evalO_eval ha hx
  refine capOf_run hop ?_
  rw [h2]
  simp only [Builtin.cap_, List.getElem?_toArray, List.getElem?_cons_zero, Sem.run_bind, run_underlying hun, Result.andThen_ok, Sem.run_pure]
  rfl

/-- An int's quotient. -/
theorem oj_quo {d : Nat} {x y : Operand} {xt yt : TypeId} {m n : Int} (hop : it.o.op = .binOp .quo xt x y yt) (hd : it.o.dst = some d) (hg : guardVal it.guard env = some true) (hN : Nat.blt d cf.N = true)
    (hx : evalO env x = some (.a (.v (.int .i64 m)))) (hy : evalO env y = some (.a (.v (.int .i64 n)))) (hn : n ≠ 0) (hb : -9223372036854775808 ≤ m.tdiv n ∧ m.tdiv n ≤ 9223372036854775807)
    (hk : OJ cf rest Q σ ((d, .a (.v (.int .i64 (m.tdiv n)))) :: env) hp A nh) : OJ cf (it :: rest) Q σ env hp A nh :=
  oj_arith _ hop hd hg hN hx hy (fun w P => run_quo hn (IntWalk.i64_in _ (by omega)) w P) hk

theorem tdiv_bd {a b c : Int} (h : -c ≤ a ∧ a ≤ c) : -c ≤ a.tdiv b ∧ a.tdiv b ≤ c := by
  have h1 : (a.tdiv b).natAbs ≤ a.natAbs := by rw [Int.natAbs_tdiv]; exact Nat.div_le_self _ _
  omega
theorem mul_bd {a b : Int} {c d : Nat} (h1 : a.natAbs ≤ c) (h2 : b.natAbs ≤ d) : (a * b).natAbs ≤ c * d := by
  rw [Int.natAbs_mul]
  exact Nat.mul_le_mul h1 h2

/-- A store into the call's own array that leaves W. -/
theorem ow_stA (i : Nat) {E : AE} {A' : List AE} {t : Nat} {x y : Operand} {T : List (Nat × TI)} (hT : TTok cf.P T) {ti : TI} {g off : Nat} {c : AT} (hop : it.o.op = .store t x y) (hd : it.o.dst = none) (hg : guardVal it.guard env = some true)
    (htag : (match it.tag with | .keep => true | _ => false) = true) (hW : ∀ β w, StW cf σ hp A' β w → W β w) (hx : evalO env x = some (.a (.v (.pointer (some ⟨g, off, none⟩))))) (hy : evalO env y = some (.a c)) (hi : A[i]? = some E) (hE : E.ao = some ⟨g, 0, none⟩) (ht : tget T t = some ti) (hsz : ti.size = 1)
    (hoff : off < E.n * E.sz) (hc : c.lt 0) (hone : c.one = true) (hA : A.set i ⟨E.ao, E.n, E.cap, E.e, E.sz, E.xs.set off c.val⟩ = A') (k : OW cf rest Q W σ env hp A' nh) : OW cf (it :: rest) Q W σ env hp A nh := by
  subst hA
  refine ⟨fun hb a β ha hex => ?_⟩
  have key : ∀ w, StW cf σ hp A β w → ∀ Q', it.o.wq cf.P a w (fun a' w' => ∃ E' S' : World → Prop, S' w' ∧ (∀ x, S' x → E' x) ∧ (∀ x, E' x → W β x) ∧ RunT cf.P Q rest E' S' a') Q' := by
    intro w hw Q'
    obtain ⟨inf, d', z, hs⟩ := tiOf_spec (hT _ _ ht)
    have hx' : a.eval x = .pointer (some ⟨g, off, none⟩) := evalO_eval ha hx
    have hy' : a.eval y = c.val := by rw [← AT.den_val hc β]; exact evalO_eval ha hy
    have hE0 := hw.arr i E hi
    rcases hE0.2 with h1 | ⟨g', cur, h3, h4, h5, h6, h7, h8, h9, h10⟩
    · rw [h1.1] at hE; cases hE
    · rw [hE] at h3
      injection h3 with h3
      simp only [Addr.mk.injEq, and_true] at h3
      subst h3
      have hnc : E.n * E.sz ≤ E.cap * E.sz := Nat.mul_le_mul_right _ h5
      have h1v : c.val.oneCell' = true := AT.one_den β0 hone
      have hcell : c.val.cells = #[c.val] := by
        unfold Value.cells
        split
        · rename_i q hq; rw [hq] at h1v; cases h1v
        · rfl
      have hst := run_storeCells_at cf.P g off E.e [c.val] 0 cur w h4 (by simp only [List.length_singleton]; omega) (fun v hv => by
        simp only [List.mem_singleton] at hv; subst hv; exact h1v)
      simp only [Nat.add_zero] at hst
      have hset : cur.toList.take off ++ [c.val] ++ cur.toList.drop (off + 1) = cur.toList.set off c.val := by
        rw [List.set_eq_take_append_cons_drop, if_pos (by rw [Array.length_toList]; omega)]
        simp
      have hrun : (execOp a.eval it.o).run cf.P w = .ok .skip (w.setRow g (cur.toList.set off c.val).toArray) := by
        have hsz' : inf.size = 1 := by rw [hs.size, hsz]
        simp only [execOp, hop, Instr.storeAt, hx', hy', Instr.sureAddr, storeVar, Sem.run_bind, Sem.run_pure, Result.andThen_ok, hcell, run_size hs.info, hsz', List.size_toArray, List.length_singleton, ne_eq, not_true, if_false, Sem.run_ite, hst]
        rw [hset]
      unfold Oper.wq
      rw [hrun]
      have hw' := hw.setArr (E' := ⟨E.ao, E.n, E.cap, E.e, E.sz, E.xs.set off c.val⟩) (cur' := (cur.toList.set off c.val).toArray) hi hE h4 rfl rfl rfl rfl h5 (by simp [hE0.1]) (by simp [h7]) (by
        simp only [← h8, List.take_set])
      refine ⟨W β, _, hw', fun x hx => hW β x hx, fun _ h => h, ?_⟩
      rw [hd]
      exact k.run hb a β ha ⟨_, hw'⟩
  simp only [RunT]
  rw [if_pos (guardVal_ok ha hg)]
  cases htag' : it.tag with
  | keep => exact fun w hw => key w hw _
  | pure => rw [htag'] at htag; cases htag
  | quiet => rw [htag'] at htag; cases htag
  | sink => rw [htag'] at htag; cases htag
  | free => rw [htag'] at htag; cases htag

theorem StW.dropA {β : Nat → Addr} {w : World} (h : StW cf σ hp A β w) : StW cf σ hp [] β w :=
  { h with arr := fun i E hi => (by simp at hi), arrd := fun i j E F hi => (by simp at hi), arrh := fun i j E e cs hi => (by simp at hi) }
end
end Go.Sy
namespace Go.Sy
open Go.Proofs

/-! ### place, find, Room -/

def placeE (L : List GRec) (i : Int) : Int := if soundG L = false then 2 else if i < 0 ∨ (L.length : Int) ≤ i then 1 else 0

set_option maxRecDepth 100000 in
set_option maxHeartbeats 1000000 in
theorem place12_c (σ : Snap) (L : List GRec) (R : RecsOk L) (ao : Option Addr) (cap : Nat) (H : SlAt σ ao L.length cap 11 (recRows L)) (i : Int) :
    PlainS Tryd.prog 101 [.a (.v (.slice ao L.length cap)), .a (.v (.int .i64 i))] σ (fun v => v = .int .i64 (placeE L i)) := by
  have hpe : placeE L i = if soundG L = false then 2 else if i < 0 ∨ (L.length : Int) ≤ i then 1 else 0 := rfl
  refine enter_p Tryd.func101 rfl rfl (by (repeat' (first | exact trivial | constructor))) fun w => ?_
  (repeat (first | refine cj_seq ?_ | (refine cj_region ?_; refine oj_run TT rfl ?_) | refine oj_then ?_ | refine cj_block ?_))
  refine oj_callP rfl rfl rfl rfl rfl Tryd.call24 (by (repeat' (first | exact trivial | constructor))) (Sound_c σ L R.len R.fit R.bw ao cap H) fun v hv => ⟨.a (.b (soundG L)), trivial, hv.symm, ?_⟩
  refine oj_run TT rfl ?_
  (repeat refine oj_then ?_)
  refine cj_if rfl (fun h => ?_) (fun h => ?_)
  · have h : soundG L = false := by simpa using h
    rw [if_pos h] at hpe
    (repeat (first | refine cj_seq ?_ | (refine cj_region ?_; refine oj_run TT rfl ?_) | refine oj_then ?_ | refine cj_ret ?_ | refine nj_then_ret ?_ | refine nj_block_ret ?_))
    refine nj_ret TT rfl fun β w' _ _ => ?_
    rw [hpe]
    rfl
  have h : soundG L = true := by simpa using h
  rw [if_neg (by simp [h])] at hpe
  (repeat (first | refine cj_seq ?_ | (refine cj_region ?_; refine oj_run TT rfl ?_)))
  refine oj_split 12 rfl (fun h1 => ?_) (fun h1 => ?_)
  · have h1 : decide (i < 0) = true := h1
    rw [if_pos (.inl (of_decide_eq_true h1))] at hpe
    refine oj_run TT rfl ?_
    (repeat (first | refine cj_seq ?_ | (refine cj_region ?_; refine oj_run TT rfl ?_) | refine oj_then ?_ | refine cj_if_t rfl ?_ | refine cj_ret ?_ | refine nj_then_ret ?_ | refine nj_block_ret ?_))
    refine nj_ret TT rfl fun β w' _ _ => ?_
    rw [hpe]
    rfl
  have h1 : decide (i < 0) = false := h1
  have h1 := of_decide_eq_false h1
  refine oj_run TT rfl ?_
  (repeat refine oj_then ?_)
  refine cj_if rfl (fun h2 => ?_) (fun h2 => ?_)
  · rw [if_pos (.inr (of_decide_eq_true h2))] at hpe
    (repeat (first | refine cj_seq ?_ | (refine cj_region ?_; refine oj_run TT rfl ?_) | refine oj_then ?_ | refine cj_ret ?_ | refine nj_then_ret ?_ | refine nj_block_ret ?_))
    refine nj_ret TT rfl fun β w' _ _ => ?_
    rw [hpe]
    rfl
  · have h2 := of_decide_eq_false h2
    rw [if_neg (by omega)] at hpe
    (repeat (first | refine cj_seq ?_ | (refine cj_region ?_; refine oj_run TT rfl ?_) | refine oj_then ?_ | refine cj_skip ?_ | refine cj_ret ?_ | refine nj_then ?_ | refine nj_block ?_))
    refine nj_ret TT rfl fun β w' _ _ => ?_
    rw [hpe]
    rfl

/-- Where a value may be laid: the place, the numbers around. -/
structure GGap where
  at_ : Int
  lo : Int
  hi : Int
def gapCells (g : GGap) : List AT := [.v (.int .i64 g.at_), .v (.int .i64 g.lo), .v (.int .i64 g.hi)]
def gap0 : GGap := ⟨0, 0, 0⟩
def gapK (L : List GRec) (m : List Nat) (i k : Nat) : GGap :=
  ⟨if 0 < k then lastG L (m.getD (k - 1) 0) + 1 else i + 1, if 0 < k then enAt L (m.getD (k - 1) 0) else stAt L i, if k < m.length then stAt L (m.getD k 0) else enAt L i⟩
/-- The gap behind the k-th kid. -/
def gapG (L : List GRec) (i : Nat) (k : Int) : Option GGap := if k < 0 ∨ ((kidsG L i).length : Int) < k then none else some (gapK L (kidsG L i) i k.toNat)

def ord102_6 : List (Nat × Tag) := [(0,.pure),(1,.pure),(2,.pure),(3,.pure),(4,.pure),(5,.quiet),(8,.pure),(9,.pure),(10,.pure),(11,.pure),(12,.pure),(13,.quiet),(14,.pure),(15,.pure),(16,.quiet),(6,.keep),(7,.pure),(17,.pure),(18,.keep),(19,.pure),(20,.sink)]

theorem getD_get {α : Type} {l : List α} {i : Nat} {x d : α} (h : l[i]? = some x) : l.getD i d = x := by rw [List.getD_eq_getElem?_getD, h]; rfl
theorem st_at {L : List GRec} {i : Nat} {r : GRec} (h : L[i]? = some r) : stAt L i = r.st := by unfold stAt; rw [h]; rfl
theorem en_at {L : List GRec} {i : Nat} {r : GRec} (h : L[i]? = some r) : enAt L i = r.en := by unfold enAt; rw [h]; rfl
theorem lastG_bd (L : List GRec) (i : Nat) (hi : i < L.length) : (i : Int) ≤ lastG L i ∧ lastG L i < L.length := by
  unfold lastG runK
  have := runL_le ((L[i]?.map GRec.en).getD 0) (L.drop (i + 1))
  rw [List.length_drop] at this
  omega

set_option maxRecDepth 100000 in
set_option maxHeartbeats 1000000 in
theorem find_c (σ : Snap) (L : List GRec) (R : RecsOk L) (ao : Option Addr) (cap : Nat) (H : SlAt σ ao L.length cap 11 (recRows L)) (i : Nat) (hi : i < L.length) (hs : soundG L = true) (hL : L.length ≤ 100000) (hk : ∀ j ∈ kidsG L i, j < L.length) (hkl : (kidsG L i).length ≤ 100000) (k : Int) :
    PureS Tryd.prog 102 [.a (.v (.slice ao L.length cap)), .a (.v (.int .i64 i)), .a (.v (.int .i64 k))] σ (fun v _ => v = .tuple #[(SV.agg (gapCells ((gapG L i k).getD gap0))).den β0, .bool (gapG L i k).isSome]) := by
  have hgp : gapG L i k = if k < 0 ∨ ((kidsG L i).length : Int) < k then none else some (gapK L (kidsG L i) i k.toNat) := rfl
  have hLi : L[i]? = some L[i] := List.getElem?_eq_getElem hi
  have hrow := recRows_get hLi
  have hsti := st_at hLi
  have heni := en_at hLi
  generalize L[i] = r at *
  refine enter_s Tryd.func102 rfl rfl (by (repeat' (first | exact trivial | constructor))) fun w => ?_
  (repeat (first | refine cj_seq ?_ | (refine cj_region ?_; refine oj_run TT rfl ?_) | refine oj_then ?_))
  refine oj_callS rfl rfl rfl rfl rfl Tryd.call26 (by (repeat' (first | exact trivial | constructor))) (Kids_c σ L R ao cap H i hi hs hL) fun v σ1 hle1 ⟨oo, oc, hv, HK⟩ => ⟨.a (.v (.slice oo (kidsG L i).length oc)), trivial, hv.symm, ?_⟩
  have H := H.mono hle1
  refine oj_run TT rfl ?_
  (repeat (first | refine cj_seq ?_ | (refine cj_region ?_; refine oj_run TT rfl ?_) | refine oj_then ?_))
  refine oj_split 15 rfl (fun h1 => ?_) (fun h1 => ?_)
  · have h1 : decide (k < 0) = true := h1
    rw [if_pos (.inl (of_decide_eq_true h1))] at hgp
    refine oj_run TT rfl ?_
    (repeat (first | refine cj_seq ?_ | (refine cj_region ?_; refine oj_run TT rfl ?_) | refine oj_then ?_ | refine cj_if_t rfl ?_ | refine cj_ret ?_ | refine nj_then_ret ?_))
    refine nj_ret TT rfl fun β w' _ _ => ?_
    rw [hgp]
    rfl
  have h1 : decide (k < 0) = false := h1
  have h1 := of_decide_eq_false h1
  refine oj_run TT rfl ?_
  (repeat refine oj_then ?_)
  refine cj_if rfl (fun h2 => ?_) (fun h2 => ?_)
  · rw [if_pos (.inr (of_decide_eq_true h2))] at hgp
    (repeat (first | refine cj_seq ?_ | (refine cj_region ?_; refine oj_run TT rfl ?_) | refine oj_then ?_ | refine cj_ret ?_ | refine nj_then_ret ?_))
    refine nj_ret TT rfl fun β w' _ _ => ?_
    rw [hgp]
    rfl
  have h2 := of_decide_eq_false h2
  rw [if_neg (by omega)] at hgp
  rw [hgp]
  obtain ⟨k, rfl⟩ : ∃ j : Nat, k = j := ⟨k.toNat, by omega⟩
  rw [Int.toNat_natCast]
  generalize kidsG L i = m at *
  have hkm : k ≤ m.length := by omega
  have hgk : gapK L m i k = ⟨if 0 < k then lastG L (m.getD (k - 1) 0) + 1 else i + 1, if 0 < k then enAt L (m.getD (k - 1) 0) else stAt L i, if k < m.length then stAt L (m.getD k 0) else enAt L i⟩ := rfl
  rw [hsti, heni] at hgk
  clear hgp
  (repeat (first | refine cj_seq ?_ | refine cj_skip ?_ | refine nj_then ?_))
  refine cj_draw [(0,.pure),(1,.pure),(2,.pure),(3,.pure),(4,.pure),(5,.pure),(6,.quiet),(7,.pure),(8,.pure),(9,.pure),(10,.pure),(11,.quiet),(12,.pure),(13,.keep),(14,.sink)] mixed (by kernel_rfl) (oj_run TT rfl ?_)
  refine oj_add rfl rfl rfl rfl rfl rfl (by omega) (oj_run TT rfl ?_)
  refine oj_idx TT rfl rfl rfl rfl rfl rfl rfl rfl rfl H (by omega) hrow (oj_run TT rfl ?_)
  refine oj_idx TT rfl rfl rfl rfl rfl rfl rfl rfl rfl H (by omega) hrow (oj_run TT rfl ?_)
  (repeat (first | refine cj_seq ?_ | (refine cj_region ?_; refine oj_run TT rfl ?_) | refine oj_then ?_))
  refine cj_cutN (fun (_ : Unit) => σ1) (fun _ => [(0, .a (.v (.slice ao L.length cap))), (1, .a (.v (.int .i64 i))), (2, .a (.v (.int .i64 k))), (6, .a (.p 0 0)), (8, .a (.v (.slice oo m.length oc))), (9, .a (.p 3 0))])
    (fun _ => [(0, .loc 153, gapCells gap0), (3, .loc 153, gapCells ⟨(gapK L m i k).at_, (gapK L m i k).lo, r.en⟩)]) (fun _ => []) 4 (fun _ => True) ?_ (fun _ _ => ?_)
  · refine cj_if rfl (fun h => ?_) (fun h => ?_)
    rotate_left
    · have h : decide (0 < (k : Int)) = false := h
      have hk0 : ¬ 0 < k := by have := of_decide_eq_false h; omega
      rw [if_neg hk0, if_neg hk0] at hgk
      rw [hgk]
      (repeat refine cj_skip ?_)
      refine nj_again () trivial Nat.zero_lt_one rfl (by (repeat (first | exact trivial | refine And.intro rfl ?_))) (by (repeat (first | exact trivial | refine And.intro rfl ?_))) rfl (by (repeat' (first | exact trivial | exact Nat.le_of_ble_eq_true rfl | constructor))) (by (repeat' (first | exact trivial | exact Nat.le_of_ble_eq_true rfl | refine AllLt.of ?_ | constructor)))
    have h : decide (0 < (k : Int)) = true := h
    have hk0 : 0 < k := by have := of_decide_eq_true h; omega
    rw [if_pos hk0, if_pos hk0] at hgk
    have hkl1 : k - 1 < m.length := by omega
    have hmk : m[k - 1]? = some m[k - 1] := List.getElem?_eq_getElem hkl1
    rw [getD_get hmk] at hgk
    have hq := hk m[k - 1] (List.getElem_mem hkl1)
    generalize m[k - 1] = q at *
    have hLq : L[q]? = some L[q] := List.getElem?_eq_getElem hq
    rw [en_at hLq] at hgk
    have hlb := lastG_bd L q hq
    rw [hgk]
    obtain ⟨ka, rfl, hka⟩ : ∃ ad, oo = some ad ∧ σ1.cell (ad.add (k - 1)) = some (.int .i64 q) := by
      rcases HK.at_ with h0 | ⟨ad, h1, h2⟩
      · omega
      · refine ⟨ad, h1, ?_⟩
        have := h2 (k - 1) [.v (.int .i64 q)] 0 (.v (.int .i64 q)) (by unfold kidRows; rw [List.getElem?_map, hmk]; rfl) rfl
        rw [Nat.mul_one] at this
        exact this
    obtain ⟨ra, rfl, hra⟩ : ∃ ad, ao = some ad ∧ σ1.cell (ad.add (q * 11 + 1)) = some (.int .i64 L[q].en) := by
      rcases H.at_ with h0 | ⟨ad, h1, h2⟩
      · omega
      · exact ⟨ad, h1, h2 q (recCells L[q]) 1 (.v (.int .i64 L[q].en)) (recRows_get hLq) rfl⟩
    generalize L[q] = rq at *
    refine cj_drawW ord102_6 (fun _ w => Sealed σ1 w) (fun β w h => h.sealed) mixed (by kernel_rfl) ?_
    refine ow_pure TT rfl rfl rfl rfl rfl rfl ?_
    refine ow_pure TT rfl rfl rfl rfl rfl rfl ?_
    refine ow_pure TT rfl rfl rfl rfl rfl rfl ?_
    refine ow_minus rfl rfl rfl rfl rfl rfl rfl (by omega) ?_
    refine ow_idxA TT rfl rfl rfl rfl rfl rfl rfl rfl rfl rfl ⟨by omega, by omega⟩ ?_
    refine ow_ldS TT rfl rfl rfl rfl rfl rfl rfl rfl (c := .v (.int .i64 q)) (by rw [show ((k : Int) - 1).toNat * 1 = k - 1 by omega]; exact hka) trivial ?_
    refine ow_pure TT rfl rfl rfl rfl rfl rfl ?_
    refine ow_pure TT rfl rfl rfl rfl rfl rfl ?_
    refine ow_pure TT rfl rfl rfl rfl rfl rfl ?_
    refine ow_minus rfl rfl rfl rfl rfl rfl rfl (by omega) ?_
    refine ow_idxA TT rfl rfl rfl rfl rfl rfl rfl rfl rfl rfl ⟨by omega, by omega⟩ ?_
    refine ow_ldS TT rfl rfl rfl rfl rfl rfl rfl rfl (c := .v (.int .i64 q)) (by rw [show ((k : Int) - 1).toNat * 1 = k - 1 by omega]; exact hka) trivial ?_
    refine ow_idxA TT rfl rfl rfl rfl rfl rfl rfl rfl rfl rfl ⟨by omega, by omega⟩ ?_
    refine ow_pure TT rfl rfl rfl rfl rfl rfl ?_
    refine ow_ldS TT rfl rfl rfl rfl rfl rfl rfl rfl (c := .v (.int .i64 rq.en)) (by rw [Addr.add_add, Int.toNat_natCast]; exact hra) trivial ?_
    refine ow_callP (fun β w h => h.sealed) rfl rfl rfl rfl rfl Tryd.call40 (by (repeat' (first | exact trivial | constructor))) (Last_c σ1 L R _ cap H q hq hs) fun v hv => ⟨.a (.v (.int .i64 (lastG L q))), trivial, hv.symm, ?_⟩
    refine ow_add rfl rfl rfl rfl rfl rfl rfl (by omega) ?_
    refine ow_pure TT rfl rfl rfl rfl rfl rfl ?_
    refine ow_put TT rfl rfl rfl rfl (fun _ _ h => h.sealed) ?_
    refine ow_end rfl (fun β w h => h.sealed) (oj_run TT rfl ?_)
    (repeat refine oj_nil ?_)
    refine nj_again () trivial Nat.zero_lt_one rfl (by (repeat (first | exact trivial | refine And.intro rfl ?_))) (by (repeat (first | exact trivial | refine And.intro rfl ?_))) rfl (by (repeat' (first | exact trivial | exact Nat.le_of_ble_eq_true rfl | constructor))) (by (repeat' (first | exact trivial | exact Nat.le_of_ble_eq_true rfl | refine AllLt.of ?_ | constructor)))
  have hgh : (gapK L m i k).hi = if k < m.length then stAt L (m.getD k 0) else r.en := by rw [hgk]
  clear hgk
  (repeat (first | refine cj_seq ?_ | (refine cj_region ?_; refine oj_run TT rfl ?_) | refine oj_then ?_))
  refine cj_if rfl (fun h => ?_) (fun h => ?_)
  · have h : decide ((k : Int) < m.length) = true := h
    have hkl1 : k < m.length := by have := of_decide_eq_true h; omega
    have hmk : m[k]? = some m[k] := List.getElem?_eq_getElem hkl1
    rw [if_pos hkl1, getD_get hmk] at hgh
    have hq := hk m[k] (List.getElem_mem hkl1)
    have hkr : (kidRows m)[k]? = some [.v (.int .i64 m[k])] := by unfold kidRows; rw [List.getElem?_map, hmk]; rfl
    generalize m[k] = q at *
    have hLq : L[q]? = some L[q] := List.getElem?_eq_getElem hq
    have hqr := recRows_get hLq
    rw [st_at hLq] at hgh
    generalize L[q] = rq at *
    (repeat (refine cj_region ?_; refine oj_run TT rfl ?_))
    refine oj_idx TT rfl rfl rfl rfl rfl rfl rfl rfl rfl HK (by omega) hkr (oj_run TT rfl ?_)
    refine oj_idx TT rfl rfl rfl rfl rfl rfl rfl rfl rfl H (by omega) hqr (oj_run TT rfl ?_)
    (repeat (first | refine cj_seq ?_ | (refine cj_region ?_; refine oj_run TT rfl ?_) | refine oj_then ?_ | refine cj_ret ?_))
    refine nj_ret TT rfl fun β w' _ _ => ?_
    rw [← hgh]
    rfl
  · have h : decide ((k : Int) < m.length) = false := h
    rw [if_neg (by have := of_decide_eq_false h; omega)] at hgh
    (repeat (first | refine cj_seq ?_ | (refine cj_region ?_; refine oj_run TT rfl ?_) | refine oj_then ?_ | refine cj_skip ?_ | refine cj_ret ?_ | refine nj_then ?_))
    refine nj_ret TT rfl fun β w' _ _ => ?_
    rw [← hgh]
    rfl

/-- How many numbers are free behind the k-th kid. -/
def roomG (L : List GRec) (i k : Int) : Int := if placeE L i ≠ 0 then -1 else match gapG L i.toNat k with
  | none => -1
  | some g => g.hi - g.lo - 1

theorem place_ok {L : List GRec} {i : Int} (h : placeE L i = 0) : soundG L = true ∧ 0 ≤ i ∧ i < L.length := by
  unfold placeE at h
  split at h
  · omega
  · rename_i h1
    split at h
    · omega
    · exact ⟨by simpa using h1, by omega, by omega⟩

/-- What one may take for granted of sound records: their kids are there, and their numbers are no greater than they may be. -/
structure SndL (L : List GRec) : Prop where
  ok : RecsOk L
  len : L.length ≤ 100000
  kids : soundG L = true → ∀ i, i < L.length → (∀ j ∈ kidsG L i, j < L.length) ∧ (kidsG L i).length ≤ 100000
  num : soundG L = true → ∀ r ∈ L, -1 ≤ r.st ∧ r.st ≤ 1099511627776 ∧ -1 ≤ r.en ∧ r.en ≤ 1099511627776

theorem gap_num {L : List GRec} (S : SndL L) (hs : soundG L = true) {i : Nat} (hi : i < L.length) {k : Int} {g : GGap} (h : gapG L i k = some g) : -1 ≤ g.lo ∧ g.lo ≤ 1099511627776 ∧ -1 ≤ g.hi ∧ g.hi ≤ 1099511627776 ∧ 0 ≤ g.at_ ∧ g.at_ ≤ L.length := by
  have hn := S.num hs
  have hst : ∀ q, q < L.length → -1 ≤ stAt L q ∧ stAt L q ≤ 1099511627776 ∧ -1 ≤ enAt L q ∧ enAt L q ≤ 1099511627776 := fun q hq => by
    rw [st_at (List.getElem?_eq_getElem hq), en_at (List.getElem?_eq_getElem hq)]
    exact hn _ (List.getElem_mem hq)
  obtain ⟨hk, -⟩ := S.kids hs i hi
  unfold gapG at h
  split at h
  · cases h
  · rename_i hc
    obtain rfl := Option.some.inj h
    unfold gapK
    dsimp only
    have h0 := hst i hi
    generalize kidsG L i = m at *
    refine ⟨?_, ?_, ?_, ?_, ?_, ?_⟩
    · split
      · rename_i hk0
        rw [getD_get (List.getElem?_eq_getElem (show k.toNat - 1 < m.length by omega))]
        exact (hst _ (hk _ (List.getElem_mem _))).2.2.1
      · omega
    · split
      · rename_i hk0
        rw [getD_get (List.getElem?_eq_getElem (show k.toNat - 1 < m.length by omega))]
        exact (hst _ (hk _ (List.getElem_mem _))).2.2.2
      · omega
    · split
      · rename_i hk0
        rw [getD_get (List.getElem?_eq_getElem hk0)]
        exact (hst _ (hk _ (List.getElem_mem _))).1
      · omega
    · split
      · rename_i hk0
        rw [getD_get (List.getElem?_eq_getElem hk0)]
        exact (hst _ (hk _ (List.getElem_mem _))).2.1
      · omega
    · split
      · rename_i hk0
        rw [getD_get (List.getElem?_eq_getElem (show k.toNat - 1 < m.length by omega))]
        have := lastG_bd L _ (hk _ (List.getElem_mem (show k.toNat - 1 < m.length by omega)))
        omega
      · omega
    · split
      · rename_i hk0
        rw [getD_get (List.getElem?_eq_getElem (show k.toNat - 1 < m.length by omega))]
        have := lastG_bd L _ (hk _ (List.getElem_mem (show k.toNat - 1 < m.length by omega)))
        omega
      · omega

set_option maxRecDepth 100000 in
set_option maxHeartbeats 1000000 in
theorem Room_c (σ : Snap) (L : List GRec) (S : SndL L) (ao : Option Addr) (cap : Nat) (H : SlAt σ ao L.length cap 11 (recRows L)) (i k : Int) :
    PureS Tryd.prog 61 [.a (.v (.slice ao L.length cap)), .a (.v (.int .i64 i)), .a (.v (.int .i64 k))] σ (fun v _ => v = .int .i64 (roomG L i k)) := by
  have hrg : roomG L i k = if placeE L i ≠ 0 then -1 else match gapG L i.toNat k with | none => -1 | some g => g.hi - g.lo - 1 := rfl
  refine enter_s Tryd.func61 rfl rfl (by (repeat' (first | exact trivial | constructor))) fun w => ?_
  (repeat (first | refine cj_seq ?_ | (refine cj_region ?_; refine oj_run TT rfl ?_) | refine oj_then ?_))
  refine oj_callP rfl rfl rfl rfl rfl Tryd.call101 (by (repeat' (first | exact trivial | constructor))) (place12_c σ L S.ok ao cap H i) fun v hv => ⟨.a (.v (.int .i64 (placeE L i))), trivial, hv.symm, ?_⟩
  refine oj_run TT rfl ?_
  (repeat refine oj_then ?_)
  refine cj_if rfl (fun h => ?_) (fun h => ?_)
  · have h : placeE L i ≠ 0 := by simpa using h
    rw [if_pos h] at hrg
    (repeat (first | refine cj_seq ?_ | (refine cj_region ?_; refine oj_run TT rfl ?_) | refine oj_then ?_ | refine cj_ret ?_ | refine nj_then_ret ?_))
    refine nj_ret TT rfl fun β w' _ _ => ?_
    rw [hrg]
    rfl
  have h : placeE L i = 0 := by simpa using h
  rw [if_neg (by simp [h])] at hrg
  obtain ⟨hs, hi0, hil⟩ := place_ok h
  obtain ⟨i, rfl⟩ : ∃ j : Nat, i = j := ⟨i.toNat, by omega⟩
  rw [Int.toNat_natCast] at hrg
  have hi : i < L.length := by omega
  obtain ⟨hk1, hk2⟩ := S.kids hs i hi
  (repeat (first | refine cj_seq ?_ | (refine cj_region ?_; refine oj_run TT rfl ?_) | refine cj_skip ?_ | refine nj_then ?_))
  have hc := find_c σ L S.ok ao cap H i hi hs S.len hk1 hk2 k
  cases hg : gapG L i k with
  | none =>
    rw [hg] at hrg hc
    refine oj_callS rfl rfl rfl rfl rfl Tryd.call102 (by (repeat' (first | exact trivial | constructor))) hc fun v σ1 hle1 hv => ⟨.tup [.agg (gapCells gap0), .a .ff], (by unfold gapCells; (repeat' (first | exact trivial | refine AllLt.of ?_ | refine SV.lt_tup ?_ | constructor))), hv.symm, ?_⟩
    refine oj_run TT rfl ?_
    (repeat (first | refine cj_seq ?_ | (refine cj_region ?_; refine oj_run TT rfl ?_) | refine oj_then ?_ | refine cj_if_t rfl ?_ | refine cj_ret ?_ | refine nj_then_ret ?_))
    refine nj_ret TT rfl fun β w' _ _ => ?_
    rw [hrg]
    rfl
  | some g =>
    rw [hg] at hrg hc
    have hn := gap_num S hs hi hg
    refine oj_callS rfl rfl rfl rfl rfl Tryd.call102 (by (repeat' (first | exact trivial | constructor))) hc fun v σ1 hle1 hv => ⟨.tup [.agg (gapCells g), .a .tt], (by unfold gapCells; (repeat' (first | exact trivial | refine AllLt.of ?_ | refine SV.lt_tup ?_ | constructor))), hv.symm, ?_⟩
    refine oj_run TT rfl ?_
    (repeat (first | refine cj_seq ?_ | (refine cj_region ?_; refine oj_run TT rfl ?_) | refine oj_then ?_ | refine cj_if_f rfl ?_ | refine cj_skip ?_ | refine cj_ret ?_ | refine nj_then ?_ | (refine oj_minus rfl rfl rfl rfl rfl rfl (by omega) ?_; refine oj_run TT rfl ?_)))
    refine nj_ret TT rfl fun β w' _ _ => ?_
    rw [hrg]
    rfl
end Go.Sy
namespace Go.Sy
open Go.Proofs

/-! ### fits, Clone, Grow, Concat -/

/-- Has a kid that name? Then: may a key be? -/
def fitsE (L : List GRec) (i : Nat) (key : ByteArray) : Int := if (kidsG L i).any fun k => decide ((L[k]?.map GRec.name).getD emptyS = key) then 7 else if keyOk key then 0 else 1

set_option maxRecDepth 100000 in
set_option maxHeartbeats 1000000 in
theorem fits12_c (σ : Snap) (L : List GRec) (R : RecsOk L) (ao : Option Addr) (cap : Nat) (H : SlAt σ ao L.length cap 11 (recRows L)) (i : Nat) (hi : i < L.length) (hs : soundG L = true) (hL : L.length ≤ 100000) (hk : ∀ j ∈ kidsG L i, j < L.length) (hkl : (kidsG L i).length ≤ 100000) (key : ByteArray) (hkey : key.size ≤ mostLen) :
    PureS Tryd.prog 103 [.a (.v (.slice ao L.length cap)), .a (.v (.int .i64 i)), .a (.v (.string key))] σ (fun v _ => v = .int .i64 (fitsE L i key)) := by
  have hfe : fitsE L i key = if (kidsG L i).any fun k => decide ((L[k]?.map GRec.name).getD emptyS = key) then 7 else if keyOk key then 0 else 1 := rfl
  refine enter_s Tryd.func103 rfl rfl (by (repeat' (first | exact trivial | constructor))) fun w => ?_
  (repeat (first | refine cj_seq ?_ | (refine cj_region ?_; refine oj_run TT rfl ?_) | refine oj_then ?_))
  refine oj_callS rfl rfl rfl rfl rfl Tryd.call26 (by (repeat' (first | exact trivial | constructor))) (Kids_c σ L R ao cap H i hi hs hL) fun v σ1 hle1 ⟨oo, oc, hv, HK⟩ => ⟨.a (.v (.slice oo (kidsG L i).length oc)), trivial, hv.symm, ?_⟩
  have H := H.mono hle1
  generalize kidsG L i = m at *
  refine oj_run TT rfl ?_
  (repeat (first | refine oj_then ?_ | refine cj_block ?_))
  refine cj_cutB (α := Unit) (fun _ => σ1) (fun _ => [(2, .a (.v (.string key)))]) (fun _ => []) (fun _ => []) 0 (fun _ => (m.any fun k => decide ((L[k]?.map GRec.name).getD emptyS = key)) = false) ?_ (fun _ hany => ?_)
  · refine cj_loop (fun (_ : Nat) => σ1) (fun j => [(0, .a (.v (.slice ao L.length cap))), (2, .a (.v (.string key))), (11, .a (.v (.slice oo m.length oc))), (12, .a (.v (.int .i64 m.length))), (13, .a (.v (.int .i64 (j : Nat))))]) (fun _ => []) (fun _ => []) 0
      (fun j => j ≤ m.length ∧ ((m.drop j).any fun k => decide ((L[k]?.map GRec.name).getD emptyS = key)) = (m.any fun k => decide ((L[k]?.map GRec.name).getD emptyS = key))) (fun j => m.length - j) 0 ⟨Nat.zero_le _, rfl⟩ rfl (by (repeat (first | exact trivial | refine And.intro rfl ?_))) (by (repeat (first | exact trivial | refine And.intro rfl ?_))) rfl (by (repeat' (first | exact trivial | constructor))) (by (repeat' exact trivial)) fun j ⟨hj, hp⟩ => ?_
    (repeat (first | refine cj_seq ?_ | (refine cj_region ?_; refine oj_run TT rfl ?_) | refine oj_then ?_))
    refine cj_if rfl (fun h => ?_) (fun h => ?_)
    rotate_left
    · have hj0 : j = m.length := by have := of_decide_eq_false h; omega
      rw [hj0, List.drop_length] at hp
      (repeat (first | refine cj_exit ?_ | refine nj_then_exit ?_ | refine nj_block_out ?_))
      refine nj_again () hp.symm Nat.zero_lt_one rfl (by (repeat (first | exact trivial | refine And.intro rfl ?_))) (by (repeat (first | exact trivial | refine And.intro rfl ?_))) rfl (by (repeat' (first | exact trivial | constructor))) (by (repeat' exact trivial))
    have hjl : j < m.length := by have := of_decide_eq_true h; omega
    have hkr : (kidRows m)[j]? = some [.v (.int .i64 m[j])] := by unfold kidRows; rw [List.getElem?_map, List.getElem?_eq_getElem hjl]; rfl
    have hq := hk m[j] (List.getElem_mem hjl)
    rw [List.drop_eq_getElem_cons hjl, List.any_cons] at hp
    generalize m[j] = q at *
    have hLq : L[q]? = some L[q] := List.getElem?_eq_getElem hq
    have hqr := recRows_get hLq
    rw [hLq] at hp
    generalize L[q] = rq at *
    (repeat (first | refine cj_seq ?_ | (refine cj_region ?_; refine oj_run TT rfl ?_) | refine cj_skip ?_ | refine cj_block ?_ | refine nj_then ?_))
    refine oj_idx TT rfl rfl rfl rfl rfl rfl rfl rfl rfl HK (by omega) hkr (oj_run TT rfl ?_)
    (repeat (first | refine cj_seq ?_ | (refine cj_region ?_; refine oj_run TT rfl ?_) | refine oj_then ?_))
    refine oj_idx TT rfl rfl rfl rfl rfl rfl rfl rfl rfl H (by omega) hqr (oj_run TT rfl ?_)
    (repeat refine oj_then ?_)
    refine cj_if rfl (fun h => ?_) (fun h => ?_)
    · have h : decide (rq.name = key) = true := h
      have h1 : decide (((some rq).map GRec.name).getD emptyS = key) = true := h
      rw [h1, Bool.true_or] at hp
      rw [if_pos hp.symm] at hfe
      (repeat (first | refine cj_seq ?_ | (refine cj_region ?_; refine oj_run TT rfl ?_) | refine oj_then ?_ | refine cj_ret ?_ | refine nj_then_ret ?_ | refine nj_block_ret ?_))
      refine nj_ret TT rfl fun β w' _ _ => ?_
      rw [hfe]
      rfl
    · have h : decide (rq.name = key) = false := h
      have h1 : decide (((some rq).map GRec.name).getD emptyS = key) = false := h
      rw [h1, Bool.false_or] at hp
      (repeat (first | (refine cj_region ?_; refine oj_run TT rfl ?_) | refine oj_nil ?_ | refine cj_skip ?_ | refine nj_then ?_ | refine nj_block ?_ | (refine oj_add rfl rfl rfl rfl rfl rfl (by omega) ?_; refine oj_run TT rfl ?_)))
      refine nj_again (j + 1) ⟨hjl, hp⟩ (by omega) rfl (by (repeat (first | exact trivial | refine And.intro rfl ?_))) (by (repeat (first | exact trivial | refine And.intro rfl ?_))) rfl (by (repeat' (first | exact trivial | constructor))) (by (repeat' exact trivial))
  rw [if_neg (by rw [hany]; decide)] at hfe
  obtain ⟨l, rfl⟩ := mkB_ex key
  rw [mkB_size] at hkey
  have hko : keyOk (mkB l) = decide (utfCheck l < 0) := rfl
  (repeat (first | refine cj_seq ?_ | (refine cj_region ?_; refine oj_run TT rfl ?_)))
  refine oj_bytes (y := mkB l) TT rfl rfl rfl rfl rfl rfl rfl rfl rfl rfl rfl fun bo bc σ2 hle2 HB => ?_
  refine oj_run TT rfl ?_
  refine oj_callP rfl rfl rfl rfl rfl Tryd.call130 (by (repeat' (first | exact trivial | constructor))) (utfCheck_c σ2 bo bc l HB hkey) fun v hv => ⟨.a (.v (.int .i64 (utfCheck l))), trivial, hv.symm, ?_⟩
  refine oj_run TT rfl ?_
  (repeat refine oj_then ?_)
  refine cj_if rfl (fun h => ?_) (fun h => ?_)
  · have h := of_decide_eq_true h
    rw [hko, decide_eq_false (by omega)] at hfe
    (repeat (first | refine cj_seq ?_ | (refine cj_region ?_; refine oj_run TT rfl ?_) | refine oj_then ?_ | refine cj_ret ?_ | refine nj_then_ret ?_))
    refine nj_ret TT rfl fun β w' _ _ => ?_
    rw [hfe]
    rfl
  · have h := of_decide_eq_false h
    rw [hko, decide_eq_true (by omega)] at hfe
    (repeat (first | refine cj_seq ?_ | (refine cj_region ?_; refine oj_run TT rfl ?_) | refine oj_then ?_ | refine cj_skip ?_ | refine cj_ret ?_ | refine nj_then ?_))
    refine nj_ret TT rfl fun β w' _ _ => ?_
    rw [hfe]
    rfl

theorem recXs_nil : recXs [] = [] := rfl

set_option maxRecDepth 100000 in
set_option maxHeartbeats 1000000 in
theorem CloneRec_c (σ : Snap) (L : List GRec) (hl : L.length ≤ 1000000) (hpos : 0 < L.length) (ao : Option Addr) (cap : Nat) (H : SlAt σ ao L.length cap 11 (recRows L)) :
    FnS Tryd.prog 107 [.a (.v (.slice ao L.length cap))] σ [] (fun v _ A' => ∃ bo bc, v = .slice bo L.length bc ∧ L.length ≤ bc ∧ A' = [rE bo L.length bc L]) := by
  refine enter_f Tryd.func107 rfl rfl (by (repeat' (first | exact trivial | constructor))) fun w => ?_
  (repeat (first | refine cj_seq ?_ | (refine cj_region ?_; refine oj_run TT rfl ?_) | refine oj_then ?_ | (refine oj_slnil TT rfl rfl rfl rfl rfl rfl rfl rfl ?_; refine oj_run TT rfl ?_)))
  refine cj_if rfl (fun h => ?_) (fun h => ?_)
  · have h0 : ao = none := by simpa using h
    rcases H.at_ with h1 | ⟨ad, h1, _⟩
    · omega
    · rw [h0] at h1; cases h1
  (repeat (first | refine cj_seq ?_ | (refine cj_region ?_; refine oj_run TT rfl ?_) | refine cj_skip ?_ | refine nj_then ?_))
  refine oj_own 0 0 11 rfl (by (repeat' (first | exact trivial | refine AllLt.of ?_))) rfl (by decide) fun gb => ?_
  refine oj_append_sl TT 0 rfl rfl rfl rfl rfl rfl rfl H rfl rfl rfl rfl rfl rfl rfl rfl rfl (fun r hr => (recRows_all L r hr).2.2) (by omega) (by show (0 + L.length) * 112 ≤ _; omega) fun ao' cap' hcap' => oj_run TT rfl ?_
  (repeat (first | refine oj_then ?_ | refine cj_ret ?_))
  refine nj_fret TT rfl fun β w' _ _ => ?_
  refine ⟨ao', cap', by show Value.slice ao' (0 + L.length) cap' = _; rw [Nat.zero_add], by omega, ?_⟩
  show [_] = [_]
  rw [Nat.zero_add]
  rfl

set_option maxRecDepth 100000 in
set_option maxHeartbeats 1000000 in
theorem Grow_c (σ : Snap) (n : Nat) (hn : n ≤ 1000000) :
    FnS Tryd.prog 145 [.a (.v (.slice none 0 0)), .a (.v (.int .i64 n))] σ [] (fun v _ A' => ∃ bo bc, v = .slice bo 0 bc ∧ A' = [rE bo 0 bc []]) := by
  refine enter_f Tryd.func145 rfl rfl (by (repeat' (first | exact trivial | constructor))) fun w => ?_
  (repeat (first | refine cj_seq ?_ | (refine cj_region ?_; refine oj_run TT rfl ?_) | refine oj_then ?_))
  refine cj_if rfl (fun h => ?_) (fun h => ?_)
  · have : (n : Int) < 0 := of_decide_eq_true h
    omega
  have hsub : ((n : Int) - (((0 : Nat) : Int) - ((0 : Nat) : Int))) = (n : Int) := by omega
  (repeat (first | refine cj_seq ?_ | (refine cj_region ?_; refine oj_run TT rfl ?_) | refine cj_skip ?_ | refine nj_then ?_))
  refine oj_cap TT rfl rfl rfl rfl rfl rfl rfl (oj_run TT rfl ?_)
  refine oj_minus rfl rfl rfl rfl rfl rfl (by omega) (oj_run TT rfl ?_)
  refine oj_minus rfl rfl rfl rfl rfl rfl (by omega) (oj_run TT rfl ?_)
  rw [hsub]
  refine oj_run TT rfl ?_
  (repeat (first | refine cj_seq ?_ | (refine cj_region ?_; refine oj_run TT rfl ?_) | refine oj_then ?_))
  refine cj_if rfl (fun h => ?_) (fun h => ?_)
  rotate_left
  · (repeat (first | refine cj_seq ?_ | (refine cj_region ?_; refine oj_run TT rfl ?_) | refine oj_then ?_ | refine cj_skip ?_ | refine cj_ret ?_ | refine nj_then ?_))
    refine nj_nilarr 36 11 ?_
    refine nj_fret TT rfl fun β w' _ _ => ?_
    exact ⟨none, 0, rfl, rfl⟩
  have hpos : 0 < n := by have : (n : Int) > 0 := of_decide_eq_true h; omega
  (repeat (refine cj_region ?_; refine oj_run TT rfl ?_))
  refine oj_cap TT rfl rfl rfl rfl rfl rfl rfl (oj_run TT rfl ?_)
  refine oj_slice_to TT 0 rfl rfl rfl rfl rfl rfl rfl rfl rfl rfl (Nat.le_refl _) (Nat.le_refl _) (oj_run TT rfl ?_)
  refine oj_nilarr 36 11 ?_
  refine oj_appendZ TT 0 rfl rfl rfl rfl rfl rfl rfl rfl rfl rfl rfl rfl rfl rfl (by decide) hpos (by omega) (by show n * 112 ≤ _; omega) fun g cap' xs hcap' => oj_run TT rfl ?_
  refine oj_slice_to TT 0 rfl rfl rfl rfl rfl rfl rfl rfl rfl rfl (Nat.zero_le _) hcap' ?_
  refine oj_cutArr 0 0 rfl rfl (Nat.zero_le _) rfl (oj_run TT rfl ?_)
  (repeat (first | refine cj_seq ?_ | (refine cj_region ?_; refine oj_run TT rfl ?_) | refine oj_then ?_ | refine cj_ret ?_))
  refine nj_fret TT rfl fun β w' _ _ => ?_
  refine ⟨some ⟨g, 0, none⟩, cap', rfl, ?_⟩
  show [AE.cut _ 0] = [_]
  unfold AE.cut
  simp only [Nat.zero_mul, List.take_zero]
  rfl

theorem lens_le : ∀ (l : List (List GRec)), (l.map List.length).sum = l.flatten.length
  | [] => rfl
  | a :: l => by rw [List.map_cons, List.sum_cons, List.flatten_cons, List.length_append, lens_le l]

/-- A list of records that lies somewhere. -/
structure RRow where
  ao : Option Addr
  cap : Nat
  l : List GRec
def rrRows (l : List RRow) : List (List AT) := l.map fun r => [.v (.slice r.ao r.l.length r.cap)]
theorem rrRows_get {l : List RRow} {i : Nat} {x : RRow} (h : l[i]? = some x) : (rrRows l)[i]? = some [.v (.slice x.ao x.l.length x.cap)] := by unfold rrRows; rw [List.getElem?_map, h]; rfl
def allRecs (l : List RRow) : List GRec := (l.map RRow.l).flatten
theorem allRecs_take {l : List RRow} {j : Nat} {x : RRow} (h : l[j]? = some x) : allRecs (l.take (j + 1)) = allRecs (l.take j) ++ x.l := by
  have hj := (List.getElem?_eq_some_iff.1 h).1
  have hx := (List.getElem?_eq_some_iff.1 h).2
  unfold allRecs
  rw [List.take_succ_eq_append_getElem hj, hx, List.map_append, List.flatten_append]
  simp
theorem allRecs_le (l : List RRow) (j : Nat) : (allRecs (l.take j)).length ≤ (allRecs l).length := by
  have : allRecs l = allRecs (l.take j) ++ allRecs (l.drop j) := by
    unfold allRecs
    rw [← List.flatten_append, ← List.map_append, List.take_append_drop]
  rw [this, List.length_append]
  omega

structure CcS where
  j : Nat
  bo : Option Addr
  bc : Nat

set_option maxRecDepth 100000 in
set_option maxHeartbeats 1000000 in
theorem Concat_c (σ : Snap) (rs : List RRow) (hl : rs.length ≤ 1000) (hn : (allRecs rs).length ≤ 1000000) (ao : Option Addr) (cap : Nat) (P : SlAt σ ao rs.length cap 1 (rrRows rs)) (hr : ∀ r ∈ rs, SlAt σ r.ao r.l.length r.cap 11 (recRows r.l)) :
    FnS Tryd.prog 132 [.a (.v (.slice ao rs.length cap))] σ [] (fun v _ A' => ∃ bo bc, v = .slice bo (allRecs rs).length bc ∧ (allRecs rs).length ≤ bc ∧ A' = [rE bo (allRecs rs).length bc (allRecs rs)]) := by
  refine enter_f Tryd.func132 rfl rfl (by (repeat' (first | exact trivial | constructor))) fun w => ?_
  (repeat (first | refine cj_seq ?_ | (refine cj_region ?_; refine oj_run TT rfl ?_) | refine oj_then ?_ | refine cj_block ?_))
  refine cj_cutB (α := Unit) (fun _ => σ) (fun _ => [(0, .a (.v (.slice ao rs.length cap))), (3, .a (.v (.int .i64 (allRecs rs).length)))]) (fun _ => []) (fun _ => []) 0 (fun _ => True) ?_ (fun _ _ => ?_)
  · refine cj_loop (fun (_ : Nat) => σ) (fun j => [(0, .a (.v (.slice ao rs.length cap))), (3, .a (.v (.int .i64 (allRecs (rs.take j)).length))), (9, .a (.v (.slice ao rs.length cap))), (10, .a (.v (.int .i64 rs.length))), (11, .a (.v (.int .i64 (j : Nat))))]) (fun _ => []) (fun _ => []) 0
      (fun j => j ≤ rs.length) (fun j => rs.length - j) 0 (Nat.zero_le _) rfl (by (repeat (first | exact trivial | refine And.intro rfl ?_))) (by (repeat (first | exact trivial | refine And.intro rfl ?_))) rfl (by (repeat' (first | exact trivial | constructor))) (by (repeat' exact trivial)) fun j hj => ?_
    (repeat (first | refine cj_seq ?_ | (refine cj_region ?_; refine oj_run TT rfl ?_) | refine oj_then ?_))
    refine cj_if rfl (fun h => ?_) (fun h => ?_)
    rotate_left
    · have hj0 : j = rs.length := by have := of_decide_eq_false h; omega
      subst hj0
      rw [List.take_length]
      (repeat (first | refine cj_exit ?_ | refine nj_then_exit ?_ | refine nj_block_out ?_))
      refine nj_again () trivial Nat.zero_lt_one rfl (by (repeat (first | exact trivial | refine And.intro rfl ?_))) (by (repeat (first | exact trivial | refine And.intro rfl ?_))) rfl (by (repeat' (first | exact trivial | constructor))) (by (repeat' exact trivial))
    have hjl : j < rs.length := by have := of_decide_eq_true h; omega
    have hrj := rrRows_get (List.getElem?_eq_getElem hjl)
    have hat := allRecs_take (List.getElem?_eq_getElem hjl)
    have hle1 := allRecs_le rs j
    have hle2 := allRecs_le rs (j + 1)
    have hlen := congrArg List.length hat
    rw [List.length_append] at hlen
    generalize rs[j] = r at *
    (repeat (first | refine cj_seq ?_ | (refine cj_region ?_; refine oj_run TT rfl ?_) | refine cj_skip ?_ | refine cj_block ?_ | refine nj_then ?_))
    refine oj_idx TT rfl rfl rfl rfl rfl rfl rfl rfl rfl P (by omega) hrj (oj_run TT rfl ?_)
    (repeat (first | refine cj_seq ?_ | (refine cj_region ?_; refine oj_run TT rfl ?_) | refine oj_then ?_ | (refine oj_add rfl rfl rfl rfl rfl rfl (by omega) ?_; refine oj_run TT rfl ?_)))
    refine cj_if rfl (fun h => ?_) (fun h => ?_)
    · have := of_decide_eq_true h
      omega
    (repeat (first | (refine cj_region ?_; refine oj_run TT rfl ?_) | refine oj_nil ?_ | refine cj_skip ?_ | refine nj_then ?_ | refine nj_block ?_ | (refine oj_add rfl rfl rfl rfl rfl rfl (by omega) ?_; refine oj_run TT rfl ?_)))
    rw [show ((allRecs (rs.take j)).length : Int) + r.l.length = ((allRecs (rs.take (j + 1))).length : Nat) by omega]
    refine nj_again (j + 1) hjl (by omega) rfl (by (repeat (first | exact trivial | refine And.intro rfl ?_))) (by (repeat (first | exact trivial | refine And.intro rfl ?_))) rfl (by (repeat' (first | exact trivial | constructor))) (by (repeat' exact trivial))
  (repeat (first | refine cj_seq ?_ | (refine cj_region ?_; refine oj_run TT rfl ?_)))
  refine oj_callF [] (A0 := []) (Ar := []) rfl rfl rfl rfl rfl rfl rfl Tryd.call145 (by (repeat' (first | exact trivial | constructor))) (Grow_c σ (allRecs rs).length hn) fun v σ1 A1 hle1 ⟨bo, bc, hv, hA⟩ => ⟨.a (.v (.slice bo 0 bc)), trivial, hv.symm, ?_⟩
  subst hA
  have P := P.mono hle1
  have hr := fun r h => (hr r h).mono hle1
  refine oj_run TT rfl ?_
  (repeat (first | refine cj_seq ?_ | (refine cj_region ?_; refine oj_run TT rfl ?_) | refine oj_then ?_ | refine cj_block ?_))
  refine cj_cutB (fun (_ : Option Addr × Nat) => σ1) (fun s => [(6, .a (.v (.slice s.1 (allRecs rs).length s.2)))]) (fun _ => []) (fun s => [rE s.1 (allRecs rs).length s.2 (allRecs rs)]) 0 (fun s => (allRecs rs).length ≤ s.2) ?_ (fun s hs => ?_)
  · refine cj_loop (fun (_ : CcS) => σ1) (fun s => [(6, .a (.v (.slice s.bo (allRecs (rs.take s.j)).length s.bc))), (25, .a (.v (.slice ao rs.length cap))), (26, .a (.v (.int .i64 rs.length))), (27, .a (.v (.int .i64 (s.j : Nat))))]) (fun _ => []) (fun s => [rE s.bo (allRecs (rs.take s.j)).length s.bc (allRecs (rs.take s.j))]) 0
      (fun s => s.j ≤ rs.length ∧ (allRecs (rs.take s.j)).length ≤ s.bc) (fun s => rs.length - s.j) ⟨0, bo, bc⟩ ⟨Nat.zero_le _, Nat.zero_le _⟩ rfl (by (repeat (first | exact trivial | refine And.intro rfl ?_))) (by (repeat (first | exact trivial | refine And.intro rfl ?_))) rfl (by (repeat' (first | exact trivial | constructor))) (by (repeat' exact trivial)) fun ⟨j, bo, bc⟩ ⟨hj, hbc⟩ => ?_
    dsimp only at hj hbc ⊢
    (repeat (first | refine cj_seq ?_ | (refine cj_region ?_; refine oj_run TT rfl ?_) | refine oj_then ?_))
    refine cj_if rfl (fun h => ?_) (fun h => ?_)
    rotate_left
    · have hj0 : j = rs.length := by have := of_decide_eq_false h; omega
      subst hj0
      rw [List.take_length] at hbc ⊢
      (repeat (first | refine cj_exit ?_ | refine nj_then_exit ?_ | refine nj_block_out ?_))
      refine nj_again (bo, bc) hbc Nat.zero_lt_one rfl (by (repeat (first | exact trivial | refine And.intro rfl ?_))) (by (repeat (first | exact trivial | refine And.intro rfl ?_))) rfl (by (repeat' (first | exact trivial | constructor))) (by (repeat' exact trivial))
    have hjl : j < rs.length := by have := of_decide_eq_true h; omega
    have hrj := rrRows_get (List.getElem?_eq_getElem hjl)
    have hat := allRecs_take (List.getElem?_eq_getElem hjl)
    have hrr := hr rs[j] (List.getElem_mem hjl)
    have hle1 := allRecs_le rs j
    have hle2 := allRecs_le rs (j + 1)
    have hlen := congrArg List.length hat
    rw [List.length_append] at hlen
    generalize rs[j] = r at *
    (repeat (first | refine cj_seq ?_ | (refine cj_region ?_; refine oj_run TT rfl ?_) | refine cj_skip ?_ | refine cj_block ?_ | refine nj_then ?_))
    refine oj_idx TT rfl rfl rfl rfl rfl rfl rfl rfl rfl P (by omega) hrj (oj_run TT rfl ?_)
    (repeat (first | (refine cj_region ?_; refine oj_run TT rfl ?_) | refine oj_then ?_))
    refine oj_append_sl TT 0 rfl rfl rfl rfl rfl rfl rfl hrr rfl rfl rfl rfl rfl rfl rfl rfl rfl (fun q hq => (recRows_all r.l q hq).2.2) (by omega) (by show ((allRecs (rs.take j)).length + r.l.length) * 112 ≤ _; omega) fun ao' cap' hcap' => oj_run TT rfl ?_
    (repeat (first | (refine cj_region ?_; refine oj_run TT rfl ?_) | refine oj_nil ?_ | refine nj_then ?_ | refine nj_block ?_ | (refine oj_add rfl rfl rfl rfl rfl rfl (by omega) ?_; refine oj_run TT rfl ?_)))
    refine nj_again (⟨j + 1, ao', cap'⟩ : CcS) ⟨hjl, by dsimp only; omega⟩ (by dsimp only; omega) rfl ?_ (by (repeat (first | exact trivial | refine And.intro rfl ?_))) ?_ (by (repeat' (first | exact trivial | constructor))) (by (repeat' exact trivial))
    · dsimp only
      rw [hlen]
      (repeat (first | exact trivial | refine And.intro rfl ?_))
    · show [_] = [_]
      dsimp only
      rw [hlen, hat]
      unfold rE
      rw [recXs_append]
      rfl
  obtain ⟨bo, bc⟩ := s
  dsimp only at hs ⊢
  (repeat (first | refine cj_seq ?_ | (refine cj_region ?_; refine oj_run TT rfl ?_) | refine oj_then ?_ | refine cj_ret ?_))
  refine nj_fret TT rfl fun β w' _ _ => ?_
  exact ⟨bo, bc, rfl, hs, rfl⟩

/-! ### The number of a record that is laid -/

set_option maxRecDepth 100000 in
set_option maxHeartbeats 1000000 in
theorem number12_c (σ : Snap) (g : GGap) (gb : Nat) (hg : ∀ (j : Nat) c, (gapCells g)[j]? = some c → σ.cell ⟨gb, j, none⟩ = some c.val) (n m : Int) (h1 : -1 ≤ g.lo ∧ g.lo ≤ 1099511627776) (h2 : -1 ≤ g.hi ∧ g.hi ≤ 1099511627776) (hn : 0 ≤ n ∧ n ≤ 1000000) (hm : 0 ≤ m ∧ m ≤ 1000000) :
    PlainS Tryd.prog 104 [.a (.v (.int .i64 n)), .a (.v (.int .i64 m)), .a (.v (.pointer (some ⟨gb, 0, none⟩)))] σ (fun v => v = .int .i64 (g.lo + (g.hi - g.lo).tdiv (2 * m + 1) * (n + 1))) := by
  have c1 := hg 1 _ rfl
  have c2 := hg 2 _ rfl
  refine enter_p Tryd.func104 rfl rfl (by (repeat' (first | exact trivial | constructor))) fun w => ?_
  (repeat (first | refine cj_seq ?_ | (refine cj_region ?_; refine oj_run TT rfl ?_) | refine oj_then ?_))
  have hq := tdiv_bd (b := 2 * m + 1) (show -1099511627777 ≤ g.hi - g.lo ∧ g.hi - g.lo ≤ 1099511627777 by omega)
  have hp := mul_bd (a := (g.hi - g.lo).tdiv (2 * m + 1)) (b := n + 1) (c := 1099511627777) (d := 1000001) (by omega) (by omega)
  refine cj_draw [(0,.pure),(1,.quiet),(2,.pure),(3,.quiet),(4,.pure),(5,.quiet),(6,.pure),(7,.pure),(8,.pure),(9,.pure),(10,.pure),(11,.pure),(12,.pure),(13,.pure),(14,.pure),(15,.pure)] mixed (by kernel_rfl) (oj_run TT rfl ?_)
  refine oj_ldS (c := .v (.int .i64 g.lo)) TT rfl rfl rfl rfl rfl rfl rfl rfl c1 trivial (oj_run TT rfl ?_)
  refine oj_ldS (c := .v (.int .i64 g.hi)) TT rfl rfl rfl rfl rfl rfl rfl rfl c2 trivial (oj_run TT rfl ?_)
  refine oj_ldS (c := .v (.int .i64 g.lo)) TT rfl rfl rfl rfl rfl rfl rfl rfl c1 trivial (oj_run TT rfl ?_)
  refine oj_minus rfl rfl rfl rfl rfl rfl (by omega) (oj_run TT rfl ?_)
  refine oj_mul rfl rfl rfl rfl rfl rfl (by omega) (oj_run TT rfl ?_)
  refine oj_add rfl rfl rfl rfl rfl rfl (by omega) (oj_run TT rfl ?_)
  refine oj_quo rfl rfl rfl rfl rfl rfl (by omega) (by omega) (oj_run TT rfl ?_)
  refine oj_add rfl rfl rfl rfl rfl rfl (by omega) (oj_run TT rfl ?_)
  refine oj_mul rfl rfl rfl rfl rfl rfl (by omega) (oj_run TT rfl ?_)
  refine oj_add rfl rfl rfl rfl rfl rfl (by omega) (oj_run TT rfl ?_)
  (repeat (first | refine oj_then ?_ | refine cj_ret ?_))
  refine nj_ret TT rfl fun β w' _ _ => ?_
  rfl
end Go.Sy
namespace Go.Sy
open Go.Proofs

/-! ### laid -/

/-- A record that is laid elsewhere. -/
def lift (d : Int) (ν : Int → Int) (r : GRec) : GRec := ⟨ν (r.st - 1), ν (r.en - 1), r.lv + d, r.kd, r.nm, r.name, r.b, r.n, r.s⟩
def reName (nm : Bool) (name : ByteArray) (r : GRec) : GRec := ⟨r.st, r.en, r.lv, r.kd, nm, name, r.b, r.n, r.s⟩
def nameHd (nm : Bool) (name : ByteArray) : List GRec → List GRec
  | [] => []
  | r :: l => reName nm name r :: l
theorem nameHd_len (nm : Bool) (name : ByteArray) (l : List GRec) : (nameHd nm name l).length = l.length := by cases l <;> rfl
/-- A value's records, laid elsewhere. -/
def laidG (g : GVal) (top : GRec) (ν : Int → Int) : List GRec := nameHd top.nm top.name ((shredV 1 g 0 false emptyS 0).1.map (lift top.lv ν))

def editCells (ao : Option Addr) (n cap : Nat) (fr to : Int) (top : GRec) (vr : List AT) (room : Int) (f : FuncId) (caps : List PT) : List AT :=
  [.v (.slice ao n cap), .v (.int .i64 fr), .v (.int .i64 to)] ++ (recCells top ++ (vr ++ [.v (.int .i64 room), .fn (.func f) caps]))

def ord131_9 : List (Nat × Tag) := [(0,.pure),(1,.pure),(2,.pure),(3,.pure),(4,.quiet),(5,.pure),(6,.pure),(7,.quiet),(8,.pure),(9,.pure),(10,.keep),(11,.pure),(12,.pure),(13,.sink)]

theorem AllLt.of' {n : Nat} : ∀ {l : List AT}, (∀ c ∈ l, c.lt n) → AllLt n l
  | [], _ => trivial
  | _ :: _, h => ⟨h _ List.mem_cons_self, AllLt.of' fun c hc => h c (List.mem_cons_of_mem _ hc)⟩

theorem fn_lt_caps {f : Fn} {caps : List PT} (h : LtAll (caps.map ptSV)) (n : Nat) : (AT.fn f caps).lt n := by
  intro p hp
  have := h.of (ptSV p) (List.mem_map.2 ⟨p, hp, rfl⟩)
  cases p with
  | loc i o => exact absurd this (by simp [ptSV, SV.lt, AT.lt])
  | val x => trivial

mutual
theorem LayV.lvb : ∀ {g : GVal} {lv : Int} {nm : Bool} {name : ByteArray} {lo hi : Int} {L : List GRec}, LayV g lv nm name lo L hi → ∀ r ∈ L, lv ≤ r.lv ∧ r.lv < lv + L.length
  | _, _, _, _, _, _, _, .mk h1 h2 h3 h4 => by
    intro r hr
    rw [List.length_cons]
    rcases List.mem_cons.1 hr with rfl | hr
    · dsimp only
      omega
    · have := h2.lvb r hr
      omega
theorem LayI.lvb : ∀ {xs : List Itm} {lv lo hi : Int} {L : List GRec}, LayI xs lv lo L hi → ∀ r ∈ L, lv ≤ r.lv ∧ r.lv < lv + L.length
  | _, _, _, _, _, .nil h => by intro r hr; cases hr
  | _, _, _, _, _, .cons h1 h2 => by
    intro r hr
    rw [List.length_append]
    rcases List.mem_append.1 hr with hr | hr
    · have := h1.lvb r hr; omega
    · have := h2.lvb r hr; omega
end

set_option maxRecDepth 100000 in
set_option maxHeartbeats 1000000 in
theorem laid_c (σ : Snap) (g : GVal) (la : Option Addr) (lc : Nat) (lrows : List (List AT)) (ma : Option Addr) (mc : Nat) (vrows : List (List AT)) (V : VAt σ g la lc lrows ma mc vrows) (hw : g.weight ≤ 100000) (hs : sane g = 0)
    (ao : Option Addr) (n cap : Nat) (fr to : Int) (top : GRec) (htl : 0 ≤ top.lv ∧ top.lv ≤ 1000000) (room : Int) (f : FuncId) (caps : List PT) (hcap : LtAll (caps.map ptSV)) (hcall : ∀ args w, (callFunc f args).run Tryd.prog w = .ok (.enter f args) w)
    (ν : Int → Int) (hν : ∀ σ' : Snap, σ.le σ' → ∀ k : Int, 0 ≤ k → k < 2 * ((shredV 1 g 0 false emptyS 0).1.length : Nat) → PlainS Tryd.prog f (.a (.v (.int .i64 k)) :: .a (.v (.int .i64 ((shredV 1 g 0 false emptyS 0).1.length : Nat))) :: caps.map ptSV) σ' (fun v => v = .int .i64 (ν k))) :
    PureS Tryd.prog 131 [.agg (editCells ao n cap fr to top (vCells g la lc ma mc) room f caps)] σ (fun v σ' => ∃ bo bc, v = .slice bo (laidG g top ν).length bc ∧ SlAt σ' bo (laidG g top ν).length bc 11 (recRows (laidG g top ν))) := by
  have hG := shredG_ok (g := g) (gap := 1) (by omega) (by omega) hs
  obtain ⟨hlen1, hlen2⟩ := shredV_len 1 g 0 false emptyS 0
  have hbd := (shredV_bd (gap := 1) (by omega) g 0 false emptyS 0).2
  have hstp : ∀ r ∈ (shredV 1 g 0 false emptyS 0).1, 0 ≤ r.st - 1 ∧ r.st - 1 < 2 * ((shredV 1 g 0 false emptyS 0).1.length : Nat) ∧ 0 ≤ r.en - 1 ∧ r.en - 1 < 2 * ((shredV 1 g 0 false emptyS 0).1.length : Nat) := by
    intro r hr
    have h1 := (shred_lay (gap := 1) (by omega) V.rep.wf 0 false emptyS 0).bd r hr
    have h2 := hbd r hr
    rw [hlen2] at h2
    omega
  have hlvb : ∀ r ∈ (shredV 1 g 0 false emptyS 0).1, 0 ≤ r.lv ∧ r.lv ≤ 1000000 := by
    intro r hr
    have := (shred_lay (gap := 1) (by omega) V.rep.wf 0 false emptyS 0).lvb r hr
    omega
  have hposL : 0 < (shredV 1 g 0 false emptyS 0).1.length := by rw [shredV_eq]; simp
  have hlaid : laidG g top ν = nameHd top.nm top.name ((shredV 1 g 0 false emptyS 0).1.map (lift top.lv ν)) := rfl
  have hfn : ∀ m, (AT.fn (.func f) caps).lt m := fn_lt_caps hcap
  have hce : ∀ m, ∀ c ∈ editCells ao n cap fr to top (vCells g la lc ma mc) room f caps, c.lt m := by
    intro m c hc
    unfold editCells at hc
    simp only [List.mem_append, List.mem_cons, List.not_mem_nil, or_false] at hc
    rcases hc with (rfl | rfl | rfl) | hc | hc | rfl | rfl
    · trivial
    · trivial
    · trivial
    · exact recCells_lt m top c hc
    · exact vCells_lt _ _ _ _ _ _ c hc
    · trivial
    · exact hfn m
  refine enter_s Tryd.func131 rfl rfl ⟨hce 0, trivial⟩ fun w => ?_
  (repeat (first | refine cj_seq ?_ | (refine cj_region ?_; refine oj_run TT rfl ?_) | refine oj_then ?_))
  refine oj_callF [] (A0 := []) (Ar := []) rfl rfl rfl rfl rfl rfl rfl Tryd.call21 ⟨vCells_lt _ _ _ _ _ _, trivial, trivial⟩ (Shred_f σ g _ 1 V.rep hw) fun v σ1 A1 hle1 ⟨E, hA, ao1, cap1, hc, hE, hv⟩ => ?_
  rw [hG] at hc hE hv
  dsimp only at hc hE hv
  subst hA hE
  refine ⟨.tup [.a (.v (.slice ao1 (shredV 1 g 0 false emptyS 0).1.length cap1)), .a (.v (.int .i64 0))], (by (repeat' (first | exact trivial | refine SV.lt_tup ?_ | constructor))), hv.symm, ?_⟩
  generalize (shredV 1 g 0 false emptyS 0).1 = L at *
  refine oj_run TT rfl ?_
  (repeat (first | refine cj_seq ?_ | (refine cj_region ?_; refine oj_run TT rfl ?_) | refine oj_then ?_ | refine cj_block ?_))
  refine cj_arrAt 0 (E := rE ao1 L.length cap1 L) rfl hposL fun g1 hg1 => ?_
  have hg1 : ao1 = some ⟨g1, 0, none⟩ := hg1
  subst hg1
  have had : ∀ k j : Nat, some (SV.a (AT.v (.pointer (some (Addr.add (Addr.add ⟨g1, 0, none⟩ ((k : Int).toNat * 11)) j))))) = some (SV.a (AT.v (.pointer (some ⟨g1, k * 11 + j, none⟩)))) := fun k j => by rw [add0, Addr.add_lit]; rfl
  refine cj_cutB (α := Unit) (fun _ => σ1) (fun _ => [(1, .a (.p 0 0)), (3, .a (.v (.slice (some ⟨g1, 0, none⟩) L.length cap1)))])
    (fun _ => [(0, .loc 159, editCells ao n cap fr to top (vCells g la lc ma mc) room f caps)]) (fun _ => [rE (some ⟨g1, 0, none⟩) L.length cap1 (L.map (lift top.lv ν))]) 1 (fun _ => True) ?_ (fun _ _ => ?_)
  · refine cj_loop (fun (_ : Nat) => σ1) (fun k => [(1, .a (.p 0 0)), (3, .a (.v (.slice (some ⟨g1, 0, none⟩) L.length cap1))), (5, .a (.v (.int .i64 L.length))), (16, .a (.v (.int .i64 L.length))), (17, .a (.v (.int .i64 (k : Nat))))])
      (fun _ => [(0, .loc 159, editCells ao n cap fr to top (vCells g la lc ma mc) room f caps)]) (fun k => [rE (some ⟨g1, 0, none⟩) L.length cap1 (mkK (lift top.lv ν) L k)]) 1 (fun k => k ≤ L.length) (fun k => L.length - k) 0 (Nat.zero_le _) rfl (by (repeat (first | exact trivial | refine And.intro rfl ?_))) (by (repeat (first | exact trivial | refine And.intro rfl ?_))) rfl (by (repeat' (first | exact trivial | exact Nat.le_of_ble_eq_true rfl | constructor))) ⟨⟨Nat.zero_lt_one, hce 1⟩, trivial⟩ fun k hk => ?_
    (repeat (first | refine cj_seq ?_ | (refine cj_region ?_; refine oj_run TT rfl ?_) | refine oj_then ?_))
    refine cj_if rfl (fun h => ?_) (fun h => ?_)
    rotate_left
    · have hk0 : k = L.length := by have := of_decide_eq_false h; omega
      subst hk0
      (repeat (first | refine cj_exit ?_ | refine nj_then_exit ?_ | refine nj_block_out ?_))
      refine nj_again () trivial Nat.zero_lt_one rfl (by (repeat (first | exact trivial | refine And.intro rfl ?_))) (by (repeat (first | exact trivial | refine And.intro rfl ?_))) ?_ (by (repeat' (first | exact trivial | exact Nat.le_of_ble_eq_true rfl | constructor))) ⟨⟨Nat.zero_lt_one, hce 1⟩, trivial⟩
      simp [mkK]
    have hkl : k < L.length := by have := of_decide_eq_true h; omega
    have hb := hstp L[k] (List.getElem_mem hkl)
    have hlvk := hlvb L[k] (List.getElem_mem hkl)
    have hM0 := mkK_get (lift top.lv ν) L k hkl
    have hS := mkK_succ (lift top.lv ν) L k hkl
    have hlenM := mkK_len (lift top.lv ν) L k hk
    generalize hx : L[k] = x at *
    let x1 : GRec := ⟨x.st, x.en, x.lv + top.lv, x.kd, x.nm, x.name, x.b, x.n, x.s⟩
    let x2 : GRec := ⟨ν (x.st - 1), x.en, x.lv + top.lv, x.kd, x.nm, x.name, x.b, x.n, x.s⟩
    have hM1 : ((mkK (lift top.lv ν) L k).set k x1)[k]? = some x1 := by rw [List.getElem?_set_self (by omega)]
    have hM2 : ((mkK (lift top.lv ν) L k).set k x2)[k]? = some x2 := by rw [List.getElem?_set_self (by omega)]
    have hS1 : ((mkK (lift top.lv ν) L k).set k x1).set k x2 = (mkK (lift top.lv ν) L k).set k x2 := by rw [List.set_set]
    have hS2 : ((mkK (lift top.lv ν) L k).set k x2).set k (lift top.lv ν x) = mkK (lift top.lv ν) L (k + 1) := by rw [List.set_set]; exact hS
    have hoff : ∀ j, j < 11 → k * 11 + j < L.length * 11 := fun j hj => by omega
    (repeat (first | refine cj_seq ?_ | (refine cj_region ?_; refine oj_run TT rfl ?_) | refine oj_then ?_ | refine cj_skip ?_ | refine cj_block ?_ | refine nj_then ?_))
    refine cj_draw [(0,.pure),(1,.pure),(2,.pure),(3,.pure),(4,.quiet),(5,.pure),(6,.pure),(7,.quiet),(8,.pure),(9,.pure),(10,.pure),(11,.sink)] mixed (by kernel_rfl) (oj_run TT rfl ?_)
    refine oj_indexAddr TT rfl rfl rfl rfl rfl rfl rfl rfl rfl ⟨by omega, by omega⟩ (oj_run TT rfl ?_)
    refine oj_ldA 0 (off := k * 11 + 2) (c := .v (.int .i64 x.lv)) TT rfl rfl rfl rfl rfl (had k 2) rfl rfl rfl rfl (recXs_get hM0 rfl) trivial (oj_run TT rfl ?_)
    refine oj_add rfl rfl rfl rfl rfl rfl (by omega) (oj_run TT rfl ?_)
    refine oj_indexAddr TT rfl rfl rfl rfl rfl rfl rfl rfl rfl ⟨by omega, by omega⟩ (oj_run TT rfl ?_)
    refine oj_stA 0 (off := k * 11 + 2) (A' := [rE (some ⟨g1, 0, none⟩) L.length cap1 ((mkK (lift top.lv ν) L k).set k x1)]) TT rfl rfl rfl rfl (had k 2) rfl rfl rfl rfl rfl (hoff 2 (by omega)) trivial rfl ?_ (oj_run TT rfl ?_)
    · show [_] = [_]
      congr 1
      unfold rE
      congr 1
      exact recXs_set (r' := x1) (.v (.int .i64 (x.lv + top.lv))) hM0 (by omega) rfl
    (repeat refine oj_then ?_)
    refine cj_draw [(0,.pure),(1,.pure),(2,.pure),(3,.pure),(4,.pure),(5,.quiet),(6,.pure),(7,.pure),(8,.pure),(9,.pure),(10,.quiet),(11,.pure),(12,.pure),(14,.pure),(15,.quiet),(16,.pure),(17,.pure),(18,.pure),(19,.pure),(20,.quiet),(21,.pure),(22,.pure),(13,.keep),(23,.keep),(24,.pure),(25,.pure),(26,.sink),(27,.pure),(28,.pure),(29,.sink)] mixed (by kernel_rfl) (oj_run TT rfl ?_)
    refine oj_indexAddr TT rfl rfl rfl rfl rfl rfl rfl rfl rfl ⟨by omega, by omega⟩ (oj_run TT rfl ?_)
    refine oj_ldA 0 (off := k * 11 + 0) (c := .v (.int .i64 x.st)) TT rfl rfl rfl rfl rfl (had k 0) rfl rfl rfl rfl (recXs_get hM1 rfl) trivial (oj_run TT rfl ?_)
    refine oj_minus rfl rfl rfl rfl rfl rfl (by omega) (oj_run TT rfl ?_)
    refine oj_indexAddr TT rfl rfl rfl rfl rfl rfl rfl rfl rfl ⟨by omega, by omega⟩ (oj_run TT rfl ?_)
    refine oj_ldA 0 (off := k * 11 + 1) (c := .v (.int .i64 x.en)) TT rfl rfl rfl rfl rfl (had k 1) rfl rfl rfl rfl (recXs_get hM1 rfl) trivial (oj_run TT rfl ?_)
    refine oj_minus rfl rfl rfl rfl rfl rfl (by omega) (oj_run TT rfl ?_)
    refine oj_callP (ys := .a (.v (.int .i64 (x.st - 1))) :: .a (.v (.int .i64 L.length)) :: caps.map ptSV) rfl rfl rfl rfl rfl hcall ⟨trivial, trivial, hcap⟩ (hν σ1 hle1 _ hb.1 hb.2.1) fun v hv => ⟨.a (.v (.int .i64 (ν (x.st - 1)))), trivial, hv.symm, ?_⟩
    refine oj_run TT rfl ?_
    refine oj_callP (ys := .a (.v (.int .i64 (x.en - 1))) :: .a (.v (.int .i64 L.length)) :: caps.map ptSV) rfl rfl rfl rfl rfl hcall ⟨trivial, trivial, hcap⟩ (hν σ1 hle1 _ hb.2.2.1 hb.2.2.2) fun v hv => ⟨.a (.v (.int .i64 (ν (x.en - 1)))), trivial, hv.symm, ?_⟩
    refine oj_run TT rfl ?_
    refine oj_indexAddr TT rfl rfl rfl rfl rfl rfl rfl rfl rfl ⟨by omega, by omega⟩ (oj_run TT rfl ?_)
    refine oj_stA 0 (off := k * 11 + 0) (A' := [rE (some ⟨g1, 0, none⟩) L.length cap1 ((mkK (lift top.lv ν) L k).set k x2)]) TT rfl rfl rfl rfl (had k 0) rfl rfl rfl rfl rfl (hoff 0 (by omega)) trivial rfl ?_ (oj_run TT rfl ?_)
    · show [_] = [_]
      congr 1
      unfold rE
      congr 1
      rw [← hS1]
      exact recXs_set (r' := x2) (.v (.int .i64 (ν (x.st - 1)))) hM1 (by omega) rfl
    refine oj_indexAddr TT rfl rfl rfl rfl rfl rfl rfl rfl rfl ⟨by omega, by omega⟩ (oj_run TT rfl ?_)
    refine oj_stA 0 (off := k * 11 + 1) (A' := [rE (some ⟨g1, 0, none⟩) L.length cap1 (mkK (lift top.lv ν) L (k + 1))]) TT rfl rfl rfl rfl (had k 1) rfl rfl rfl rfl rfl (hoff 1 (by omega)) trivial rfl ?_ (oj_run TT rfl ?_)
    · show [_] = [_]
      congr 1
      unfold rE
      congr 1
      rw [← hS2]
      exact recXs_set (r' := lift top.lv ν x) (.v (.int .i64 (ν (x.en - 1)))) hM2 (by omega) rfl
    (repeat (first | (refine cj_region ?_; refine oj_run TT rfl ?_) | refine oj_nil ?_ | refine nj_then ?_ | refine nj_block ?_ | (refine oj_add rfl rfl rfl rfl rfl rfl (by omega) ?_; refine oj_run TT rfl ?_)))
    refine nj_again (k + 1) hkl (by omega) rfl (by (repeat (first | exact trivial | refine And.intro rfl ?_))) (by (repeat (first | exact trivial | refine And.intro rfl ?_))) rfl (by (repeat' (first | exact trivial | exact Nat.le_of_ble_eq_true rfl | constructor))) ⟨⟨Nat.zero_lt_one, hce 1⟩, trivial⟩
  generalize hM : L.map (lift top.lv ν) = M at *
  have hMl : M.length = L.length := by rw [← hM, List.length_map]
  obtain ⟨m0, M1, rfl⟩ : ∃ m0 M1, M = m0 :: M1 := by
    cases M with
    | nil => rw [List.length_nil] at hMl; omega
    | cons a b => exact ⟨a, b, rfl⟩
  have hm0 : (m0 :: M1)[0]? = some m0 := rfl
  rw [← hMl]
  let m1 : GRec := ⟨m0.st, m0.en, m0.lv, m0.kd, top.nm, m0.name, m0.b, m0.n, m0.s⟩
  (repeat refine cj_seq ?_)
  refine cj_drawW ord131_9 (fun β w => StW _ σ1 [(0, .loc 159, editCells ao n cap fr to top (vCells g la lc ma mc) room f caps)] [] β w) (fun β w h => h.dropA) mixed (by kernel_rfl) ?_
  refine ow_pure TT rfl rfl rfl rfl rfl rfl ?_
  refine ow_pure TT rfl rfl rfl rfl rfl rfl ?_
  refine ow_pure TT rfl rfl rfl rfl rfl rfl ?_
  refine ow_pure TT rfl rfl rfl rfl rfl rfl ?_
  refine ow_load TT [(0, .loc 159, editCells ao n cap fr to top (vCells g la lc ma mc) room f caps)] [] (subH_of ⟨rfl, trivial⟩) (fun _ _ h => h) rfl rfl rfl rfl rfl ?_
  refine ow_pure TT rfl rfl rfl rfl rfl rfl ?_
  refine ow_pure TT rfl rfl rfl rfl rfl rfl ?_
  refine ow_load TT [(0, .loc 159, editCells ao n cap fr to top (vCells g la lc ma mc) room f caps)] [] (subH_of ⟨rfl, trivial⟩) (fun _ _ h => h) rfl rfl rfl rfl rfl ?_
  refine ow_idxA TT rfl rfl rfl rfl rfl rfl rfl rfl rfl rfl ⟨by omega, by simp⟩ ?_
  refine ow_pure TT rfl rfl rfl rfl rfl rfl ?_
  refine ow_stA 0 (off := 0 * 11 + 4) (A' := [rE (some ⟨g1, 0, none⟩) (m0 :: M1).length cap1 (m1 :: M1)]) TT rfl rfl rfl rfl (fun β w h => h.dropA) (had 0 4) rfl rfl rfl rfl rfl (by show 0 * 11 + 4 < (m0 :: M1).length * 11; rw [List.length_cons]; omega) trivial rfl ?_ ?_
  · rfl
  have hm1 : (m1 :: M1)[0]? = some m1 := rfl
  refine ow_idxA TT rfl rfl rfl rfl rfl rfl rfl rfl rfl rfl ⟨by omega, by simp⟩ ?_
  refine ow_pure TT rfl rfl rfl rfl rfl rfl ?_
  refine ow_end rfl (fun β w h => h.dropA) ?_
  refine oj_stA 0 (off := 0 * 11 + 5) (A' := [rE (some ⟨g1, 0, none⟩) (m0 :: M1).length cap1 (reName top.nm top.name m0 :: M1)]) TT rfl rfl rfl rfl (had 0 5) rfl rfl rfl rfl rfl (by show 0 * 11 + 5 < (m0 :: M1).length * 11; rw [List.length_cons]; omega) trivial rfl ?_ (oj_run TT rfl ?_)
  · rfl
  (repeat (first | refine cj_seq ?_ | (refine cj_region ?_; refine oj_run TT rfl ?_) | refine oj_then ?_ | refine cj_ret ?_))
  refine nj_seal 0 rfl rfl fun σ2 hle2 hS => ?_
  refine nj_ret TT rfl fun β w' _ _ => ?_
  have hlc : (nameHd top.nm top.name (m0 :: M1)).length ≤ cap1 := by rw [nameHd_len, hMl]; exact hc
  rw [hlaid]
  exact ⟨some ⟨g1, 0, none⟩, cap1, rfl, rE_sealed hS hlc⟩
end Go.Sy
