/- Slices that are sealed; and reading them. No program in sight. -/
import Derived.Test.YtadnijcgohflhaaDoorSyF
namespace Go.Sy

/-- A sealed slice: n elements of sz cells each, 'rows'. -/
structure SlAt (σ : Snap) (ao : Option Addr) (n cap sz : Nat) (rows : List (List AT)) : Prop where
  len : rows.length = n
  ncap : n ≤ cap
  clo : ∀ r ∈ rows, r.length = sz ∧ ∀ c ∈ r, c.lt 0
  at_ : n = 0 ∨ ∃ ad, ao = some ad ∧ ∀ (i : Nat) r (j : Nat) c, rows[i]? = some r → r[j]? = some c → σ.cell (ad.add (i * sz + j)) = some (c.den β0)

theorem SlAt.mono {σ σ' : Snap} {ao : Option Addr} {n cap sz : Nat} {rows : List (List AT)} (h : SlAt σ ao n cap sz rows) (hle : σ.le σ') : SlAt σ' ao n cap sz rows := by
  refine ⟨h.len, h.ncap, h.clo, ?_⟩
  rcases h.at_ with h0 | ⟨ad, h1, h2⟩
  · exact .inl h0
  · exact .inr ⟨ad, h1, fun i r j c hr hc => hle.cell (h2 i r j c hr hc)⟩

theorem SlAt.nil (σ : Snap) (ao : Option Addr) (cap sz : Nat) : SlAt σ ao 0 cap sz [] := ⟨rfl, Nat.zero_le _, fun _ h => (by cases h), .inl rfl⟩

/-- A piece of a sealed slice. -/
theorem SlAt.sub {σ : Snap} {ao : Option Addr} {n cap sz : Nat} {rows : List (List AT)} (h : SlAt σ ao n cap sz rows) {l k : Nat} (hlk : l ≤ k) (hk : k ≤ n) :
    SlAt σ (if cap = l then ao else ao.map (·.add (l * sz))) (k - l) (cap - l) sz ((rows.take k).drop l) := by
  have hlen := h.len
  have hn := h.ncap
  refine ⟨by simp; omega, by omega, fun r hr => h.clo r (List.mem_of_mem_take (List.mem_of_mem_drop hr)), ?_⟩
  by_cases h0 : k - l = 0
  · exact .inl h0
  · rcases h.at_ with h1 | ⟨ad, rfl, h2⟩
    · omega
    · refine .inr ⟨ad.add (l * sz), by rw [if_neg (by omega)]; rfl, fun i r j c hr hc => ?_⟩
      rw [List.getElem?_drop, List.getElem?_take] at hr
      split at hr
      · rw [Addr.add_add]
        have := h2 (l + i) r j c hr hc
        rw [Nat.add_mul, Nat.add_assoc] at this
        exact this
      · cases hr

section
variable {cf : Cf} {Q : Exit → Act → World → Prop} {σ : Snap} {env : Env} {hp : HP} {A : List AE} {nh : Nat} {it : Item} {rest : List Item}

/-- An element of a sealed slice: its address, and what stands there. -/
theorem oj_idx {d : Nat} {x i : Operand} {t : TypeId} {T : List (Nat × TI)} (hT : TTok cf.P T) {ti te : TI} {e : Nat} {ao : Option Addr} {n c : Nat} {k : IntKind} {m : Int} {rows : List (List AT)} {r : List AT}
    (hop : it.o.op = .indexAddr t x i) (hd : it.o.dst = some d)
    (hg : guardVal it.guard env = some true) (hN : Nat.blt d cf.N = true) (hx : evalO env x = some (.a (.v (.slice ao n c)))) (hi : evalO env i = some (.a (.v (.int k m)))) (ht : tget T t = some ti) (hkd : ti.kind = .slice e)
    (hte : tget T e = some te) (H : SlAt σ ao n c te.size rows) (h0 : 0 ≤ m) (hr : rows[m.toNat]? = some r)
    (hk : OJ cf rest Q σ ((d, .a (.p nh 0)) :: env) ((nh, .ro, r) :: hp) A (nh + 1)) : OJ cf (it :: rest) Q σ env hp A nh := by
  have hlt : m.toNat < n := by rw [← H.len]; exact (List.getElem?_eq_some_iff.1 hr).1
  rcases H.at_ with h1 | ⟨ad, rfl, h2⟩
  · omega
  · refine oj_indexAddr hT hop hd hg hN hx hi ht hkd hte ⟨h0, by omega⟩ ?_
    refine oj_row d r (by rw [Env.get_cons, if_pos rfl]) (H.clo r (List.mem_of_getElem? hr)).2 (fun j c hc => ?_) (oj_subE (fun i x hx => ?_) hk)
    rotate_left
    · rw [Env.get_cons] at hx ⊢
      by_cases hdi : d = i
      · rw [if_pos hdi] at hx ⊢; exact hx
      · rw [if_neg hdi] at hx ⊢; rw [Env.get_cons, if_neg hdi]; exact hx
    rw [Addr.add_add]
    exact h2 m.toNat r j c hr hc

end

end Go.Sy
