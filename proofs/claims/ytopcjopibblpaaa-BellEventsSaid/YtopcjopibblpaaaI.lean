import Derived.Test.YtopcjopibblpaaaG
namespace Go.Proofs.Ytopcjopibblpaaa
open Go.RowKit

/-! ### plain: the document's turns, sum by sum -/
/-- does a sum speak against the state? -/
def agn (a : AL) (r : Bool) (s : Int) : Bool := badB a s != r
def needI (a : AL) (r : Bool) : Int := if r then a.F else a.R
/-- the document's: the turns, from where, ringing, how many speak against it -/
structure RS where
  out : List Nat
  f : Nat
  r : Bool
  ag : Nat
def cntS (a : AL) (s : RS) (x : Int) : Nat := if agn a s.r x then s.ag + 1 else 0
def rstep (a : AL) (i : Nat) (x : Int) (s : RS) : RS :=
  if needI a s.r ≤ (cntS a s x : Int) then ⟨s.out ++ [i], i + 1, !s.r, 0⟩ else ⟨s.out, s.f, s.r, cntS a s x⟩
def rs (a : AL) (z : Nat → Int) : Nat → RS
  | 0 => ⟨[], 0, false, 0⟩
  | k + 1 => rstep a k (z k) (rs a z k)

/-- the last g of the sums ahead of i, from f on, speak against r; the one ahead of them does not -/
def Run (a : AL) (z : Nat → Int) (f : Nat) (r : Bool) (i g : Nat) : Prop :=
  f + g ≤ i ∧ (∀ j, i - g ≤ j → j < i → agn a r (z j) = true) ∧ (f + g = i ∨ agn a r (z (i - g - 1)) = false)
theorem Run.unique {a : AL} {z : Nat → Int} {f : Nat} {r : Bool} {i g g' : Nat} (h : Run a z f r i g) (h' : Run a z f r i g') : g = g' := by
  have one : ∀ {g g' : Nat}, Run a z f r i g → Run a z f r i g' → ¬ g < g' := by
    intro g g' h h' hlt
    rcases h.2.2 with e | e
    · have := h'.1; omega
    · rw [h'.2.1 (i - g - 1) (by omega) (by have := h'.1; omega)] at e
      cases e
  have := one h h'
  have := one h' h
  omega
theorem Run.next {a : AL} {z : Nat → Int} {f : Nat} {r : Bool} {i g : Nat} (h : Run a z f r i g) : Run a z f r (i + 1) (if agn a r (z i) then g + 1 else 0) := by
  by_cases hz : agn a r (z i) = true
  · rw [if_pos hz]
    refine ⟨by have := h.1; omega, fun j h1 h2 => ?_, ?_⟩
    · by_cases hj : j = i
      · rw [hj]; exact hz
      · exact h.2.1 j (by omega) (by omega)
    · rcases h.2.2 with e | e
      · exact .inl (by omega)
      · refine .inr ?_
        rw [show i + 1 - (g + 1) - 1 = i - g - 1 by omega]; exact e
  · rw [if_neg hz]
    refine ⟨by have := h.1; omega, fun j h1 h2 => by omega, .inr ?_⟩
    rw [show i + 1 - 0 - 1 = i by omega]
    simpa using hz
theorem Run.start (a : AL) (z : Nat → Int) (r : Bool) (i : Nat) : Run a z i r i 0 := ⟨by omega, fun j h1 h2 => by omega, .inl (by omega)⟩

theorem rs_run (a : AL) (z : Nat → Int) (i : Nat) : Run a z (rs a z i).f (rs a z i).r i (rs a z i).ag := by
  induction i with
  | zero => exact Run.start a z _ 0
  | succ i ih =>
    rw [rs]
    unfold rstep
    split
    · exact Run.start a z _ (i + 1)
    · exact ih.next
theorem rs_facts (a : AL) (z : Nat → Int) (i : Nat) : (rs a z i).f ≤ i ∧ (rs a z i).ag ≤ i ∧ (rs a z i).out.length ≤ i ∧ (∀ x ∈ (rs a z i).out, x < i) ∧ (rs a z i).r = ((rs a z i).out.length % 2 == 1) := by
  induction i with
  | zero => simp [rs]
  | succ i ih =>
    obtain ⟨h1, h2, h3, h4, h5⟩ := ih
    rw [rs]
    unfold rstep
    split
    · refine ⟨by simp, by simp, by simp; omega, ?_, ?_⟩
      · intro x hx
        simp only [List.mem_append, List.mem_singleton] at hx
        rcases hx with hx | rfl
        · have := h4 x hx; omega
        · omega
      · simp only [List.length_append, List.length_singleton, h5]
        rcases Nat.mod_two_eq_zero_or_one (rs a z i).out.length with e | e
        · have : ((rs a z i).out.length + 1) % 2 = 1 := by omega
          rw [e, this]; rfl
        · have : ((rs a z i).out.length + 1) % 2 = 0 := by omega
          rw [e, this]; rfl
    · refine ⟨by simp; omega, ?_, by simp; omega, fun x hx => by have := h4 x hx; omega, h5⟩
      simp only [cntS]
      split <;> omega

def turned (a : AL) (z : Nat → Int) (i : Nat) : Bool := decide (needI a (rs a z i).r ≤ (cntS a (rs a z i) (z i) : Int))
def stI (r : Bool) : Int := if r then 2 else 1

theorem hear_rs (a : AL) (z : Nat → Int) (i : Nat) (hi : i ≤ 1000) (hR : 1 ≤ a.R) (hF : 1 ≤ a.F) :
    hearS a (stI (rs a z i).r) ((rs a z i).ag : Int) (z i) = (stI (rs a z (i + 1)).r, ((rs a z (i + 1)).ag : Int), turned a z i) := by
  have hf := rs_facts a z i
  rw [rs]
  unfold turned
  generalize rs a z i = s at hf ⊢
  obtain ⟨out, f, r, ag⟩ := s
  simp only at hf
  have hag : ag ≤ 1000 := by omega
  have w1 : wrap64 ((ag : Int) + 1) = (ag : Int) + 1 := by unfold wrap64; omega
  have w2 : wrap64 2 = 2 := by unfold wrap64; omega
  have w3 : wrap64 1 = 1 := by unfold wrap64; omega
  clear hf
  unfold rstep hearS cntS agn needI
  simp only
  cases hb : badB a (z i) <;> cases r
  · have : ¬ a.R ≤ 0 := by omega
    simp [stI, this]
  · by_cases hn : a.F ≤ (ag : Int) + 1
    · simp [stI, w1, w3, rowI, hn]
    · have : (ag : Int) + 1 < a.F := by omega
      simp [stI, w1, rowI, hn, this]
  · by_cases hn : a.R ≤ (ag : Int) + 1
    · simp [stI, w1, w2, rowI, hn]
    · have : (ag : Int) + 1 < a.R := by omega
      simp [stI, w1, rowI, hn, this]
  · have : ¬ a.F ≤ 0 := by omega
    simp [stI, this]

/-- the last turn is i just where it turned at i -/
theorem last_turn (a : AL) (z : Nat → Int) (i : Nat) :
    turned a z i = true ∧ (∃ l, (rs a z (i + 1)).out = l ++ [i]) ∨ turned a z i = false ∧ (∀ x ∈ (rs a z (i + 1)).out, x < i) := by
  have hf := rs_facts a z i
  unfold turned
  rw [rs]
  unfold rstep
  split
  · rename_i h
    exact .inl ⟨by simpa using h, _, rfl⟩
  · rename_i h
    exact .inr ⟨by simpa using h, hf.2.2.2.1⟩
end Go.Proofs.Ytopcjopibblpaaa
