import Derived.Test.YtdgcafohfedbhaaDoorPP
namespace Go.Proofs.YtdgcafohfedbhaaDoor.K
open Go.RowKit Go.Joins
set_option linter.unusedVariables false
set_option linter.unusedSimpArgs false

/-! ### plain: what was put is taken -/
theorem up_len (n : Nat) : (up n).length = len n := by
  unfold up
  rw [List.length_reverse, dg_length]
theorem nn_pos (n k : Nat) (hk : 0 < k) (hl : k < len n) : 0 < nn n k := by
  obtain ⟨j, rfl⟩ : ∃ j, k = j + 1 := ⟨k - 1, by omega⟩
  have h := nn_lt n j (by omega)
  have : ¬ nn n j < 128 := fun h' => by have := h.1 h'; omega
  rw [nn]
  omega
theorem nn_end (n : Nat) : nn n (len n) = 0 := by
  have hp := len_pos n
  have h := nn_lt n (len n - 1) (by omega)
  have h1 := h.2 (by omega)
  have e : len n = (len n - 1) + 1 := by omega
  rw [e, nn]
  omega
theorem scan_dg (n : Nat) (t : List Nat) (hn : len n ≤ 9) (k : Nat) (hk : k + 1 ≤ len n) : scan ((dg n (k + 1)).reverse ++ t) (len n - (k + 1)) (nn n (k + 1)) = (0, n, len n) := by
  induction k with
  | zero =>
    rw [dg_rev, List.cons_append, scan, if_neg (by simp [nn]; omega), if_pos (by simp [nn]; omega)]
    have e : nn n (0 + 1) * 128 + (nn n 0 % 128 + if 0 < 0 then 128 else 0) % 128 = n := by simp [nn]; omega
    rw [e, show len n - (0 + 1) + 1 = len n by omega]
  | succ k ih =>
    rw [dg_rev, if_pos (by omega), List.cons_append, scan]
    have hp := nn_pos n (k + 1) (by omega) (by omega)
    rw [if_neg ?_, if_neg (by omega)]
    · have e1 : nn n (k + 1 + 1) * 128 + (nn n (k + 1) % 128 + 128) % 128 = nn n (k + 1) := by rw [nn]; omega
      rw [e1, show len n - (k + 1 + 1) + 1 = len n - (k + 1) by omega]
      exact ih (by omega)
    · rintro (⟨h1, h2⟩ | h)
      · have := (nn_lt n (k + 1) (by omega)).2 (by omega)
        omega
      · omega
theorem scan_up (n : Nat) (t : List Nat) (hn : n < 9223372036854775808) : scan (up n ++ t) 0 0 = (0, n, len n) := by
  have h9 := len_le 8 n (by simp; omega)
  have hp := len_pos n
  have h := scan_dg n t h9 (len n - 1) (by omega)
  rw [show len n - 1 + 1 = len n by omega, nn_end, Nat.sub_self] at h
  exact h
theorem rest_up (n : Nat) (t : List Nat) (hn : n < 9223372036854775808) : rest (up n ++ t) = t := by
  unfold rest
  rw [scan_up n t hn]
  simp only [if_true]
  rw [← up_len n, List.drop_left]
theorem numS_up (n : Nat) (t : List Nat) (hn : n < 9223372036854775808) : numS (up n ++ t) 0 = (n, t, 0) := by
  unfold numS
  rw [if_pos rfl, scan_up n t hn, rest_up n t hn]
theorem upS_up (most : Int) (n : Nat) (t : List Nat) (hn : n < 9223372036854775808) (hm : (n : Int) ≤ most) : upS most (up n ++ t) 0 = (n, t, 0) := by
  unfold upS
  rw [numS_up n t hn, if_neg (by simp; omega)]
theorem textS_up (most : Int) (s t : List Nat) (hs : (s.length : Int) ≤ most) (h9 : s.length < 9223372036854775808) : textS most (up s.length ++ s ++ t) 0 = (s, t, 0) := by
  unfold textS
  rw [List.append_assoc, upS_up most s.length (s ++ t) h9 hs]
  simp [bytesS]
theorem up_oct (n : Nat) : Oct (up n) := by
  intro i x hx
  have hm : x ∈ up n := List.mem_of_getElem? hx
  unfold up at hm
  rw [List.mem_reverse] at hm
  have : ∀ k, ∀ y ∈ dg n k, y < 256 := by
    intro k
    induction k with
    | zero => intro y hy; simp [dg] at hy
    | succ k ih =>
      intro y hy
      rw [dg, List.mem_append] at hy
      rcases hy with hy | hy
      · exact ih y hy
      · simp at hy
        subst hy
        split <;> omega
  exact this _ x hm
end Go.Proofs.YtdgcafohfedbhaaDoor.K
