import Derived.Test.YtdgcafohfedbhaaDoorG
namespace Go.Proofs.YtdgcafohfedbhaaDoor.T
open Go.RowKit Go.Joins
open Go.Proofs.YtdgcafohfedbhaaDoor.K
set_option linter.unusedVariables false
set_option linter.unusedSimpArgs false

/-! ### plain: a frame, a torn frame, a frame that was taken -/
theorem drop4 (n : Nat) (t : List Nat) : (hd4 n ++ t).drop 4 = t := rfl
theorem oneP_frame (bs t : List Nat) (hl : bs.length ≤ 200000) : oneP (frm bs ++ t) = (bs, (frm bs).length, 0) := by
  have hlen := frm_len bs
  have e1 : frm bs ++ t = hd4 (csN (encN bs)) ++ (up bs.length ++ bs ++ t) := by simp [frm, encN]
  have hT : textS 200000 ((frm bs ++ t).drop 4) 0 = (bs, t, 0) := by
    rw [e1, drop4]
    exact textS_up 200000 bs t (by omega) (by omega)
  unfold oneP
  rw [if_neg (by rw [List.length_append]; omega), hT, if_neg (by simp)]
  have e2 : (frm bs ++ t).length - t.length = (frm bs).length := by rw [List.length_append]; omega
  simp only
  rw [e2, List.take_left]
  have e3 : (frm bs).drop 4 = encN bs := rfl
  have e4 : tld (frm bs ++ t) = csN (encN bs) := by
    rw [e1]
    exact tld_hd _ _ (csN_lt _)
  rw [e3, e4, if_neg (by simp)]
theorem scan_append (l t : List Nat) (i acc : Nat) (h : (scan l i acc).1 ≠ 17) : scan (l ++ t) i acc = scan l i acc := by
  induction l generalizing i acc with
  | nil => simp [scan] at h
  | cons b r ih =>
    rw [List.cons_append, scan]
    rw [scan] at h ⊢
    split
    · rfl
    · rename_i hn
      rw [if_neg hn] at h
      split
      · rfl
      · rename_i hb
        rw [if_neg hb] at h
        exact ih _ _ h
theorem scan_up_torn (n j : Nat) (hn : n < 9223372036854775808) (hj : j < (up n).length) : (scan ((up n).take j) 0 0).1 = 17 := by
  rcases Decidable.em ((scan ((up n).take j) 0 0).1 = 17) with h | h
  · exact h
  · have h1 := scan_append _ ((up n).drop j) 0 0 h
    rw [List.take_append_drop] at h1
    have h2 := scan_up n [] hn
    rw [List.append_nil] at h2
    rw [h2] at h1
    have h3 := (scan_cnt ((up n).take j) 0 0 (by rw [← h1])).2
    rw [← h1] at h3
    simp only at h3
    rw [List.length_take] at h3
    rw [up_len] at hj h3
    omega
theorem textS_torn (bs : List Nat) (j : Nat) (hl : bs.length ≤ 200000) (hj : j < (encN bs).length) : (textS 200000 ((encN bs).take j) 0).2.2 = 17 := by
  unfold encN at hj ⊢
  rw [List.length_append] at hj
  by_cases h : j < (up bs.length).length
  · have h1 := scan_up_torn bs.length j (by omega) h
    rw [List.take_append_of_le_length (by omega)]
    have h2 : (upS 200000 ((up bs.length).take j) 0).2.2 = 17 := by
      unfold upS numS
      rw [if_pos rfl, if_neg (by simp [h1])]
      exact h1
    unfold textS bytesS
    rw [h2, if_neg (by decide)]
  · rw [List.take_append, List.take_of_length_le (by omega)]
    have h1 := upS_up 200000 bs.length (bs.take (j - (up bs.length).length)) (by omega) (by omega)
    unfold textS
    rw [h1]
    unfold bytesS
    simp only [if_true]
    rw [if_neg (by rw [List.length_take]; omega)]
theorem oneP_torn (bs : List Nat) (k : Nat) (hl : bs.length ≤ 200000) (hk : k < (frm bs).length) : oneP ((frm bs).take k) = ([], 0, 17) := by
  unfold oneP
  by_cases h4 : ((frm bs).take k).length < 4
  · rw [if_pos h4]
  · rw [if_neg h4]
    have e : ((frm bs).take k).drop 4 = (encN bs).take (k - 4) := by
      rw [List.drop_take]; rfl
    rw [List.length_take] at h4
    have := textS_torn bs (k - 4) hl (by
      have : (frm bs).length = 4 + (encN bs).length := by simp [frm, hd4]; omega
      omega)
    rw [e, this, if_pos (by decide)]
theorem oneP_nil : oneP [] = ([], 0, 17) := rfl
/-- what a frame that was taken says of its bytes -/
theorem oneP_inv (x : List Nat) (ho : Oct x) (h : (oneP x).2.2 = 0) : ∃ rs, x = x.take 4 ++ (up (oneP x).1.length ++ (oneP x).1) ++ rs ∧ (oneP x).1.length ≤ 200000 ∧ (oneP x).2.1 = 4 + (up (oneP x).1.length ++ (oneP x).1).length ∧ csN (up (oneP x).1.length ++ (oneP x).1) = tld x ∧ 4 ≤ x.length := by
  unfold oneP at h ⊢
  split at h
  · simp at h
  · rename_i h4
    rw [if_neg h4]
    split at h
    · rename_i hf
      exact absurd h hf
    · rename_i hf
      have hf0 : (textS 200000 (x.drop 4) 0).2.2 = 0 := Decidable.not_not.1 hf
      rw [if_neg hf]
      split at h
      · simp at h
      · rename_i hc
        rw [if_neg hc]
        have hi := textS_inv 200000 (x.drop 4) (ho.drop 4) hf0
        have hle : (textS 200000 (x.drop 4) 0).1.length ≤ 200000 := by
          have hcode : (upS 200000 (x.drop 4) 0).2.2 = 0 := by
            rcases Decidable.em ((upS 200000 (x.drop 4) 0).2.2 = 0) with e | e
            · exact e
            · have : (textS 200000 (x.drop 4) 0).2.2 = (upS 200000 (x.drop 4) 0).2.2 := by unfold textS bytesS; rw [if_neg e]
              rw [hf0] at this
              exact absurd this.symm e
          have h1 := (upS_inv 200000 (x.drop 4) (ho.drop 4) hcode).2
          unfold textS bytesS
          rw [if_pos hcode]
          split
          · rw [List.length_take]; omega
          · simp
        generalize textS 200000 (x.drop 4) 0 = q at *
        obtain ⟨p, rs, f⟩ := q
        simp only at hi hle hc ⊢
        have hx : x = x.take 4 ++ (up p.length ++ p) ++ rs := by
          have := List.take_append_drop 4 x
          rw [hi] at this
          rw [List.append_assoc]
          exact this.symm
        have hlen : x.length = 4 + (up p.length ++ p).length + rs.length := by
          have := congrArg List.length hx
          rw [List.length_append, List.length_append, List.length_take] at this
          omega
        refine ⟨rs, hx, hle, by omega, ?_, by omega⟩
        have e1 : (x.take (x.length - rs.length)).drop 4 = up p.length ++ p := by
          rw [List.drop_take, hi]
          rw [show x.length - rs.length - 4 = (up p.length ++ p).length by omega]
          exact List.take_left
        rw [e1] at hc
        exact Decidable.not_not.1 hc
theorem tld_take (x y : List Nat) (h : 4 ≤ x.length) : tld (x.take 4 ++ y) = tld x := by
  obtain ⟨b0, b1, b2, b3, t, rfl⟩ := four (show ¬ x.length < 4 by omega)
  rfl
/-- a frame that was taken hangs on its own bytes alone -/
theorem oneP_prefix (x y : List Nat) (ho : Oct x) (h : (oneP x).2.2 = 0) : oneP (x.take (oneP x).2.1 ++ y) = oneP x := by
  obtain ⟨rs, hx, hle, hsz, hcs, h4⟩ := oneP_inv x ho h
  have hq : oneP x = ((oneP x).1, (oneP x).2.1, 0) := by rw [← h]
  generalize (oneP x).1 = p at *
  have ht : x.take (oneP x).2.1 = x.take 4 ++ (up p.length ++ p) := by
    have h1 : (x.take 4 ++ (up p.length ++ p)).length = (oneP x).2.1 := by rw [List.length_append, List.length_take]; omega
    rw [← h1]
    have h2 := List.take_left (l₁ := x.take 4 ++ (up p.length ++ p)) (l₂ := rs)
    rw [← hx] at h2
    exact h2
  rw [ht, hq]
  have hd : (x.take 4 ++ (up p.length ++ p) ++ y).drop 4 = up p.length ++ p ++ y := by
    rw [List.append_assoc, List.drop_left' (by rw [List.length_take]; omega)]
  have hT : textS 200000 ((x.take 4 ++ (up p.length ++ p) ++ y).drop 4) 0 = (p, y, 0) := by
    rw [hd]
    exact textS_up 200000 p y (by omega) (by omega)
  have hl : (x.take 4 ++ (up p.length ++ p) ++ y).length = 4 + (up p.length ++ p).length + y.length := by
    rw [List.length_append, List.length_append, List.length_take]; omega
  rw [oneP, if_neg (by omega), hT, if_neg (by simp)]
  simp only
  rw [show (x.take 4 ++ (up p.length ++ p) ++ y).length - y.length = (oneP x).2.1 by omega]
  have e1 : ((x.take 4 ++ (up p.length ++ p) ++ y).take (oneP x).2.1).drop 4 = up p.length ++ p := by
    rw [List.drop_take, hd, show (oneP x).2.1 - 4 = (up p.length ++ p).length by omega]
    exact List.take_left
  rw [e1, hcs, List.append_assoc, tld_take x _ h4, if_neg (by simp)]
/-- of two rows of bytes that begin alike: the same frame -/
theorem oneP_same (x y : List Nat) (ho : Oct x) (h : (oneP x).2.2 = 0) (n : Nat) (hn : (oneP x).2.1 ≤ n) (he : x.take n = y.take n) : oneP y = oneP x := by
  have h1 := oneP_prefix x (y.drop (oneP x).2.1) ho h
  have h2 : x.take (oneP x).2.1 = y.take (oneP x).2.1 := by
    have := congrArg (List.take (oneP x).2.1) he
    rw [List.take_take, List.take_take, Nat.min_eq_left hn] at this
    exact this
  rw [h2, List.take_append_drop] at h1
  exact h1
end Go.Proofs.YtdgcafohfedbhaaDoor.T
