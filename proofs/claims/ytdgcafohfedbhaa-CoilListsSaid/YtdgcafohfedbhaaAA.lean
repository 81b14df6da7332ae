import Derived.Test.YtdgcafohfedbhaaYS
import Derived.Test.YtdgcafohfedbhaaYI
namespace Go.Proofs.Ytdgcafohfedbhaa
open Go.RowKit Go.Joins
set_option linter.unusedVariables false
set_option linter.unusedSimpArgs false

/-! ### plain: what is taken whole has just those bytes -/
/-- a number's digits, all marked -/
def mk (m : Nat) : List Nat := if m < 128 then [m + 128] else mk (m / 128) ++ [m % 128 + 128]
def dgM (m : Nat) : Nat → List Nat
  | 0 => []
  | k + 1 => dgM m k ++ [nn m k % 128 + 128]
theorem dgM_cons (m k : Nat) : dgM m (k + 1) = (m % 128 + 128) :: dgM (m / 128) k := by
  induction k with
  | zero => rfl
  | succ k ih => rw [dgM, ih, dgM, nn_succ]; rfl
theorem dg_cons (n k : Nat) : dg n (k + 1) = (n % 128) :: dgM (n / 128) k := by
  induction k with
  | zero => rfl
  | succ k ih => rw [dg, ih, dgM, nn_succ, if_pos (by omega)]; rfl
theorem mk_dgM (m : Nat) : mk m = (dgM m (len m)).reverse := by
  induction m using Nat.strongRecOn with
  | ind m ih =>
    rw [mk, len]
    split
    · rename_i h
      rw [dgM_cons]; simp [dgM]; omega
    · rename_i h
      rw [dgM_cons, List.reverse_cons, ih (m / 128) (by omega)]
theorem up_rec (n : Nat) : up n = if n < 128 then [n] else mk (n / 128) ++ [n % 128] := by
  unfold up
  rw [len]
  split
  · rename_i h
    rw [dg_cons]; simp [dgM]; omega
  · rename_i h
    rw [dg_cons, List.reverse_cons, mk_dgM]
theorem scan_inv_aux (l : List Nat) (i acc : Nat) (ho : Oct l) (hi : 0 < i) (ha : 0 < acc) (h : (scan l i acc).1 = 0) :
    mk acc ++ l = up (scan l i acc).2.1 ++ l.drop ((scan l i acc).2.2 - i) := by
  induction l generalizing i acc with
  | nil => simp [scan] at h
  | cons b r ih =>
    have hb := ho 0 b rfl
    rw [scan] at h ⊢
    split at h
    · simp at h
    · rename_i hn
      rw [if_neg hn]
      split at h
      · rename_i hb2
        rw [if_pos hb2]
        simp only
        rw [up_rec, if_neg (by omega), show (acc * 128 + b % 128) / 128 = acc by omega, show (acc * 128 + b % 128) % 128 = b by omega, show i + 1 - i = 1 by omega]
        simp
      · rename_i hb2
        rw [if_neg hb2]
        have h1 := ih (i + 1) (acc * 128 + b % 128) (ho.drop 1) (by omega) (by omega) h
        have hc := (scan_cnt r (i + 1) (acc * 128 + b % 128) h).1
        have e : mk (acc * 128 + b % 128) = mk acc ++ [b] := by
          rw [mk, if_neg (by omega), show (acc * 128 + b % 128) / 128 = acc by omega, show (acc * 128 + b % 128) % 128 + 128 = b by omega]
        rw [e] at h1
        rw [show (scan r (i + 1) (acc * 128 + b % 128)).2.2 - i = ((scan r (i + 1) (acc * 128 + b % 128)).2.2 - (i + 1)) + 1 by omega, List.drop_succ_cons]
        rw [← h1]
        simp
theorem scan_inv (l : List Nat) (ho : Oct l) (h : (scan l 0 0).1 = 0) : l = up (scan l 0 0).2.1 ++ rest l := by
  unfold rest
  rw [if_pos h]
  rcases l with _ | ⟨b, r⟩
  · simp [scan] at h
  · have hb := ho 0 b rfl
    rw [scan] at h ⊢
    split at h
    · simp at h
    · rename_i hn
      rw [if_neg hn]
      split at h
      · rename_i hb2
        rw [if_pos hb2]
        simp only
        rw [up_rec, if_pos (by omega), show 0 * 128 + b % 128 = b by omega]
        simp
      · rename_i hb2
        rw [if_neg hb2]
        have h1 := scan_inv_aux r 1 (0 * 128 + b % 128) (ho.drop 1) (by omega) (by omega) h
        have hc := (scan_cnt r 1 (0 * 128 + b % 128) h).1
        have e : mk (0 * 128 + b % 128) = [b] := by
          rw [mk, if_pos (by omega)]; congr 1; omega
        rw [e] at h1
        obtain ⟨c, hcc⟩ : ∃ c, (scan r 1 (0 * 128 + b % 128)).2.2 = c + 1 := ⟨(scan r 1 (0 * 128 + b % 128)).2.2 - 1, by omega⟩
        rw [Nat.zero_add, hcc, List.drop_succ_cons]
        rw [hcc, Nat.add_sub_cancel] at h1
        rw [← h1]
        simp
theorem upS_inv (most : Int) (bs : List Nat) (ho : Oct bs) (h : (upS most bs 0).2.2 = 0) : bs = up (upS most bs 0).1 ++ (upS most bs 0).2.1 ∧ ((upS most bs 0).1 : Int) ≤ most := by
  unfold upS at h ⊢
  split at h
  · simp at h
  · rename_i hn
    rw [if_neg hn]
    refine ⟨?_, by have := hn; omega⟩
    unfold numS at h ⊢
    rw [if_pos rfl] at h ⊢
    exact scan_inv bs ho h
theorem upS_le (most : Nat) (bs : List Nat) (ho : Oct bs) : (upS most bs 0).1 ≤ most := by
  rcases upS_code most bs 0 with h | h
  · have := (upS_inv most bs ho h).2
    omega
  · omega
theorem textS_inv (most : Int) (bs : List Nat) (ho : Oct bs) (h : (textS most bs 0).2.2 = 0) : bs = up (textS most bs 0).1.length ++ (textS most bs 0).1 ++ (textS most bs 0).2.1 := by
  unfold textS bytesS at h ⊢
  by_cases hc : (upS most bs 0).2.2 = 0
  · have hi := (upS_inv most bs ho hc).1
    rw [if_pos hc] at h ⊢
    split at h
    · rename_i hn
      rw [if_pos hn]
      simp only
      rw [List.length_take, Nat.min_eq_left hn, List.append_assoc, List.take_append_drop]
      exact hi
    · simp at h
  · rw [if_neg hc] at h
    exact absurd h hc
theorem oneS_inv (bs : List Nat) (ho : Oct bs) (h : (oneS bs).2.2 = 0) : bs = enc (oneS bs).1 ++ (oneS bs).2.1 := by
  have := textS_inv 300 bs ho h
  unfold oneS enc
  simp only
  rw [strOf_size, bsOf_strOf (textS_oct ho).1]
  exact this
theorem goS_inv (k : Nat) (bs : List Nat) (acc L : List ByteArray) (ho : Oct bs) (h : goT oneS k bs acc = (L, [], 0)) : ∃ M, L = acc ++ M ∧ M.length = k ∧ bs = S.ens M := by
  induction k generalizing bs acc with
  | zero =>
    rw [goT] at h
    cases h
    exact ⟨[], by simp, rfl, rfl⟩
  | succ k ih =>
    rw [goT] at h
    split at h
    · rename_i hc
      obtain ⟨M, h1, h2, h3⟩ := ih _ _ (oneS_ok ho).1 h
      refine ⟨(oneS bs).1 :: M, by rw [h1]; simp, by simp [h2], ?_⟩
      rw [show S.ens ((oneS bs).1 :: M) = enc (oneS bs).1 ++ S.ens M by simp [S.ens], ← h3]
      exact oneS_inv bs ho hc
    · rename_i hc
      simp only [Prod.mk.injEq] at h
      exact absurd h.2.2 hc
theorem takeS_inv (most : Int) (bs : List Nat) (L : List ByteArray) (ho : Oct bs) (h : takeT oneS most bs = (L, [], 0)) : bs = up L.length ++ S.ens L := by
  unfold takeT at h
  split at h
  · rename_i hc
    obtain ⟨M, h1, h2, h3⟩ := goS_inv _ _ _ _ (upS_oct ho) h
    have := (upS_inv most bs ho hc).1
    rw [List.nil_append] at h1
    subst h1
    rw [h2, ← h3]
    exact this
  · rename_i hc
    simp only [Prod.mk.injEq] at h
    exact absurd h.2.2 hc
end Go.Proofs.Ytdgcafohfedbhaa
