import Derived.Test.YtjalihmjgjajcaaG
namespace Go.Proofs.Ytjalihmjgjajcaa
open Go.RowKit Go.Joins

def ints (l : List Int) : List Value := l.map fun x => Value.int .i64 x
theorem ints_append (l m : List Int) : ints (l ++ m) = ints l ++ ints m := by simp [ints]
theorem info3 : (Try.prog.info? 3).map (fun i => (i.zero, i.size, i.bytes)) = some (some (.int .i64 0), 1, 8) := by kernel_rfl

/-! ### plain: letters, to whom number k was sent, how many letters bear it -/
def cnt (l : List LT) (k : Nat) : Int := (l.countP fun x => x.what == (k : Int) : Nat)
structure Inv (l : List LT) (T L : List Int) : Prop where
  len : T.length = L.length
  small : l.length ≤ 64
  sent : ∀ x ∈ l, ∃ k : Nat, x.what = k ∧ T[k]? = some x.to
  left : ∀ k, k < L.length → L[k]? = some (cnt l k)

theorem cnt_nil (k : Nat) : cnt [] k = 0 := rfl
theorem cnt_append (l m : List LT) (k : Nat) : cnt (l ++ m) k = cnt l k + cnt m k := by simp [cnt]
theorem cnt_one (x : LT) (k : Nat) : cnt [x] k = if x.what = k then 1 else 0 := by
  unfold cnt
  by_cases h : x.what = k <;> simp [h]
theorem cnt_le (l : List LT) (k : Nat) : 0 ≤ cnt l k ∧ cnt l k ≤ l.length := by
  unfold cnt
  have := List.countP_le_length (p := fun x : LT => x.what == (k : Int)) (l := l)
  omega

theorem Inv.nil : Inv [] [] [] := ⟨rfl, by simp, by simp, by simp⟩

theorem Inv.send {l : List LT} {T L : List Int} (h : Inv l T L) (hl : l.length < 64) (fr to : Int) : Inv (l ++ [⟨fr, to, T.length⟩]) (T ++ [to]) (L ++ [1]) := by
  refine ⟨by simp [h.len], by simp; omega, fun x hx => ?_, fun k hk => ?_⟩
  · simp only [List.mem_append, List.mem_singleton] at hx
    rcases hx with hx | rfl
    · obtain ⟨k, h1, h2⟩ := h.sent x hx
      have := (List.getElem?_eq_some_iff.1 h2).1
      exact ⟨k, h1, by rw [List.getElem?_append_left this]; exact h2⟩
    · exact ⟨T.length, rfl, by simp⟩
  · simp only [List.length_append, List.length_singleton] at hk
    rw [cnt_append, cnt_one]
    by_cases hkl : k < L.length
    · rw [List.getElem?_append_left hkl, h.left k hkl, if_neg (by simp; have := h.len; omega)]
      simp
    · have e : k = L.length := by omega
      subst e
      have hz : cnt l L.length = 0 := by
        unfold cnt
        have : l.countP (fun x => x.what == (L.length : Int)) = 0 := by
          rw [List.countP_eq_zero]
          intro x hx
          obtain ⟨k, h1, h2⟩ := h.sent x hx
          have := (List.getElem?_eq_some_iff.1 h2).1
          have := h.len
          simp [h1]; omega
        omega
      rw [hz, if_pos (by simp [h.len])]
      simp

theorem Inv.at {a b : List LT} {x : LT} {T L : List Int} (h : Inv (a ++ x :: b) T L) : ∃ k : Nat, x.what = k ∧ k < T.length ∧ T[k]? = some x.to ∧ k < L.length ∧ L[k]? = some (cnt (a ++ b) k + 1) ∧ 0 ≤ cnt (a ++ b) k ∧ cnt (a ++ b) k ≤ 64 := by
  obtain ⟨k, h1, h2⟩ := h.sent x (by simp)
  have hk := (List.getElem?_eq_some_iff.1 h2).1
  have hkl : k < L.length := by have := h.len; omega
  have hc := cnt_le (a ++ b) k
  have hs := h.small
  simp only [List.length_append, List.length_cons] at hs hc
  refine ⟨k, h1, hk, h2, hkl, ?_, hc.1, by omega⟩
  rw [h.left k hkl]
  have e : cnt (a ++ x :: b) k = cnt a k + (cnt [x] k + cnt b k) := by rw [← cnt_append, ← cnt_append]; rfl
  rw [e, cnt_one, if_pos h1, cnt_append]
  congr 1; omega

theorem cnt_cons_mid (a b : List LT) (x : LT) (k : Nat) : cnt (a ++ x :: b) k = cnt (a ++ b) k + if x.what = k then 1 else 0 := by
  have e : cnt (a ++ x :: b) k = cnt a k + (cnt [x] k + cnt b k) := by rw [← cnt_append, ← cnt_append]; rfl
  rw [e, cnt_one, cnt_append]; omega

theorem Inv.take {a b : List LT} {x : LT} {T L : List Int} (h : Inv (a ++ x :: b) T L) {k : Nat} (hk : x.what = k) : Inv (a ++ b) T (L.set k (cnt (a ++ b) k)) := by
  refine ⟨by simp [h.len], ?_, fun y hy => h.sent y ?_, fun j hj => ?_⟩
  · have := h.small; simp at this ⊢; omega
  · simp only [List.mem_append, List.mem_cons] at hy ⊢; rcases hy with hy | hy <;> simp [hy]
  · simp only [List.length_set] at hj
    rw [List.getElem?_set]
    by_cases hjk : k = j
    · subst hjk; simp [hj]
    · rw [if_neg hjk, h.left j hj, cnt_cons_mid, if_neg (by rw [hk]; omega)]; simp

theorem Inv.twice {a b : List LT} {x : LT} {T L : List Int} (h : Inv (a ++ x :: b) T L) (hl : (a ++ x :: b).length < 64) {k : Nat} (hk : x.what = k) : Inv ((a ++ x :: b) ++ [x]) T (L.set k (cnt (a ++ b) k + 1 + 1)) := by
  refine ⟨by simp [h.len], by simp at hl ⊢; omega, fun y hy => h.sent y ?_, fun j hj => ?_⟩
  · rcases List.mem_append.1 hy with hy | hy
    · exact hy
    · rw [List.mem_singleton.1 hy]; simp
  · simp only [List.length_set] at hj
    have e : cnt ((a ++ x :: b) ++ [x]) j = cnt (a ++ x :: b) j + cnt [x] j := cnt_append _ _ _
    rw [List.getElem?_set, e, cnt_one]
    by_cases hjk : k = j
    · subst hjk; rw [if_pos rfl, if_pos hj, if_pos hk, cnt_cons_mid, if_pos hk]
    · rw [if_neg hjk, h.left j hj, cnt_cons_mid, if_neg (by rw [hk]; omega)]; simp

/-! the sum in the end -/
def sumL (l : List Int) : Int := l.foldl (· + ·) 0
theorem sumL_snoc (l : List Int) (x : Int) : sumL (l ++ [x]) = sumL l + x := by simp [sumL]
theorem sum_cnt (l : List LT) (n : Nat) (h : ∀ x ∈ l, ∃ k : Nat, x.what = k ∧ k < n) : sumL ((List.range n).map fun k => cnt l k) = l.length := by
  induction l with
  | nil =>
    clear h
    induction n with
    | zero => rfl
    | succ n ih => rw [List.range_succ, List.map_append, List.map_singleton, sumL_snoc, ih]; rfl
  | cons x l ih =>
    have ih := ih (fun y hy => h y (by simp [hy]))
    obtain ⟨k, hk, hkn⟩ := h x (by simp)
    have one : ∀ m, sumL ((List.range m).map fun j => cnt (x :: l) j) = sumL ((List.range m).map fun j => cnt l j) + if k < m then 1 else 0 := by
      intro m
      induction m with
      | zero => rfl
      | succ m ihm =>
        rw [List.range_succ, List.map_append, List.map_append, List.map_singleton, List.map_singleton, sumL_snoc, sumL_snoc, ihm]
        have e : cnt (x :: l) m = cnt l m + if x.what = m then 1 else 0 := cnt_cons_mid [] l x m
        rw [e, hk]
        split <;> split <;> split <;> omega
    rw [one n, ih, if_pos hkn]
    simp
theorem Inv.sum {l : List LT} {T L : List Int} (h : Inv l T L) : sumL L = l.length := by
  have e : L = (List.range L.length).map fun k => cnt l k := by
    apply List.ext_getElem?
    intro j
    by_cases hj : j < L.length
    · rw [h.left j hj, List.getElem?_map, List.getElem?_range hj]; rfl
    · rw [List.getElem?_eq_none (by omega), List.getElem?_eq_none (by simp; omega)]
  rw [e]
  exact sum_cnt l _ fun x hx => by
    obtain ⟨k, h1, h2⟩ := h.sent x hx
    exact ⟨k, h1, by have := (List.getElem?_eq_some_iff.1 h2).1; have := h.len; omega⟩
theorem sum_take (L : List Int) (j : Nat) (hj : j < L.length) : sumL (L.take (j + 1)) = sumL (L.take j) + L[j] := by
  rw [List.take_succ_eq_append_getElem hj, sumL_snoc]
theorem Inv.sum_take_le {l : List LT} {T L : List Int} (h : Inv l T L) (j : Nat) (hj : j ≤ L.length) : 0 ≤ sumL (L.take j) ∧ sumL (L.take j) ≤ 64 * j := by
  induction j with
  | zero => simp [sumL]
  | succ j ih =>
    have ih := ih (by omega)
    rw [sum_take L j (by omega)]
    have hl := h.left j (by omega)
    rw [List.getElem?_eq_getElem (by omega)] at hl
    have hc := cnt_le l j
    have := h.small
    have e := Option.some.inj hl
    rw [e]; omega
end Go.Proofs.Ytjalihmjgjajcaa
