import Derived.Test.YtdgcafohfedbhaaDoorPB
namespace Go.Proofs.YtdgcafohfedbhaaDoor.K
open Go.RowKit Go.Joins

def byts (l : List Nat) : List Value := l.map fun (b : Nat) => Value.int .u8 (b : Int)
theorem byts_length (l : List Nat) : (byts l).length = l.length := by simp [byts]
theorem byts_get {l : List Nat} {k x : Nat} (h : l[k]? = some x) : (byts l)[k]? = some (.int .u8 (x : Int)) := by simp [byts, h]
theorem byts_append (a b : List Nat) : byts (a ++ b) = byts a ++ byts b := by simp [byts]
theorem byts_set (l : List Nat) (i y : Nat) : byts (l.set i y) = (byts l).set i (.int .u8 (y : Int)) := by simp [byts, List.map_set]
theorem byts_one (l : List Nat) : ∀ u ∈ byts l, u.oneCell' = true := by
  intro u hu
  simp only [byts, List.mem_map] at hu
  obtain ⟨b, _, rfl⟩ := hu
  rfl
/-- i swaps were made -/
def rv (l : List Nat) (i : Nat) : List Nat := (List.range l.length).map fun j => if j < i ∨ l.length ≤ j + i then l.getD (l.length - 1 - j) 0 else l.getD j 0
theorem rv_length (l : List Nat) (i : Nat) : (rv l i).length = l.length := by simp [rv]
theorem rv_get (l : List Nat) (i j : Nat) (h : j < l.length) : (rv l i)[j]? = some (if j < i ∨ l.length ≤ j + i then l.getD (l.length - 1 - j) 0 else l.getD j 0) := by
  simp [rv, h]
theorem getD_get {l : List Nat} {j : Nat} (h : j < l.length) : l[j]? = some (l.getD j 0) := by simp [List.getD_eq_getElem?_getD, h]
theorem rv_zero (l : List Nat) : rv l 0 = l := by
  apply List.ext_getElem?
  intro j
  rcases Nat.lt_or_ge j l.length with h | h
  · rw [rv_get l 0 j h, if_neg (by omega), getD_get h]
  · rw [List.getElem?_eq_none (by rw [rv_length]; exact h), List.getElem?_eq_none h]
theorem rv_end (l : List Nat) (i : Nat) (h : l.length ≤ i + i + 1) : rv l i = l.reverse := by
  apply List.ext_getElem?
  intro j
  rcases Nat.lt_or_ge j l.length with hj | hj
  · rw [rv_get l i j hj, List.getElem?_reverse hj, getD_get (by omega)]
    split
    · rfl
    · rename_i hc
      rw [show l.length - 1 - j = j by omega]
  · rw [List.getElem?_eq_none (by rw [rv_length]; exact hj), List.getElem?_eq_none (by simpa using hj)]
theorem rv_succ (l : List Nat) (i : Nat) (h : i + i + 1 < l.length) : rv l (i + 1) = ((rv l i).set i (l.getD (l.length - 1 - i) 0)).set (l.length - 1 - i) (l.getD i 0) := by
  apply List.ext_getElem?
  intro j
  rcases Nat.lt_or_ge j l.length with hj | hj
  · rw [rv_get l (i + 1) j hj, List.getElem?_set, List.getElem?_set]
    simp only [List.length_set, rv_length]
    by_cases e1 : l.length - 1 - i = j
    · rw [if_pos e1, if_pos (by omega), if_pos (by omega), show l.length - 1 - j = i by omega]
    · rw [if_neg e1]
      by_cases e2 : i = j
      · rw [if_pos e2, if_pos (by omega), if_pos (by omega), e2]
      · rw [if_neg e2, rv_get l i j hj]
        by_cases c : j < i ∨ l.length ≤ j + i
        · rw [if_pos c, if_pos (by omega)]
        · rw [if_neg c, if_neg (by omega)]
  · rw [List.getElem?_eq_none (by rw [rv_length]; exact hj), List.getElem?_eq_none (by simp [rv_length]; exact hj)]

/-- a row of one's own, one cell of which is written -/
theorem own_set {w : World} {B e g n cap : Nat} {xs : List Value} (h : w.ownsRow B e 1 (.slice (some ⟨g, 0, none⟩) n cap) n xs) (k : Nat) (u : Value) : (w.setCell ⟨g, k, none⟩ u).ownsRow B e 1 (.slice (some ⟨g, 0, none⟩) n cap) n (xs.set k u) := by
  refine ⟨by rw [List.length_set]; exact h.1, .inr ?_⟩
  rcases h.2 with ⟨e0, _⟩ | ⟨g', cap', cur, e0, hg, hh, h1, h2, h3, h4⟩
  · cases e0
  · simp only [Value.slice.injEq, Option.some.injEq, Addr.mk.injEq, and_true, true_and] at e0
    obtain ⟨rfl, rfl⟩ := e0
    refine ⟨g, cap, cur.setIfInBounds k u, rfl, hg, block_setCell hh u, h1, h2, by simpa using h3, ?_⟩
    rw [← h4, Array.toList_setIfInBounds, List.take_set]
theorem own_free {w : World} {B e s g n cap : Nat} {xs : List Value} (h : w.ownsRow B e s (.slice (some ⟨g, 0, none⟩) n cap) n xs) (k : Nat) : w.frozen? ⟨g, k, none⟩ = false := by
  rcases h.2 with ⟨e0, _⟩ | ⟨g', cap', cur, e0, _, hh, _⟩
  · cases e0
  · simp only [Value.slice.injEq, Option.some.injEq, Addr.mk.injEq, and_true, true_and] at e0
    obtain ⟨rfl, rfl⟩ := e0
    simp [World.frozen?, hh]

set_option maxHeartbeats 8000000 in
/-- slices.Reverse, of bytes -/
theorem reverse_any (B g cap : Nat) (l : List Nat) (w : World) (hn : l.length ≤ 100) (hp : 0 < l.length) (ho : w.ownsRow B 5 1 (.slice (some ⟨g, 0, none⟩) l.length cap) l.length (byts l)) :
    Calls Tryd.prog 33 #[.slice (some ⟨g, 0, none⟩) l.length cap] w fun e w' => e = .returned (.tuple #[]) ∧ w'.ownsRow B 5 1 (.slice (some ⟨g, 0, none⟩) l.length cap) l.length (byts l.reverse) ∧ Touch g w w' := by
  have HO := Lib.hid ho
  clear ho
  go_enter Tryd.func33, Tryd.ntmps33
  go_wp2_with fail
  go_loopw [2, 3] (fun lo hi wr => ∃ i : Nat, i + i ≤ l.length ∧ lo = .int .i64 i ∧ hi = .int .i64 ((l.length - 1 - i : Nat) : Int) ∧ wr.ownsRow B 5 1 (.slice (some ⟨g, 0, none⟩) l.length cap) l.length (byts (rv l i)) ∧ Touch g w wr) (fun lo _ _ => l.length - (intOf lo).toNat)
  case atStart => exact ⟨0, by omega, rfl, by go_num, by rw [rv_zero]; exact HO.out, Touch.refl _ _⟩
  case round =>
    obtain ⟨i, hi, rfl, rfl, hr, ht⟩ := hrel
    have HR := Lib.hid (⟨hr, ht⟩ : _ ∧ _)
    by_cases hlt : i + i + 1 < l.length
    · have a0 := rv_get l i i (by omega)
      rw [if_neg (by omega)] at a0
      have a1 := rv_get l i (l.length - 1 - i) (by omega)
      rw [if_neg (by omega)] at a1
      have c0 := (hr.cellAt i (by omega)).trans (byts_get a0)
      have c1 := (hr.cellAt (l.length - 1 - i) (by omega)).trans (byts_get a1)
      have f := own_free hr
      have HS := Lib.hid (own_set (own_set hr i (.int .u8 (l.getD (l.length - 1 - i) 0 : Nat))) (l.length - 1 - i) (.int .u8 (l.getD i 0 : Nat)))
      have HE : Hid ((rv l (i + 1)) = ((rv l i).set i (l.getD (l.length - 1 - i) 0)).set (l.length - 1 - i) (l.getD i 0)) := rv_succ l i hlt
      clear hr ht a0 a1
      generalize hk : l.length - 1 - i = k at *
      generalize l.getD k 0 = y at *
      generalize l.getD i 0 = x at *
      have HK := Lib.hid hk
      have k1 : (i : Int) < (k : Int) := by omega
      have k2 : (k : Int) < (l.length : Int) := by omega
      have k3 : (0 : Int) ≤ (k : Int) := by omega
      have k4 : (0 : Int) ≤ (i : Int) := by omega
      have k5 : (i : Int) < (l.length : Int) := by omega
      have n1 : ¬ i = k := by omega
      have n2 : ¬ k = i := by omega
      clear hk
      go_wp2_with fail
      go_region_with fail
      all_goals
        go_wp2
        refine ⟨⟨i + 1, by omega, by go_num, congrArg (Value.int .i64) (by have := HK.out; omega), ?_, ?_⟩, by simp [intOf]; omega⟩
        · rw [HE.out, byts_set, byts_set]; exact HS.out
        · exact ((HR.out.2.set_ _ _).set_ _ _).drew
    · clear hr ht
      go_wp2
      go_end0
      refine ⟨rfl, ?_, HR.out.2⟩
      rw [← rv_end l i (by omega)]; exact HR.out.1
end Go.Proofs.YtdgcafohfedbhaaDoor.K
