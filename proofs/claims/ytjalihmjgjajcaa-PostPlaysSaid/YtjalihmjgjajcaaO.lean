import Derived.Test.YtjalihmjgjajcaaN
namespace Go.Proofs.Ytjalihmjgjajcaa.S
open Go.RowKit Go.Joins
open Go.Proofs.Ytjalihmjgjajcaa (Touch below_blk own_below plN plN_lt plN_eq ret_ib block_setCells below_cells take_of_get cell_block)

theorem setCell_self {w : World} {g i : Nat} {cs : Array Value} {t : TypeId} {fr : Nat × Nat} {v : Value} (h : w.heap[g]? = some (.cells cs t fr)) (hv : cs[i]? = some v) : w.setCell ⟨g, i, none⟩ v = w := by
  have hh : (w.setCell ⟨g, i, none⟩ v).heap = w.heap := by
    apply Array.ext_getElem?
    intro j
    by_cases e : j = g
    · subst e
      rw [block_setCell h v, h]
      have : cs.setIfInBounds i v = cs := by
        apply Array.ext_getElem?
        intro k
        rw [Array.getElem?_setIfInBounds]
        split
        · rename_i e; subst e
          rw [hv]; split
          · rfl
          · rename_i hn
            rw [Array.getElem?_eq_none (by omega)] at hv; cases hv
        · rfl
      rw [this]
    · exact Below.heap_setCell _ _ _ _ e
  have : w.setCell ⟨g, i, none⟩ v = { w with heap := (w.setCell ⟨g, i, none⟩ v).heap } := rfl
  rw [this, hh]

def HG (b12 b11 b9 b5 g tn capt k i gl ln capl bx : Nat) (a b : Int) (c : ByteArray) (W : World) : Prop :=
  W.cell? ⟨b12, 0, none⟩ = some (.bool true) ∧ W.cell? ⟨b11, 0, none⟩ = some (.int .i64 (k : Int)) ∧ W.cell? ⟨b9, 0, none⟩ = some (.slice (some ⟨g, 0, none⟩) tn capt) ∧ W.cell? ⟨g, k, none⟩ = some (.int .i64 (i : Int)) ∧
  W.cell? ⟨b5, 0, none⟩ = some (.slice (some ⟨gl, 0, none⟩) ln capl) ∧ W.cell? ⟨gl, i * 3, none⟩ = some (.int .i64 a) ∧ W.cell? ⟨gl, i * 3 + 1, none⟩ = some (.int .i64 b) ∧ W.cell? ⟨gl, i * 3 + 2, none⟩ = some (.string c) ∧
  W.cell? ⟨bx, 0, none⟩ = some (.int .i64 a) ∧ W.cell? ⟨bx, 1, none⟩ = some (.int .i64 b) ∧ W.cell? ⟨bx, 2, none⟩ = some (.string c)

set_option maxRecDepth 100000 in
set_option maxHeartbeats 8000000 in
theorem f33_any (b12 b11 b9 b5 b7 g tn capt k i gl ln capl : Nat) (x : LT) (m : Int) (w : World) (hk : k < tn) (hi : i < ln) (hk1 : k ≤ 100) (hi1 : i ≤ 100)
    (hok : w.heap[b12]? = some (.cells #[.bool true] 4 (0, 0))) (hn : w.heap[b11]? = some (.cells #[.int .i64 (k : Int)] 3 (0, 0)))
    (hat : w.cell? ⟨b9, 0, none⟩ = some (.slice (some ⟨g, 0, none⟩) tn capt)) (hatk : w.cell? ⟨g, k, none⟩ = some (.int .i64 (i : Int)))
    (hl : w.cell? ⟨b5, 0, none⟩ = some (.slice (some ⟨gl, 0, none⟩) ln capl)) (hl0 : w.cell? ⟨gl, i * 3, none⟩ = some (.int .i64 x.fr)) (hl1 : w.cell? ⟨gl, i * 3 + 1, none⟩ = some (.int .i64 x.to)) (hl2 : w.cell? ⟨gl, i * 3 + 2, none⟩ = some (.string x.what))
    (hm : w.cell? ⟨b7, 0, none⟩ = some (.int .i64 m)) (n1 : b12 ≠ b11) (n2 : b7 ≠ b11) :
    Calls Try.prog 33 #[.int .i64 (i : Int), lv x, .pointer (some ⟨b12, 0, none⟩), .pointer (some ⟨b11, 0, none⟩), .pointer (some ⟨b9, 0, none⟩), .pointer (some ⟨b5, 0, none⟩), .pointer (some ⟨b7, 0, none⟩)] w fun e w' =>
      e = .returned (.bool (decide ((k : Int) + 1 < m))) ∧ w'.heap[b11]? = some (.cells #[.int .i64 ((k : Int) + 1)] 3 (0, 0)) ∧ Touch b11 w w' := by
  obtain ⟨xf, xt, xw⟩ := x
  simp only [lv] at hl0 hl1 hl2 ⊢
  have HA := Lib.hid ((Below.refl w.heap.size w).alloc (Nat.le_refl _) (.cells #[.int .i64 xf, .int .i64 xt, .string xw] 48))
  have below_cell : ∀ {q : Addr} {u : Value}, w.cell? q = some u → (w.alloc (.cells #[.int .i64 xf, .int .i64 xt, .string xw] 48)).cell? q = some u := fun {q u} h => by rw [HA.out.cell (cell_block h)]; exact h
  have o0 : w.cell? ⟨b12, 0, none⟩ = some (.bool true) := by simp [World.cell?, hok]
  have o1 : w.frozen? ⟨b12, 0, none⟩ = false := by simp [World.frozen?, hok]
  have c0 : w.cell? ⟨b11, 0, none⟩ = some (.int .i64 (k : Int)) := by simp [World.cell?, hn]
  have c1 : w.frozen? ⟨b11, 0, none⟩ = false := by simp [World.frozen?, hn]
  have h12 : b12 < w.heap.size := (Array.getElem?_eq_some_iff.1 hok).1
  have h11 : b11 < w.heap.size := (Array.getElem?_eq_some_iff.1 hn).1
  have e1 : (w.alloc (.cells #[.int .i64 xf, .int .i64 xt, .string xw] 48)).cell? ⟨w.heap.size, 0, none⟩ = some (.int .i64 xf) := by simp
  have e2 : (w.alloc (.cells #[.int .i64 xf, .int .i64 xt, .string xw] 48)).cell? ⟨w.heap.size, 1, none⟩ = some (.int .i64 xt) := by simp
  have e3 : (w.alloc (.cells #[.int .i64 xf, .int .i64 xt, .string xw] 48)).cell? ⟨w.heap.size, 2, none⟩ = some (.string xw) := by simp
  have HS := Lib.hid (setCell_self (i := 0) (v := .bool true) hok rfl)
  have HK0 : Hid (HG b12 b11 b9 b5 g tn capt k i gl ln capl w.heap.size xf xt xw (w.alloc (.cells #[.int .i64 xf, .int .i64 xt, .string xw] 48)).drew) :=
    ⟨below_cell o0, below_cell c0, below_cell hat, below_cell hatk, below_cell hl, below_cell hl0, below_cell hl1, below_cell hl2, e1, e2, e3⟩
  have HK2 : Hid (HG b12 b11 b9 b5 g tn capt k i gl ln capl w.heap.size xf xt xw ((w.setCell ⟨b12, 0, none⟩ (.bool true)).alloc (.cells #[.int .i64 xf, .int .i64 xt, .string xw] 48)).drew) := by rw [HS.out]; exact HK0.out
  have HL := Lib.hid (⟨hok, hn, hm⟩ : _ ∧ _ ∧ _)
  have i1 : (0 : Int) ≤ (k : Int) := by omega
  have i2 : (k : Int) < (tn : Int) := by omega
  have i3 : (0 : Int) ≤ (i : Int) := by omega
  have i4 : (i : Int) < (ln : Int) := by omega
  have q := eqlL xf xt xw
  clear hok hn hm hat hatk hl hl0 hl1 hl2 e1 e2 e3 below_cell
  go_enter Try.func33, Try.ntmps33
  go_wp2_with fail
  go_region_held3 (fun W => W.cell? ⟨b12, 0, none⟩ = some (.bool true) ∧ W.cell? ⟨b11, 0, none⟩ = some (.int .i64 (k : Int)) ∧ W.cell? ⟨b9, 0, none⟩ = some (.slice (some ⟨g, 0, none⟩) tn capt) ∧ W.cell? ⟨g, k, none⟩ = some (.int .i64 (i : Int)) ∧
    W.cell? ⟨b5, 0, none⟩ = some (.slice (some ⟨gl, 0, none⟩) ln capl) ∧ W.cell? ⟨gl, i * 3, none⟩ = some (.int .i64 xf) ∧ W.cell? ⟨gl, i * 3 + 1, none⟩ = some (.int .i64 xt) ∧ W.cell? ⟨gl, i * 3 + 2, none⟩ = some (.string xw) ∧
    W.cell? ⟨w.heap.size, 0, none⟩ = some (.int .i64 xf) ∧ W.cell? ⟨w.heap.size, 1, none⟩ = some (.int .i64 xt) ∧ W.cell? ⟨w.heap.size, 2, none⟩ = some (.string xw)) (first | exact HK0.out | exact HK2.out) (fail)
  rw [HS.out]
  have HB2 := Lib.hid HA.out.drew
  obtain ⟨w2, hw2⟩ : ∃ w2, w2 = (w.alloc (.cells #[.int .i64 xf, .int .i64 xt, .string xw] 48)).drew := ⟨_, rfl⟩
  have hb2 : w2.heap[b11]? = some (.cells #[.int .i64 (k : Int)] 3 (0, 0)) := by rw [hw2]; exact below_blk HB2.out HL.out.2.1
  have hk2 : w2.heap[b12]? = some (.cells #[.bool true] 4 (0, 0)) := by rw [hw2]; exact below_blk HB2.out HL.out.1
  have hm2 : w2.cell? ⟨b7, 0, none⟩ = some (.int .i64 m) := by rw [hw2, HB2.out.cell (cell_block HL.out.2.2)]; exact HL.out.2.2
  have HBw : Hid (Below w.heap.size w w2) := by rw [hw2]; exact HB2.out
  rw [← hw2]
  clear hw2 HB2 o0 o1 c0 c1 HK0 HK2 HL HS HA
  rename_i hh
  clear hh
  have c0 : w2.cell? ⟨b11, 0, none⟩ = some (.int .i64 (k : Int)) := by simp [World.cell?, hb2]
  have c1 : w2.frozen? ⟨b11, 0, none⟩ = false := by simp [World.frozen?, hb2]
  have o0 : w2.cell? ⟨b12, 0, none⟩ = some (.bool true) := by simp [World.cell?, hk2]
  have HX := Lib.hid hb2
  have n3 : ¬ b11 = b12 := fun e => n1 e.symm
  have n4 : ¬ b11 = b7 := fun e => n2 e.symm
  clear hb2 hk2
  go_wp2
  go_ret
  refine ⟨rfl, ?_, (Touch.of_below HBw.out b11).set_ 0 _⟩
  have := block_setCell (i := 0) HX.out (.int .i64 ((k : Int) + 1))
  simpa using this
end Go.Proofs.Ytjalihmjgjajcaa.S
