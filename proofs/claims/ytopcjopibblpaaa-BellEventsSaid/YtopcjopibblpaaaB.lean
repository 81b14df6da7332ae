import Derived.Test.YtopcjopibblpaaaA
namespace Go.Proofs.Ytopcjopibblpaaa
open Go.RowKit

def BellAt (w : World) (g : Nat) (a : AL) (st ag : Int) : Prop :=
  w.heap[g]? = some (.cells #[.int .i64 a.L, .bool a.A, .int .i64 a.R, .int .i64 a.F, .int .i64 st, .int .i64 ag] 60 (0, 0))
theorem BellAt.cell {w : World} {g : Nat} {a : AL} {st ag : Int} (h : BellAt w g a st ag) :
    (w.cell? ⟨g, 0, none⟩ = some (.int .i64 a.L) ∧ w.cell? ⟨g, 1, none⟩ = some (.bool a.A) ∧ w.cell? ⟨g, 2, none⟩ = some (.int .i64 a.R) ∧
     w.cell? ⟨g, 3, none⟩ = some (.int .i64 a.F) ∧ w.cell? ⟨g, 4, none⟩ = some (.int .i64 st) ∧ w.cell? ⟨g, 5, none⟩ = some (.int .i64 ag)) ∧ ∀ o, w.frozen? ⟨g, o, none⟩ = false := by
  unfold BellAt at h
  refine ⟨⟨?_, ?_, ?_, ?_, ?_, ?_⟩, ?_⟩
  all_goals first | (intro o; simp [World.frozen?, h]) | simp [World.cell?, h]
theorem BellAt.lt {w : World} {g : Nat} {a : AL} {st ag : Int} (h : BellAt w g a st ag) : g < w.heap.size := (Array.getElem?_eq_some_iff.1 h).1
theorem BellAt.set5 {w : World} {g : Nat} {a : AL} {st ag : Int} (h : BellAt w g a st ag) (v : Int) : BellAt (w.setCell ⟨g, 5, none⟩ (.int .i64 v)) g a st v := by
  unfold BellAt at *
  simp [World.setCell, Array.getElem?_modify, h]
theorem BellAt.set45 {w : World} {g : Nat} {a : AL} {st ag : Int} (h : BellAt w g a st ag) (u v : Int) : BellAt ((w.setCell ⟨g, 4, none⟩ (.int .i64 u)).setCell ⟨g, 5, none⟩ (.int .i64 v)) g a u v := by
  unfold BellAt at *
  simp [World.setCell, Array.getElem?_modify, h]

/-- what a bell does at a sum: its state, how many speak against it, whether it turned -/
def hearS (a : AL) (st ag n : Int) : Int × Int × Bool :=
  if (badB a n == (st == 2)) = true then (st, 0, false)
  else if wrap64 (ag + 1) < rowI a st then (st, wrap64 (ag + 1), false)
  else (wrap64 (3 - st), 0, true)

def Held6 (w0 W : World) (g : Nat) (a : AL) (st ag : Int) : Prop :=
  W.cell? ⟨g, 0, none⟩ = some (.int .i64 a.L) ∧ W.cell? ⟨g, 1, none⟩ = some (.bool a.A) ∧ W.cell? ⟨g, 2, none⟩ = some (.int .i64 a.R) ∧ W.cell? ⟨g, 3, none⟩ = some (.int .i64 a.F) ∧ W.cell? ⟨g, 4, none⟩ = some (.int .i64 st) ∧ W.cell? ⟨g, 5, none⟩ = some (.int .i64 ag) ∧ BellAt W g a st ag ∧ Below w0.heap.size w0 W
theorem Held6.of {w0 W : World} {g : Nat} {a : AL} {st ag : Int} (h : BellAt W g a st ag) (hB : Below w0.heap.size w0 W) : Held6 w0 W g a st ag := by
  obtain ⟨⟨c0, c1, c2, c3, c4, c5⟩, _⟩ := h.cell
  exact ⟨c0, c1, c2, c3, c4, c5, h, hB⟩
theorem Held6.keep {w0 W W' : World} {g : Nat} {a : AL} {st ag : Int} (h : Held6 w0 W g a st ag) (hB : Below W.heap.size W W') : Held6 w0 W' g a st ag :=
  Held6.of (below_blk hB h.2.2.2.2.2.2.1) (h.2.2.2.2.2.2.2.trans (hB.mono h.2.2.2.2.2.2.2.size))

set_option maxRecDepth 100000 in
set_option maxHeartbeats 4000000 in
theorem hear_any (g : Nat) (L R F st ag n : Int) (A : Bool) (w : World) (h : BellAt w g ⟨L, A, R, F⟩ st ag) :
    Calls Try.prog 10 #[.pointer (some ⟨g, 0, none⟩), .int .i64 n] w fun e w' =>
      e = .returned (.bool (hearS ⟨L, A, R, F⟩ st ag n).2.2) ∧ BellAt w' g ⟨L, A, R, F⟩ (hearS ⟨L, A, R, F⟩ st ag n).1 (hearS ⟨L, A, R, F⟩ st ag n).2.1 ∧ Touch g w w' := by
  have H := Lib.hid h
  obtain ⟨⟨c0, c1, c2, c3, c4, c5⟩, cf⟩ := h.cell
  clear h
  simp only at c0 c1 c2 c3
  cases hq : (badB ⟨L, A, R, F⟩ n == (st == 2))
  · cases hc : decide (wrap64 (ag + 1) < rowI ⟨L, A, R, F⟩ st)
    · have hc' := of_decide_eq_false hc
      have R0 : hearS ⟨L, A, R, F⟩ st ag n = (wrap64 (3 - st), 0, true) := by simp [hearS, hq, hc']
      rw [R0]
      clear R0 hc'
      go_enter Try.func10, Try.ntmps10
      go_wp2_with fail
      go_region_held3 (fun w' => w'.cell? ⟨g, 0, none⟩ = some (.int .i64 L) ∧ w'.cell? ⟨g, 1, none⟩ = some (.bool A) ∧ w'.cell? ⟨g, 2, none⟩ = some (.int .i64 R) ∧ w'.cell? ⟨g, 3, none⟩ = some (.int .i64 F) ∧ w'.cell? ⟨g, 4, none⟩ = some (.int .i64 st) ∧ w'.cell? ⟨g, 5, none⟩ = some (.int .i64 ag) ∧ BellAt w' g ⟨L, A, R, F⟩ st ag ∧ Below w.heap.size w w')
        (first | exact (Held6.of (W := w.drew) H.out (Below.refl _ _).drew : Held6 w _ g ⟨L, A, R, F⟩ st ag) | exact (Held6.keep (w0 := w) (g := g) (a := ⟨L, A, R, F⟩) (st := st) (ag := ag) (by assumption) hB1 : Held6 w _ g ⟨L, A, R, F⟩ st ag))
        (first | (go_at_call 19; refine (bad_any L R F n A _).mono ?_; rintro e w1 ⟨rfl, hB1⟩))
      have b1 : BellAt w1 g ⟨L, A, R, F⟩ st ag := below_blk (w := w.drew) hB1 H.out
      have t1 : Touch g w w1 := (Touch.refl g w).drew.trans (Touch.of_below hB1 g)
      clear hB1 c0 c1 c2 c3 c4 c5 cf
      have b1' := Lib.hid b1
      obtain ⟨⟨c0, c1, c2, c3, c4, c5⟩, cf⟩ := b1.cell
      clear b1
      simp only at c0 c1 c2 c3
      go_wp2_with fail
      have b2 := b1'.out.set5 (wrap64 (ag + 1))
      have t2 := t1.set_ 5 (.int .i64 (wrap64 (ag + 1)))
      generalize w1.setCell ⟨g, 5, none⟩ (.int .i64 (wrap64 (ag + 1))) = w2 at b2 t2 ⊢
      clear b1' t1 c0 c1 c2 c3 c4 c5 cf
      have b2' := Lib.hid b2
      obtain ⟨⟨c0, c1, c2, c3, c4, c5⟩, cf⟩ := b2.cell
      clear b2
      simp only at c0 c1 c2 c3
      go_region_held3 (fun w' => w'.cell? ⟨g, 0, none⟩ = some (.int .i64 L) ∧ w'.cell? ⟨g, 1, none⟩ = some (.bool A) ∧ w'.cell? ⟨g, 2, none⟩ = some (.int .i64 R) ∧ w'.cell? ⟨g, 3, none⟩ = some (.int .i64 F) ∧ w'.cell? ⟨g, 4, none⟩ = some (.int .i64 st) ∧ w'.cell? ⟨g, 5, none⟩ = some (.int .i64 (wrap64 (ag + 1))) ∧ BellAt w' g ⟨L, A, R, F⟩ st (wrap64 (ag + 1)) ∧ Below w2.heap.size w2 w')
        (first | exact (Held6.of (W := w2.drew) b2'.out (Below.refl _ _).drew : Held6 w2 _ g ⟨L, A, R, F⟩ st (wrap64 (ag + 1))) | exact (Held6.keep (w0 := w2) (g := g) (a := ⟨L, A, R, F⟩) (st := st) (ag := (wrap64 (ag + 1))) (by assumption) hB3 : Held6 w2 _ g ⟨L, A, R, F⟩ st (wrap64 (ag + 1))))
        (first | (go_at_call 20; refine (row_any L R F st A _).mono ?_; rintro e w3 ⟨rfl, hB3⟩))
      have b3 : BellAt w3 g ⟨L, A, R, F⟩ st (wrap64 (ag + 1)) := below_blk (w := w2.drew) hB3 b2'.out
      have t3 : Touch g w w3 := t2.drew.trans (Touch.of_below hB3 g)
      clear hB3 c0 c1 c2 c3 c4 c5 cf
      have b3' := Lib.hid b3
      obtain ⟨⟨c0, c1, c2, c3, c4, c5⟩, cf⟩ := b3.cell
      clear b3
      simp only at c0 c1 c2 c3
      go_wp2_with fail
      go_ret
      first | exact ⟨rfl, b3'.out, t3⟩ | exact ⟨rfl, b3'.out.set45 _ _, (t3.set_ _ _).set_ _ _⟩
    · have hc' := of_decide_eq_true hc
      have R0 : hearS ⟨L, A, R, F⟩ st ag n = (st, wrap64 (ag + 1), false) := by simp [hearS, hq, hc']
      rw [R0]
      clear R0 hc'
      go_enter Try.func10, Try.ntmps10
      go_wp2_with fail
      go_region_held3 (fun w' => w'.cell? ⟨g, 0, none⟩ = some (.int .i64 L) ∧ w'.cell? ⟨g, 1, none⟩ = some (.bool A) ∧ w'.cell? ⟨g, 2, none⟩ = some (.int .i64 R) ∧ w'.cell? ⟨g, 3, none⟩ = some (.int .i64 F) ∧ w'.cell? ⟨g, 4, none⟩ = some (.int .i64 st) ∧ w'.cell? ⟨g, 5, none⟩ = some (.int .i64 ag) ∧ BellAt w' g ⟨L, A, R, F⟩ st ag ∧ Below w.heap.size w w')
        (first | exact (Held6.of (W := w.drew) H.out (Below.refl _ _).drew : Held6 w _ g ⟨L, A, R, F⟩ st ag) | exact (Held6.keep (w0 := w) (g := g) (a := ⟨L, A, R, F⟩) (st := st) (ag := ag) (by assumption) hB1 : Held6 w _ g ⟨L, A, R, F⟩ st ag))
        (first | (go_at_call 19; refine (bad_any L R F n A _).mono ?_; rintro e w1 ⟨rfl, hB1⟩))
      have b1 : BellAt w1 g ⟨L, A, R, F⟩ st ag := below_blk (w := w.drew) hB1 H.out
      have t1 : Touch g w w1 := (Touch.refl g w).drew.trans (Touch.of_below hB1 g)
      clear hB1 c0 c1 c2 c3 c4 c5 cf
      have b1' := Lib.hid b1
      obtain ⟨⟨c0, c1, c2, c3, c4, c5⟩, cf⟩ := b1.cell
      clear b1
      simp only at c0 c1 c2 c3
      go_wp2_with fail
      have b2 := b1'.out.set5 (wrap64 (ag + 1))
      have t2 := t1.set_ 5 (.int .i64 (wrap64 (ag + 1)))
      generalize w1.setCell ⟨g, 5, none⟩ (.int .i64 (wrap64 (ag + 1))) = w2 at b2 t2 ⊢
      clear b1' t1 c0 c1 c2 c3 c4 c5 cf
      have b2' := Lib.hid b2
      obtain ⟨⟨c0, c1, c2, c3, c4, c5⟩, cf⟩ := b2.cell
      clear b2
      simp only at c0 c1 c2 c3
      go_region_held3 (fun w' => w'.cell? ⟨g, 0, none⟩ = some (.int .i64 L) ∧ w'.cell? ⟨g, 1, none⟩ = some (.bool A) ∧ w'.cell? ⟨g, 2, none⟩ = some (.int .i64 R) ∧ w'.cell? ⟨g, 3, none⟩ = some (.int .i64 F) ∧ w'.cell? ⟨g, 4, none⟩ = some (.int .i64 st) ∧ w'.cell? ⟨g, 5, none⟩ = some (.int .i64 (wrap64 (ag + 1))) ∧ BellAt w' g ⟨L, A, R, F⟩ st (wrap64 (ag + 1)) ∧ Below w2.heap.size w2 w')
        (first | exact (Held6.of (W := w2.drew) b2'.out (Below.refl _ _).drew : Held6 w2 _ g ⟨L, A, R, F⟩ st (wrap64 (ag + 1))) | exact (Held6.keep (w0 := w2) (g := g) (a := ⟨L, A, R, F⟩) (st := st) (ag := (wrap64 (ag + 1))) (by assumption) hB3 : Held6 w2 _ g ⟨L, A, R, F⟩ st (wrap64 (ag + 1))))
        (first | (go_at_call 20; refine (row_any L R F st A _).mono ?_; rintro e w3 ⟨rfl, hB3⟩))
      have b3 : BellAt w3 g ⟨L, A, R, F⟩ st (wrap64 (ag + 1)) := below_blk (w := w2.drew) hB3 b2'.out
      have t3 : Touch g w w3 := t2.drew.trans (Touch.of_below hB3 g)
      clear hB3 c0 c1 c2 c3 c4 c5 cf
      have b3' := Lib.hid b3
      obtain ⟨⟨c0, c1, c2, c3, c4, c5⟩, cf⟩ := b3.cell
      clear b3
      simp only at c0 c1 c2 c3
      go_wp2_with fail
      go_ret
      first | exact ⟨rfl, b3'.out, t3⟩ | exact ⟨rfl, b3'.out.set45 _ _, (t3.set_ _ _).set_ _ _⟩
  · have R0 : hearS ⟨L, A, R, F⟩ st ag n = (st, 0, false) := by simp [hearS, hq]
    rw [R0]
    clear R0
    go_enter Try.func10, Try.ntmps10
    go_wp2_with fail
    go_region_held3 (fun w' => w'.cell? ⟨g, 0, none⟩ = some (.int .i64 L) ∧ w'.cell? ⟨g, 1, none⟩ = some (.bool A) ∧ w'.cell? ⟨g, 2, none⟩ = some (.int .i64 R) ∧ w'.cell? ⟨g, 3, none⟩ = some (.int .i64 F) ∧ w'.cell? ⟨g, 4, none⟩ = some (.int .i64 st) ∧ w'.cell? ⟨g, 5, none⟩ = some (.int .i64 ag) ∧ BellAt w' g ⟨L, A, R, F⟩ st ag ∧ Below w.heap.size w w')
      (first | exact (Held6.of (W := w.drew) H.out (Below.refl _ _).drew : Held6 w _ g ⟨L, A, R, F⟩ st ag) | exact (Held6.keep (w0 := w) (g := g) (a := ⟨L, A, R, F⟩) (st := st) (ag := ag) (by assumption) hB1 : Held6 w _ g ⟨L, A, R, F⟩ st ag))
      (first | (go_at_call 19; refine (bad_any L R F n A _).mono ?_; rintro e w1 ⟨rfl, hB1⟩))
    have b1 : BellAt w1 g ⟨L, A, R, F⟩ st ag := below_blk (w := w.drew) hB1 H.out
    have t1 : Touch g w w1 := (Touch.refl g w).drew.trans (Touch.of_below hB1 g)
    clear hB1 c0 c1 c2 c3 c4 c5 cf
    have b1' := Lib.hid b1
    obtain ⟨⟨c0, c1, c2, c3, c4, c5⟩, cf⟩ := b1.cell
    clear b1
    simp only at c0 c1 c2 c3
    go_wp2_with fail
    go_ret
    exact ⟨rfl, b1'.out.set5 _, t1.set_ _ _⟩
end Go.Proofs.Ytopcjopibblpaaa
