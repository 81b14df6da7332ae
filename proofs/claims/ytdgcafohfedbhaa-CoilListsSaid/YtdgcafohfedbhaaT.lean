import Derived.Test.YtdgcafohfedbhaaS
import Derived.OwnWalk
namespace Go.Proofs.Ytdgcafohfedbhaa
open Go.RowKit Go.Joins
set_option linter.unusedVariables false
set_option linter.unusedSimpArgs false

theorem TouchB.below {c B : Nat} {w w' : World} (h : TouchB c B w w') {n : Nat} (hn : n ≤ B) (hc : n ≤ c) : Below n w w' :=
  ⟨h.os, h.tape, h.output, h.size, fun k hk => h.block k (by omega) (by omega)⟩
theorem coil_new (w : World) : CoilAt (w.alloc (.cells #[.slice none 0 0] 25)) (w.heap.size + 1) w.heap.size [] :=
  ⟨_, heap_alloc_new w _, World.ownsRow_nil _ _ _ _⟩
theorem up300 : up 300 = [130, 44] := by
  unfold up
  rw [len, if_neg (by omega), len, if_pos (by omega)]
  rfl
theorem up1 : up 1 = [1] := by
  unfold up
  rw [len, if_pos (by omega)]
  rfl
set_option maxHeartbeats 4000000 in
theorem awake_any (w : World) :
    Calls Try.prog 8 #[] w fun e w' => e = .returned (.bool true) ∧ Below w.heap.size w w' := by
  have HC := Lib.hid (coil_new w)
  have HB := Lib.hid ((Below.refl w.heap.size w).alloc (Nat.le_refl _) (.cells #[.slice none 0 0] 25))
  go_enter Try.func8, Try.ntmps8
  go_wp2_with fail
  refine (up_any w.heap.size (w.heap.size + 1) [] 300 _ (by omega) HC.out (by omega) (by simp) (by simp)).mono ?_
  rintro e w1 ⟨rfl, h1, t1⟩
  have H1 := Lib.hid (⟨h1, t1⟩ : _ ∧ _)
  have z1 : w.heap.size + 1 ≤ w1.heap.size := by have := t1.size; simpa using this
  clear h1 t1
  go_wp2_with fail
  refine (int_any w.heap.size (w.heap.size + 1) _ (-1) w1 ⟨by omega, by omega⟩ H1.out.1 (by omega) z1 (by rw [up300]; decide)).mono ?_
  rintro e w2 ⟨rfl, h2, t2⟩
  have H2 := Lib.hid (⟨h2, H1.out.2.trans t2⟩ : _ ∧ _)
  clear h2 t2
  go_wp2_with fail
  have hbs : ([] ++ up 300 ++ up (fold (-1))) = [130, 44, 1] := by
    rw [up300, show fold (-1) = 1 from rfl, up1]; rfl
  have hb := H2.out.1
  rw [hbs] at hb
  have HBY := Lib.hid (bytes_any w.heap.size (w.heap.size + 1) _ w2 hb (by decide))
  clear hb hbs
  refine HBY.out.mono ?_
  rintro e w3 ⟨v, rfl, h3, b3⟩
  have k3 := (cut_own h3 b3.size).string (by intro i x hx; have := List.mem_of_getElem? hx; simp at this; omega)
  rw [show strOf [130, 44, 1] = ⟨#[130, 44, 1]⟩ from rfl] at k3
  have H3 := Lib.hid b3
  clear h3 b3
  go_wp2
  go_ret
  refine ⟨rfl, HB.out.trans (((H2.out.2.below (n := w.heap.size) (by omega) (by omega)).mono (Nat.le_refl _)).trans (H3.out.mono ?_))⟩
  have := H2.out.2.size
  simp at this; omega
end Go.Proofs.Ytdgcafohfedbhaa
