import Derived.Test.YtjalihmjgjajcaaSE
namespace Go.Proofs.Ytjalihmjgjajcaa
open Go.RowKit Go.Joins

theorem awake_any (w : World) : Calls Try.prog 6 #[] w fun e w' => e = .returned (.bool true) ∧ Below w.heap.size w w' := by
  go_enter Try.func6, Try.ntmps6
  go_wp2_with fail
  refine (S.new_any _).mono ?_
  rintro e w1 ⟨rfl, h1, b1⟩
  have hpl : w.heap.size < w1.heap.size := by obtain ⟨v, hb, _⟩ := h1; exact (Array.getElem?_eq_some_iff.1 hb).1
  have H1 := Lib.hid (⟨h1, b1⟩ : _ ∧ _)
  clear h1 b1
  generalize hp : w.heap.size = p at *
  have HP := Lib.hid hp
  clear hp
  go_wp2_with fail
  refine (S.send_room _ p [] 1 2 ⟨#[97]⟩ _ H1.out.1 (by decide)).mono ?_
  rintro e w2 ⟨rfl, h2, t2⟩
  have H2 := Lib.hid (⟨h2, H1.out.2.trans (t2.below (n := p) (Nat.le_refl _) (by omega))⟩ : _ ∧ Below p w w2)
  clear h2 t2
  go_wp2_with fail
  refine (S.send_room _ p _ 1 3 ⟨#[98]⟩ _ H2.out.1 (by decide)).mono ?_
  rintro e w3 ⟨rfl, h3, t3⟩
  have H3 := Lib.hid (⟨h3, H2.out.2.trans (t3.below (n := p) (Nat.le_refl _) (by have := H2.out.2.size; rw [← HP.out]; rw [← HP.out] at hpl; omega))⟩ : _ ∧ Below p w w3)
  clear h3 t3
  go_wp2_with fail
  refine (S.twice_room 0 _ p [] [⟨1, 3, ⟨#[98]⟩⟩] ⟨1, 2, ⟨#[97]⟩⟩ _ H3.out.1 (by decide) (by decide)).mono ?_
  rintro e w4 ⟨rfl, h4, t4⟩
  have H4 := Lib.hid (⟨h4, H3.out.2.trans (t4.below (n := p) (Nat.le_refl _) (by have := H3.out.2.size; rw [← HP.out]; rw [← HP.out] at hpl; omega))⟩ : _ ∧ Below p w w4)
  clear h4 t4
  go_wp2_with fail
  refine (S.take_some 1 _ p [⟨1, 2, ⟨#[97]⟩⟩] [⟨1, 2, ⟨#[97]⟩⟩] ⟨1, 3, ⟨#[98]⟩⟩ _ H4.out.1 (by decide) (by decide)).mono ?_
  rintro e w5 ⟨rfl, h5, t5⟩
  have HA := Lib.hid ((Below.refl w5.heap.size w5).alloc (Nat.le_refl _) (.cells #[.int .i64 1, .int .i64 3, .string ⟨#[98]⟩] 48))
  have H5 := Lib.hid (⟨S.post_below h5 HA.out, (H4.out.2.trans (t5.below (n := p) (Nat.le_refl _) (by have := H4.out.2.size; rw [← HP.out]; rw [← HP.out] at hpl; omega))).trans (HA.out.mono (by have := H4.out.2.size; have := t5.size; rw [← HP.out]; omega)), heap_alloc_new w5 (.cells #[.int .i64 1, .int .i64 3, .string ⟨#[98]⟩] 48)⟩ : _ ∧ Below p w _ ∧ _)
  have hp5 : p < w5.heap.size := by obtain ⟨v, hb, _⟩ := h5; have := (Array.getElem?_eq_some_iff.1 hb).1; omega
  clear h5 t5
  go_wp2_with fail
  refine (S.take_some 1 _ p [⟨1, 2, ⟨#[97]⟩⟩] [] ⟨1, 2, ⟨#[97]⟩⟩ _ H5.out.1 (by decide) (by decide)).mono ?_
  rintro e w6 ⟨rfl, h6, t6⟩
  have hb6 := t6.blk H5.out.2.2 (by omega)
  have HA6 := Lib.hid ((Below.refl w6.heap.size w6).alloc (Nat.le_refl _) (.cells #[.int .i64 1, .int .i64 2, .string ⟨#[97]⟩] 48))
  have hb7 := below_blk HA6.out hb6
  have H6 := Lib.hid (⟨S.post_below h6 HA6.out, (H5.out.2.1.trans (t6.below (n := p) (Nat.le_refl _) (by simp; omega))).trans (HA6.out.mono (by have := t6.size; simp at this; omega))⟩ : _ ∧ Below p w _)
  have k0 : (w6.alloc (.cells #[.int .i64 1, .int .i64 2, .string ⟨#[97]⟩] 48)).cell? ⟨w5.heap.size, 1, none⟩ = some (.int .i64 3) := by simp [World.cell?, hb7]
  have k1 : (w6.alloc (.cells #[.int .i64 1, .int .i64 2, .string ⟨#[97]⟩] 48)).cell? ⟨w5.heap.size, 2, none⟩ = some (.string ⟨#[98]⟩) := by simp [World.cell?, hb7]
  clear h6 t6 hb6 hb7
  go_wp2_with fail
  refine (S.len_any _ p _ _ H6.out.1).mono ?_
  rintro e w7 ⟨rfl, rfl⟩
  go_wp2
  go_ret
  have hb := H6.out.2
  rw [← HP.out] at hb
  exact ⟨rfl, hb⟩
end Go.Proofs.Ytjalihmjgjajcaa
