import Derived.Test.YtdgcafohfedbhaaDoorPE
namespace Go.Proofs.YtdgcafohfedbhaaDoor.K
open Go.RowKit Go.Joins
set_option linter.unusedVariables false

theorem eqNil (g n cap : Nat) (wx : World) : (binOp .eql 22 (.slice (some ⟨g, 0, none⟩) n cap) (.slice none 0 0)).run Tryd.prog wx = .ok (.bool false) wx := by kernel_rfl
theorem eqNil2 (wx : World) : (binOp .eql 22 (.slice none 0 0) (.slice none 0 0)).run Tryd.prog wx = .ok (.bool true) wx := by kernel_rfl
set_option maxHeartbeats 4000000 in
theorem clone_any (B : Nat) (v : Value) (n : Nat) (xs : List Value) (w : World) (h : w.ownsRow B 5 1 v n xs) (hn : n ≤ 2000000) (h1 : ∀ u ∈ xs, u.oneCell' = true) :
    Calls Tryd.prog 17 #[v] w fun e w' => ∃ v', e = .returned v' ∧ w'.ownsRow w.heap.size 5 1 v' n xs ∧ Below w.heap.size w w' := by
  obtain ⟨i0, hi, hzz⟩ := Option.map_eq_some_iff.1 info5
  simp only [Prod.mk.injEq] at hzz
  have hl := h.1
  rcases h.2 with ⟨rfl, hn0⟩ | ⟨g, cap, cur, rfl, hB, hg, hcap, hcm, hcs, htk⟩
  · subst hn0
    have hx : xs = [] := List.eq_nil_of_length_eq_zero (by simpa using hl)
    subst hx
    have q := eqNil2
    go_enter Tryd.func17, Tryd.ntmps17
    go_wp2
    go_ret
    exact ⟨_, rfl, World.ownsRow_nil _ _ _ _, Below.refl _ _⟩
  · have H := Lib.hid h
    have hE : (w.alloc (.cells #[] 5)).ownsRow w.heap.size 5 1 (.slice (some ⟨w.heap.size, 0, none⟩) 0 0) 0 [] :=
      ⟨rfl, .inr ⟨w.heap.size, 0, #[], rfl, Nat.le_refl _, heap_alloc_new w _, Nat.le_refl _, by decide, rfl, rfl⟩⟩
    have HE := Lib.hid hE
    have hN : ∀ j u, xs[j]? = some u → (w.alloc (.cells #[] 5)).cell? ((⟨g, 0, none⟩ : Addr).add j) = some u := fun j u hu => by
      have hj : j < n * 1 := by have := (List.getElem?_eq_some_iff.1 hu).1; omega
      have h2 := own_below h ((Below.refl w.heap.size w).alloc (Nat.le_refl _) (.cells #[] 5))
      rw [Addr.add_lit, Nat.zero_add, h2.cellAt j hj]; exact hu
    have HN := Lib.hid hN
    have HB := Lib.hid ((Below.refl w.heap.size w).alloc (Nat.le_refl _) (.cells #[] 5))
    clear h hE hN hB hg hcap hcm hcs htk
    have q := eqNil g n cap
    go_enter Tryd.func17, Tryd.ntmps17
    go_wp2_with (first
      | (at_builtin
         refine wpList_append_own_at _ rfl _ _ 22 rfl w.heap.size 5 i0 _ 1 1 Tryd.underlying22 hi hzz.1 hzz.2.1 hzz.2.2 rfl (by omega) _ _ _ rfl HE.out _ n cap xs rfl hl HN.out h1 (by unfold maxLen; omega) (by omega) (by simp) ?_)
      | fail)
    intro v' w1 hown hg1 _ _
    have HO : Hid (w1.ownsRow w.heap.size 5 1 v' n xs ∧ Below w.heap.size w w1) := ⟨hown, HB.out.grown hg1 (by simp) (fun k hk => by simp [Value.ownBlock] at hk; omega)⟩
    clear hown hg1
    go_wp2
    go_ret
    exact ⟨v', rfl, HO.out.1, HO.out.2⟩


theorem bytes_any (c B : Nat) (bs : List Nat) (w : World) (hc : CoilAt w B c bs) (hl : bs.length ≤ 2000000) :
    Calls Tryd.prog 15 #[.pointer (some ⟨c, 0, none⟩)] w fun e w' => ∃ v, e = .returned v ∧ w'.ownsRow w.heap.size 5 1 v bs.length (byts bs) ∧ Below w.heap.size w w' := by
  obtain ⟨v, h1, h2⟩ := hc
  have H := Lib.hid h2
  have c0 : w.cell? ⟨c, 0, none⟩ = some v := by simp [World.cell?, h1]
  obtain ⟨ao, cap, rfl⟩ := own_form h2
  clear h1 h2
  go_enter Tryd.func15, Tryd.ntmps15
  go_wp2_with fail
  refine (clone_any B _ bs.length (byts bs) w H.out hl (byts_one bs)).mono ?_
  rintro e w' ⟨v', rfl, h1, h2⟩
  obtain ⟨ao', cap', rfl⟩ := own_form h1
  have H2 := Lib.hid (⟨h1, h2⟩ : _ ∧ _)
  clear h1 h2
  go_wp2
  go_ret
  exact ⟨_, rfl, H2.out.1, H2.out.2⟩
end Go.Proofs.YtdgcafohfedbhaaDoor.K
