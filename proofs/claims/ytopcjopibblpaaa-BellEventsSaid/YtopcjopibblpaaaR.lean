import Derived.Test.YtopcjopibblpaaaP
namespace Go.Proofs.Ytopcjopibblpaaa
open Go.RowKit Go.Joins

theorem evs_get (T : List Nat) (k j : Nat) (h : j < k) : (evs T k)[j * 2]? = some (.int .i64 (10 * ((T.getD j 0 : Nat) : Int))) ∧ (evs T k)[j * 2 + 1]? = some (.int .i64 (2 - ((j % 2 : Nat) : Int))) := by
  induction k with
  | zero => omega
  | succ k ih =>
    have hl := evs_length T k
    rw [evs]
    by_cases hj : j < k
    · rw [List.getElem?_append_left (by omega), List.getElem?_append_left (by omega)]
      exact ih hj
    · have e : j = k := by omega
      subst e
      rw [List.getElem?_append_right (by omega), List.getElem?_append_right (by omega), hl, Nat.sub_self, show j * 2 + 1 - j * 2 = 1 by omega]
      exact ⟨rfl, rfl⟩
/-- until when span q of k events lasts -/
def untilS (T : List Nat) (k q : Nat) : Int := if 2 * q + 1 < k then 10 * ((T.getD (2 * q + 1) 0 : Nat) : Int) else 1000
/-- the cells of the first q spans -/
def spn (T : List Nat) (k : Nat) : Nat → List Value
  | 0 => []
  | q + 1 => spn T k q ++ [.int .i64 (10 * ((T.getD (2 * q) 0 : Nat) : Int)), .int .i64 (untilS T k q)]
theorem spn_length (T : List Nat) (k q : Nat) : (spn T k q).length = q * 2 := by
  induction q with
  | zero => rfl
  | succ q ih => simp [spn, ih]; omega
theorem spn_get (T : List Nat) (k m q : Nat) (h : q < m) : (spn T k m)[q * 2]? = some (.int .i64 (10 * ((T.getD (2 * q) 0 : Nat) : Int))) ∧ (spn T k m)[q * 2 + 1]? = some (.int .i64 (untilS T k q)) := by
  induction m with
  | zero => omega
  | succ m ih =>
    have hl := spn_length T k m
    rw [spn]
    by_cases hj : q < m
    · rw [List.getElem?_append_left (by omega), List.getElem?_append_left (by omega)]
      exact ih hj
    · have e : q = m := by omega
      subst e
      rw [List.getElem?_append_right (by omega), List.getElem?_append_right (by omega), hl, Nat.sub_self, show q * 2 + 1 - q * 2 = 1 by omega]
      exact ⟨rfl, rfl⟩
theorem info38 : (Try.prog.info? 38).map (fun i => (i.zero, i.size, i.bytes)) = some (some (.agg #[.int .i64 0, .int .i64 0]), 2, 16) := by kernel_rfl

def SpRel (w : World) (T : List Nat) (k : Nat) (v iv : Value) (wr : World) : Prop :=
  ∃ j : Nat, j ≤ k ∧ iv = .int .i64 j ∧ wr.ownsRow w.heap.size 38 2 v ((j + 1) / 2) (spn T k ((j + 1) / 2)) ∧ Below w.heap.size w wr

set_option maxHeartbeats 8000000 in
theorem spans_any (L R F : Int) (A : Bool) (T : List Nat) (k B : Nat) (v : Value) (w : World) (hk : k ≤ 100) (hT : ∀ j, T.getD j 0 ≤ 1000) (ho : w.ownsRow B 53 2 v k (evs T k)) :
    Calls Try.prog 18 #[.agg #[.int .i64 L, .bool A, .int .i64 R, .int .i64 F], v, .int .i64 1000] w fun e w' => ∃ v', e = .returned v' ∧ w'.ownsRow w.heap.size 38 2 v' ((k + 1) / 2) (spn T k ((k + 1) / 2)) ∧ Below w.heap.size w w' := by
  obtain ⟨i38, hi38, hz38⟩ := Option.map_eq_some_iff.1 info38
  simp only [Prod.mk.injEq] at hz38
  have HT := Lib.hid hT
  have HO := Lib.hid ho
  have HB0 := Lib.hid ((Below.refl w.heap.size w).alloc (Nat.le_refl _) (.cells #[.int .i64 L, .bool A, .int .i64 R, .int .i64 F] 23))
  obtain ⟨ao, cap, rfl⟩ : ∃ ao cap, v = .slice ao k cap := by
    rcases ho.2 with ⟨rfl, rfl⟩ | ⟨g, cap, cur, rfl, _⟩
    · exact ⟨none, 0, rfl⟩
    · exact ⟨_, cap, rfl⟩
  clear ho hT
  go_enter Try.func18, Try.ntmps18
  go_wp2_with fail
  go_loopw [7, 13] (SpRel w T k) (fun _ i _ => k - (intOf i).toNat)
  case atStart => exact ⟨0, by omega, rfl, World.ownsRow_nil _ _ _ _, HB0.out⟩
  case round =>
    obtain ⟨j, hj, rfl, hr, hB⟩ := hrel
    by_cases hlt : j < k
    · obtain ⟨ge, cape, ee, _⟩ := HO.out.form (by omega)
      simp only [Value.slice.injEq, true_and] at ee
      obtain ⟨rfl, rfl⟩ := ee
      have hoW := own_below HO.out hB
      have hev := evs_get T k j hlt
      have hel := evs_length T k
      have c0 : wr.cell? ⟨ge, j * 2, none⟩ = _ := (hoW.cellAt (j * 2) (by omega)).trans hev.1
      have c1 : wr.cell? ⟨ge, j * 2 + 1, none⟩ = _ := (hoW.cellAt (j * 2 + 1) (by omega)).trans hev.2
      have HJ := Lib.hid (⟨hr, hB, hoW⟩ : _ ∧ _ ∧ _)
      have t0 := HT.out j
      clear hr hB hoW hev hel
      rcases Nat.mod_two_eq_zero_or_one j with hp | hp
      · rw [hp] at c1
        have HP := Lib.hid hp
        clear hp
        simp only [Int.natCast_zero, Int.sub_zero] at c1
        generalize hx : 10 * ((T.getD j 0 : Nat) : Int) = x at *
        have hx1 : 0 ≤ x := by omega
        have hx2 : x ≤ 10000 := by omega
        have HX := Lib.hid hx
        clear hx t0
        by_cases hn : j + 1 < k
        · have hev2 := evs_get T k (j + 1) hn
          have hel := evs_length T k
          have c2 : wr.cell? ⟨ge, (j + 1) * 2, none⟩ = _ := (HJ.out.2.2.cellAt ((j + 1) * 2) (by omega)).trans hev2.1
          have t1 := HT.out (j + 1)
          generalize hy : 10 * ((T.getD (j + 1) 0 : Nat) : Int) = y at *
          have hy1 : 0 ≤ y := by omega
          have hy2 : y ≤ 10000 := by omega
          have HU : Hid (x = 10 * ((T.getD (2 * ((j + 1) / 2)) 0 : Nat) : Int) ∧ y = untilS T k ((j + 1) / 2)) := by
            have := HP.out
            have e : 2 * ((j + 1) / 2) = j := by omega
            refine ⟨by rw [e]; exact HX.out.symm, ?_⟩
            unfold untilS
            rw [e, if_pos hn]; exact hy.symm
          clear hy t1 hev2 hel
          have HB1 := Lib.hid (HJ.out.2.1.alloc HJ.out.2.1.size (.cells #[.int .i64 x, .int .i64 2] 53))
          have c3 := below_cell ((Below.refl wr.heap.size wr).alloc (Nat.le_refl _) (.cells #[.int .i64 x, .int .i64 2] 53)) c2
          have HR := Lib.hid (own_below (own_below HJ.out.1 ((Below.refl wr.heap.size wr).alloc (Nat.le_refl _) (.cells #[.int .i64 x, .int .i64 2] 53))) ((Below.refl _ _).alloc (Nat.le_refl _) (.cells #[.int .i64 x, .int .i64 y] 38)))
          have HNB : Hid (((wr.alloc (.cells #[.int .i64 x, .int .i64 2] 53)).alloc (.cells #[.int .i64 x, .int .i64 y] 38)).heap[wr.heap.size + 1]? = some (.cells #[.int .i64 x, .int .i64 y] 38 (0, 0))) := by
            have := heap_alloc_new (wr.alloc (.cells #[.int .i64 x, .int .i64 2] 53)) (.cells #[.int .i64 x, .int .i64 y] 38)
            rw [show (wr.alloc (.cells #[.int .i64 x, .int .i64 2] 53)).heap.size = wr.heap.size + 1 by simp] at this
            exact this
          go_wp2_with (first
            | (at_builtin
               refine wpList_append_lies _ rfl _ _ 55 rfl w.heap.size 38 i38 _ 2 16 Try.underlying55 hi38 hz38.1 hz38.2.1 hz38.2.2 rfl (by omega) _ _ _ rfl HR.out _ 1 1 [.int .i64 x, .int .i64 y] rfl rfl (World.news_of_block HNB.out) (by intro u hu; simp at hu; rcases hu with rfl | rfl <;> rfl) (by omega) (by unfold maxLen; omega) (by omega) (by have := HB1.out.size; simp at this ⊢; omega) _ rfl ?_)
            | fail)
          intro g5 cap5 w5 hown5 hg5 hat5 hlt5
          have HE : Hid (w5.ownsRow w.heap.size 38 2 (.slice (some ⟨g5, 0, none⟩) ((j + 1) / 2 + 1) cap5) ((j + 1) / 2 + 1) (spn T k ((j + 1) / 2 + 1)) ∧ Below w.heap.size w w5) := by
            refine ⟨?_, (HB1.out.alloc HB1.out.size _).grown hg5 (by have := HB1.out.size; simp at this ⊢; omega) (fun k hk => (HR.out.lt k hk).1)⟩
            rw [spn]
            have := hown5
            rw [HU.out.1, HU.out.2] at this
            exact this
          clear hown5 hg5 hat5 hlt5 HR HB1 HJ
          go_wp2
          refine ⟨⟨j + 1, by omega, by go_num, ?_, HE.out.2⟩, by simp [intOf]; omega⟩
          rw [show (j + 1 + 1) / 2 = (j + 1) / 2 + 1 by have := HP.out; omega]
          exact HE.out.1
        · have HU : Hid (x = 10 * ((T.getD (2 * ((j + 1) / 2)) 0 : Nat) : Int) ∧ (1000 : Int) = untilS T k ((j + 1) / 2)) := by
            have := HP.out
            have e : 2 * ((j + 1) / 2) = j := by omega
            refine ⟨by rw [e]; exact HX.out.symm, ?_⟩
            unfold untilS
            rw [e, if_neg hn]
          have HB1 := Lib.hid (HJ.out.2.1.alloc HJ.out.2.1.size (.cells #[.int .i64 x, .int .i64 2] 53))
          have HR := Lib.hid (own_below (own_below HJ.out.1 ((Below.refl wr.heap.size wr).alloc (Nat.le_refl _) (.cells #[.int .i64 x, .int .i64 2] 53))) ((Below.refl _ _).alloc (Nat.le_refl _) (.cells #[.int .i64 x, .int .i64 1000] 38)))
          have HNB : Hid (((wr.alloc (.cells #[.int .i64 x, .int .i64 2] 53)).alloc (.cells #[.int .i64 x, .int .i64 1000] 38)).heap[wr.heap.size + 1]? = some (.cells #[.int .i64 x, .int .i64 1000] 38 (0, 0))) := by
            have := heap_alloc_new (wr.alloc (.cells #[.int .i64 x, .int .i64 2] 53)) (.cells #[.int .i64 x, .int .i64 1000] 38)
            rw [show (wr.alloc (.cells #[.int .i64 x, .int .i64 2] 53)).heap.size = wr.heap.size + 1 by simp] at this
            exact this
          go_wp2_with (first
            | (at_builtin
               refine wpList_append_lies _ rfl _ _ 55 rfl w.heap.size 38 i38 _ 2 16 Try.underlying55 hi38 hz38.1 hz38.2.1 hz38.2.2 rfl (by omega) _ _ _ rfl HR.out _ 1 1 [.int .i64 x, .int .i64 1000] rfl rfl (World.news_of_block HNB.out) (by intro u hu; simp at hu; rcases hu with rfl | rfl <;> rfl) (by omega) (by unfold maxLen; omega) (by omega) (by have := HB1.out.size; simp at this ⊢; omega) _ rfl ?_)
            | fail)
          intro g5 cap5 w5 hown5 hg5 hat5 hlt5
          have HE : Hid (w5.ownsRow w.heap.size 38 2 (.slice (some ⟨g5, 0, none⟩) ((j + 1) / 2 + 1) cap5) ((j + 1) / 2 + 1) (spn T k ((j + 1) / 2 + 1)) ∧ Below w.heap.size w w5) := by
            refine ⟨?_, (HB1.out.alloc HB1.out.size _).grown hg5 (by have := HB1.out.size; simp at this ⊢; omega) (fun k hk => (HR.out.lt k hk).1)⟩
            rw [spn]
            have := hown5
            rw [HU.out.1, HU.out.2] at this
            exact this
          clear hown5 hg5 hat5 hlt5 HR HB1 HJ
          go_wp2
          refine ⟨⟨j + 1, by omega, by go_num, ?_, HE.out.2⟩, by simp [intOf]; omega⟩
          rw [show (j + 1 + 1) / 2 = (j + 1) / 2 + 1 by have := HP.out; omega]
          exact HE.out.1
      · rw [hp] at c1
        have HP := Lib.hid hp
        clear hp
        rw [show (2 : Int) - ((1 : Nat) : Int) = 1 by omega] at c1
        generalize 10 * ((T.getD j 0 : Nat) : Int) = x at *
        have HB1 := Lib.hid (HJ.out.2.1.alloc HJ.out.2.1.size (.cells #[.int .i64 x, .int .i64 1] 53))
        have HR := Lib.hid (own_below HJ.out.1 ((Below.refl wr.heap.size wr).alloc (Nat.le_refl _) (.cells #[.int .i64 x, .int .i64 1] 53)))
        clear HJ t0
        go_wp2
        refine ⟨⟨j + 1, by omega, by go_num, ?_, HB1.out⟩, by simp [intOf]; omega⟩
        rw [show (j + 1 + 1) / 2 = (j + 1) / 2 by have := HP.out; omega]
        exact HR.out
    · obtain rfl : j = k := by omega
      have HJ := Lib.hid (⟨hr, hB⟩ : _ ∧ _)
      clear hr hB
      go_wp2
      go_ret
      exact ⟨_, rfl, HJ.out.1, HJ.out.2⟩
end Go.Proofs.Ytopcjopibblpaaa
