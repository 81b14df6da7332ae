import Derived.Test.YtdgcafohfedbhaaAA
namespace Go.Proofs.Ytdgcafohfedbhaa
open Go.RowKit Go.Joins
attribute [local go_sem] Oper.semAt_some
set_option linter.unusedVariables false
set_option linter.unusedSimpArgs false

/-- an append of what a slice shows onto an own empty slice -/
theorem run_append_cut (W : World) (B g0 : Nat) (a : Option Addr) (cap : Nat) (bs : List Nat) (h0 : W.ownsRow B 5 1 (.slice (some ⟨g0, 0, none⟩) 0 0) 0 []) (hs : Shows W a bs) (hl : bs.length ≤ 1000000) (hB : B ≤ W.heap.size) :
    ∃ v' w', (Builtin.append_ #[23, 23] 23 #[.slice (some ⟨g0, 0, none⟩) 0 0, .slice a bs.length cap]).run Try.prog W = .ok v' w' ∧ w'.ownsRow B 5 1 v' bs.length (byts bs) ∧ W.grownBy w' (some g0) := by
  obtain ⟨i5, hi5, hz5⟩ := Option.map_eq_some_iff.1 info5
  simp only [Prod.mk.injEq] at hz5
  rcases bs with _ | ⟨x, l⟩
  · refine ⟨_, W, run_append_nothing (P := Try.prog) W 23 23 23 5 i5 Try.underlying23 hi5 (some ⟨g0, 0, none⟩) 0 0 (Nat.le_refl _) (.slice a 0 cap) ?_, h0, World.grownBy.refl _ _⟩
    cases a with
    | none => exact Src.ofNil (P := Try.prog) W Try.underlying23 cap
    | some ad => exact Src.ofSlice (P := Try.prog) W Try.underlying23 ad 0 cap [] (by simp) (by simp) (by simp)
  · obtain ⟨g, o, rfl, _⟩ := hs 0 x rfl
    obtain ⟨v', w', hr, h2, h3, _⟩ := run_append_own_at (P := Try.prog) W B 23 23 5 i5 _ 1 1 Try.underlying23 hi5 hz5.1 hz5.2.1 hz5.2.2 rfl (by omega) _ 0 [] h0 ⟨g, o, none⟩ (x :: l).length cap (byts (x :: l)) (by rw [byts_length, Nat.mul_one]) (fun j u hu => by
      simp only [byts, List.getElem?_map, Option.map_eq_some_iff] at hu
      obtain ⟨y, hy, rfl⟩ := hu
      obtain ⟨g', o', e, hc⟩ := hs j y hy
      cases e
      rw [Addr.add_lit]
      exact hc) (byts_one _) (by unfold maxLen; omega) (by omega) hB
    refine ⟨v', w', hr, ?_, h3⟩
    simpa using h2

theorem ens_take_len {l : List ByteArray} (h : (S.ens l).length ≤ 500000) (i : Nat) : (S.ens (l.take i)).length ≤ 500000 := by
  have : S.ens l = S.ens (l.take i) ++ S.ens (l.drop i) := by
    unfold S.ens
    rw [← List.flatMap_append, List.take_append_drop]
  rw [this, List.length_append] at h
  omega
theorem ens_item_len {l : List ByteArray} {x : ByteArray} (hx : x ∈ l) : x.size ≤ (S.ens l).length := by
  induction l with
  | nil => simp at hx
  | cons y l ih =>
    have e : (S.ens (y :: l)).length = (enc y).length + (S.ens l).length := by simp [S.ens]
    rw [e]
    rcases List.mem_cons.1 hx with rfl | hx
    · unfold enc
      rw [List.length_append, bsOf_length]; omega
    · have := ih hx; omega

set_option maxRecDepth 100000 in
set_option maxHeartbeats 16000000 in
theorem bytes_law (v : Value) (bs : List Nat) (w : World) (hb : Cut w w.heap.size v bs) (ho : Oct bs) (hlm : bs.length ≤ maxLen) :
    Calls Try.prog 6 #[v] w fun e w' => e = .returned (.bool true) ∧ Below w.heap.size w w' := by
  have HB := Lib.hid hb
  have HO := Lib.hid ho
  obtain ⟨a, cap, rfl, hsh, hbl⟩ := hb
  have hmx : Try.prog.follows .mixedOrders = true := by kernel_rfl
  unfold maxLen at hlm
  clear ho hbl hsh
  go_enter Try.func6, Try.ntmps6
  go_wp2_with fail
  refine (awake_any w).mono ?_
  rintro e w1 ⟨rfl, hb1⟩
  have HB1 := Lib.hid hb1
  have hs1 : w.heap.size ≤ w1.heap.size := hb1.size
  clear hb1
  by_cases hbig : bs.length ≤ 300
  · have hcut1 := cut_below HB.out (Nat.le_refl _) HB1.out
    have HBA := Lib.hid ((Below.refl w1.heap.size w1).alloc (Nat.le_refl _) (.cells #[] 5))
    obtain ⟨v2, w2, hr, ho2, hg2⟩ := run_append_cut (w1.alloc (.cells #[] 5)) w1.heap.size w1.heap.size a cap bs ⟨rfl, .inr ⟨w1.heap.size, 0, #[], rfl, Nat.le_refl _, heap_alloc_new w1 _, Nat.le_refl _, by decide, rfl, rfl⟩⟩ (by
      obtain ⟨a', cap', e, h1, h2⟩ := cut_below hcut1 hs1 HBA.out
      cases e
      exact h1) (by omega) (by simp)
    have HR := Lib.hid hr
    have HB2 : Hid (Below w1.heap.size w1 w2) := HBA.out.grown hg2 (by simp) (fun k hk => Nat.le_of_eq (Option.some.inj hk))
    have HO2 := Lib.hid ho2
    obtain ⟨ao2, cap2, rfl⟩ := own_form ho2
    clear hr ho2 hg2 hcut1 HBA
    go_wp2_with (first | (at_builtin; refine Lib.wpList_append_run_sl _ rfl _ _ 23 rfl _ _ rfl rfl HR.out ?_) | fail)
    have hs2 : w1.heap.size ≤ w2.heap.size := HB2.out.size
    refine (open_own _ _ bs w2 HO2.out hs2).mono ?_
    rintro e w3 ⟨rfl, hr3, hb3⟩
    obtain ⟨r, hr⟩ : ∃ r, w2.heap.size = r := ⟨_, rfl⟩
    rw [hr] at hr3 hb3 ⊢
    have HRR := Lib.hid hr
    have hlt3 : r < w3.heap.size := by obtain ⟨_, _, h, _⟩ := hr3.ex; exact (Array.getElem?_eq_some_iff.1 h).1
    have H3 := Lib.hid (⟨hr3, hb3⟩ : _ ∧ _)
    clear hr3 hb3 hr HR
    go_wp2_with fail
    refine (S.take_any r bs 300 w3 HO.out (by omega) H3.out.1 (by have := upS_le 300 bs HO.out; simp at this ⊢; omega)).mono ?_
    rintro e w4 ⟨v4, rfl, ho4, hr4, ht4⟩
    generalize hq : takeT oneS 300 bs = q at *
    have HQ := Lib.hid hq
    clear hq
    obtain ⟨L, bs4, f4⟩ := q
    simp only at ho4 hr4
    obtain ⟨ao4, cap4, rfl⟩ := own_form ho4
    have HB4 : Hid (Below r w2 w4) := H3.out.2.trans (ht4.below (Nat.le_refl r) (Nat.le_of_lt hlt3))
    have hs4 : r < w4.heap.size := Nat.lt_of_lt_of_le hlt3 ht4.size
    have HO4 := Lib.hid ho4
    have HR4 := Lib.hid hr4
    have hb4 : Below w2.heap.size w2 w4 := by rw [HRR.out]; exact HB4.out
    have hown := own_below HO2.out hb4
    have hbel : Below w.heap.size w w4 := HB1.out.trans ((HB2.out.trans (hb4.mono hs2)).mono hs1)
    have k1 := (cut_own hown (by have := HRR.out; omega)).string HO.out
    have k2 := (cut_below HB.out (Nat.le_refl _) hbel).string HO.out
    have HBE := Lib.hid hbel
    clear ho4 hr4 ht4 hb4 hown hbel
    go_wp2_with fail
    refine (end_any r r bs4 f4 w4 HR4.out).mono ?_
    rintro e w5 ⟨rfl, rfl⟩
    clear k1 k2
    by_cases hend : endN bs4 f4 = 0
    · have hff : f4 = 0 ∧ bs4 = [] := by
        unfold endN at hend
        split at hend
        · simp at hend
        · rename_i h
          refine ⟨hend, ?_⟩
          rcases bs4 with _ | ⟨y, l⟩
          · rfl
          · exact absurd ⟨hend, by simp⟩ h
      obtain ⟨rfl, rfl⟩ := hff
      have HEQ := Lib.hid (takeS_inv 300 bs L HO.out HQ.out)
      rw [hend]
      clear hend HQ
      have hens : (S.ens L).length ≤ 300 := by have h := congrArg List.length HEQ.out; rw [List.length_append] at h; omega
      have hll : L.length ≤ 300 := by
        have : ∀ l : List ByteArray, l.length ≤ (S.ens l).length := fun l => by
          induction l with
          | nil => simp [S.ens]
          | cons y l ih =>
            have e : (S.ens (y :: l)).length = (enc y).length + (S.ens l).length := by simp [S.ens]
            have hy : 0 < (enc y).length := by unfold enc; rw [List.length_append, up_len]; have := len_pos y.size; omega
            rw [e, List.length_cons]; omega
        have := this L; omega
      have HEN := Lib.hid hens
      clear hens
      go_wp2_with fail
      obtain ⟨c, hcc⟩ : ∃ c, w5.heap.size = c := ⟨_, rfl⟩
      have hC6 : (w5.alloc (.cells #[.slice none 0 0] 25)).heap[c]? = some (.cells #[.slice none 0 0] 25 (0, 0)) := by rw [← hcc]; exact heap_alloc_new w5 _
      have hB6 : Below c w5 (w5.alloc (.cells #[.slice none 0 0] 25)) := by rw [← hcc]; exact (Below.refl _ w5).alloc (Nat.le_refl _) _
      have hz6 : (w5.alloc (.cells #[.slice none 0 0] 25)).heap.size = c + 1 := by rw [← hcc]; simp
      rw [hcc]
      generalize w5.alloc (.cells #[.slice none 0 0] 25) = w6 at *
      have H6 := Lib.hid (⟨hC6, hB6, hz6⟩ : _ ∧ _ ∧ _)
      have HCC := Lib.hid hcc
      clear hC6 hB6 hz6 hcc
      refine (S.values_mk _ w6 ⟨_, _, _, rfl⟩).mono ?_
      rintro e w7 ⟨rfl, hv7, hb7⟩
      have H7 := Lib.hid (⟨hv7, hb7⟩ : _ ∧ _)
      rw [H6.out.2.2] at hv7 hb7 ⊢
      have hz7 : c + 1 < w7.heap.size := (Array.getElem?_eq_some_iff.1 hv7).1
      have H7 := Lib.hid (⟨hv7, hb7⟩ : _ ∧ _)
      clear hv7 hb7
      have hrows : w7.ownsRow w3.heap.size 9 1 (.slice ao4 L.length cap4) L.length (L.map Value.string) := own_below (own_below HO4.out (by rw [HCC.out]; exact H6.out.2.1)) (by rw [H6.out.2.2]; exact H7.out.2)
      go_wp2_with fail
      refine (S.put_any c (c + 1) ao4 cap4 L w7 ((H7.out.2.block c (by omega)).trans H6.out.1) H7.out.1 ?_ (fun x hx => by have := ens_item_len hx; have := HEN.out; omega) (by omega) (ens_take_len (by have := HEN.out; omega))).mono ?_
      · intro i u hu
        rcases hrows.2 with ⟨e, h0⟩ | ⟨g, cp, cur, e, _, _, _⟩
        · have hL : L = [] := List.eq_nil_of_length_eq_zero h0
          rw [hL] at hu
          simp at hu
        · simp only [Value.slice.injEq] at e
          obtain ⟨rfl, _, rfl⟩ := e
          have hi := (List.getElem?_eq_some_iff.1 hu).1
          refine ⟨g, 0, rfl, ?_⟩
          rw [Nat.zero_add, hrows.cellAt i (by simpa using hi)]
          exact hu
      rintro e w8 ⟨rfl, hc8, ht8⟩
      rw [← HEQ.out] at hc8
      have hb8 : Below c w7 w8 := ht8.below (by omega) (Nat.le_refl c)
      have hcw : w.heap.size ≤ c := by have := HBE.out.size; rw [HCC.out] at this; exact this
      have HBF : Hid (Below w.heap.size w w8) := HBE.out.trans (((H6.out.2.1.trans (H7.out.2.mono (by omega))).trans hb8).mono hcw)
      have HC8 := Lib.hid hc8
      clear hc8 ht8 hb8 hrows
      go_wp2_with fail
      have kb8 := (cut_below HB.out (Nat.le_refl _) (w' := w8.drew) HBF.out.drew).string HO.out
      refine region_plain hmx ?_
      refine wpAny_take (i := 2) (v := ?_) rfl (by kernel_rfl) (by kernel_rfl) (by kernel_rfl) (fun _ _ _ h => h) (Or.inl ⟨by rfl, ?_⟩) ?_
      rotate_left
      · intro w; go_simp; with_reducible rfl
      try simp only [Act.put, List.getElem_toArray, List.getElem_cons_succ, List.getElem_cons_zero, List.setIfInBounds_toArray, List.set_cons_zero, List.set_cons_succ]
      refine wpAny_ready (rs := [0, 3]) (by kernel_rfl) (by simp) (AllReady.cons rfl (fun K hK => ?_) (AllReady.cons rfl (fun K hK => ?_) AllReady.nil))
      · go_simp
        refine (bytes_any c w7.heap.size bs w8.drew HC8.out (by omega)).mono ?_
        rintro e w9 ⟨v9, rfl, ho9, hb9⟩
        have hb9 : Below w8.heap.size w8 w9 := ⟨hb9.os, hb9.tape, hb9.output, hb9.size, hb9.block⟩
        have ko9 := (cut_own ho9 hb9.size).string HO.out
        have kb9 := (cut_below HB.out (Nat.le_refl _) (HBF.out.trans (hb9.mono HBF.out.size))).string HO.out
        have HF := Lib.hid (HBF.out.trans (hb9.mono HBF.out.size))
        clear ho9 hb9
        refine hK _ _ ?_
        clear hK K
        try simp only [Act.put, List.getElem_toArray, List.getElem_cons_succ, List.getElem_cons_zero, List.setIfInBounds_toArray, List.set_cons_zero, List.set_cons_succ]
        refine wpAny_ready (rs := [1, 3]) (by kernel_rfl) (by simp) (AllReady.cons rfl (fun K hK => ?_) (AllReady.cons rfl (fun K hK => ?_) AllReady.nil))
        · go_simp
          refine hK _ _ ?_
          clear hK K
          try simp only [Act.put, List.getElem_toArray, List.getElem_cons_succ, List.getElem_cons_zero, List.setIfInBounds_toArray, List.set_cons_zero, List.set_cons_succ]
          refine wpAny_ready (rs := [3]) (by kernel_rfl) (by simp) (AllReady.cons rfl (fun K hK => ?_) AllReady.nil)
          go_simp
          refine hK _ _ ?_
          clear hK K
          try simp only [Act.put, List.getElem_toArray, List.getElem_cons_succ, List.getElem_cons_zero, List.setIfInBounds_toArray, List.set_cons_zero, List.set_cons_succ]
          refine wpAny_ready (rs := [4]) (by kernel_rfl) (by simp) (AllReady.cons rfl (fun K hK => ?_) AllReady.nil)
          go_simp
          refine hK _ _ ?_
          clear hK K
          try simp only [Act.put, List.getElem_toArray, List.getElem_cons_succ, List.getElem_cons_zero, List.setIfInBounds_toArray, List.set_cons_zero, List.set_cons_succ]
          refine wpAny_ready (rs := [5]) (by kernel_rfl) (by simp) (AllReady.cons rfl (fun K hK => ?_) AllReady.nil)
          go_simp
          refine hK _ _ ?_
          clear hK K
          try simp only [Act.put, List.getElem_toArray, List.getElem_cons_succ, List.getElem_cons_zero, List.setIfInBounds_toArray, List.set_cons_zero, List.set_cons_succ]
          refine wpAny_done (by kernel_rfl) ?_ _
          go_wp2
          go_ret
          exact ⟨rfl, HF.out⟩
        · go_simp
          refine hK _ _ ?_
          clear hK K
          try simp only [Act.put, List.getElem_toArray, List.getElem_cons_succ, List.getElem_cons_zero, List.setIfInBounds_toArray, List.set_cons_zero, List.set_cons_succ]
          refine wpAny_ready (rs := [1]) (by kernel_rfl) (by simp) (AllReady.cons rfl (fun K hK => ?_) AllReady.nil)
          go_simp
          refine hK _ _ ?_
          clear hK K
          try simp only [Act.put, List.getElem_toArray, List.getElem_cons_succ, List.getElem_cons_zero, List.setIfInBounds_toArray, List.set_cons_zero, List.set_cons_succ]
          refine wpAny_ready (rs := [4]) (by kernel_rfl) (by simp) (AllReady.cons rfl (fun K hK => ?_) AllReady.nil)
          go_simp
          refine hK _ _ ?_
          clear hK K
          try simp only [Act.put, List.getElem_toArray, List.getElem_cons_succ, List.getElem_cons_zero, List.setIfInBounds_toArray, List.set_cons_zero, List.set_cons_succ]
          refine wpAny_ready (rs := [5]) (by kernel_rfl) (by simp) (AllReady.cons rfl (fun K hK => ?_) AllReady.nil)
          go_simp
          refine hK _ _ ?_
          clear hK K
          try simp only [Act.put, List.getElem_toArray, List.getElem_cons_succ, List.getElem_cons_zero, List.setIfInBounds_toArray, List.set_cons_zero, List.set_cons_succ]
          refine wpAny_done (by kernel_rfl) ?_ _
          go_wp2
          go_ret
          exact ⟨rfl, HF.out⟩
      · go_simp
        refine hK _ _ ?_
        clear hK K
        try simp only [Act.put, List.getElem_toArray, List.getElem_cons_succ, List.getElem_cons_zero, List.setIfInBounds_toArray, List.set_cons_zero, List.set_cons_succ]
        refine wpAny_ready (rs := [0]) (by kernel_rfl) (by simp) (AllReady.cons rfl (fun K hK => ?_) AllReady.nil)
        go_simp
        refine (bytes_any c w7.heap.size bs w8.drew HC8.out (by omega)).mono ?_
        rintro e w9 ⟨v9, rfl, ho9, hb9⟩
        have hb9 : Below w8.heap.size w8 w9 := ⟨hb9.os, hb9.tape, hb9.output, hb9.size, hb9.block⟩
        have ko9 := (cut_own ho9 hb9.size).string HO.out
        have kb9 := (cut_below HB.out (Nat.le_refl _) (HBF.out.trans (hb9.mono HBF.out.size))).string HO.out
        have HF := Lib.hid (HBF.out.trans (hb9.mono HBF.out.size))
        clear ho9 hb9
        refine hK _ _ ?_
        clear hK K
        try simp only [Act.put, List.getElem_toArray, List.getElem_cons_succ, List.getElem_cons_zero, List.setIfInBounds_toArray, List.set_cons_zero, List.set_cons_succ]
        refine wpAny_ready (rs := [1]) (by kernel_rfl) (by simp) (AllReady.cons rfl (fun K hK => ?_) AllReady.nil)
        go_simp
        refine hK _ _ ?_
        clear hK K
        try simp only [Act.put, List.getElem_toArray, List.getElem_cons_succ, List.getElem_cons_zero, List.setIfInBounds_toArray, List.set_cons_zero, List.set_cons_succ]
        refine wpAny_ready (rs := [4]) (by kernel_rfl) (by simp) (AllReady.cons rfl (fun K hK => ?_) AllReady.nil)
        go_simp
        refine hK _ _ ?_
        clear hK K
        try simp only [Act.put, List.getElem_toArray, List.getElem_cons_succ, List.getElem_cons_zero, List.setIfInBounds_toArray, List.set_cons_zero, List.set_cons_succ]
        refine wpAny_ready (rs := [5]) (by kernel_rfl) (by simp) (AllReady.cons rfl (fun K hK => ?_) AllReady.nil)
        go_simp
        refine hK _ _ ?_
        clear hK K
        try simp only [Act.put, List.getElem_toArray, List.getElem_cons_succ, List.getElem_cons_zero, List.setIfInBounds_toArray, List.set_cons_zero, List.set_cons_succ]
        refine wpAny_done (by kernel_rfl) ?_ _
        go_wp2
        go_ret
        exact ⟨rfl, HF.out⟩
    · have hend2 : (endN bs4 f4 != 0) = true := by simpa using hend
      go_wp2
      go_ret
      exact ⟨rfl, HBE.out⟩
  · go_wp2_with fail
    refine (awake_any w1).mono ?_
    rintro e w2 ⟨rfl, hb2⟩
    have HB2 := Lib.hid (HB1.out.trans (hb2.mono HB1.out.size))
    clear hb2
    go_wp2
    go_ret
    exact ⟨rfl, HB2.out⟩
end Go.Proofs.Ytdgcafohfedbhaa
