import Derived.Test.YtdgcafohfedbhaaDoorJ
namespace Go.Proofs.YtdgcafohfedbhaaDoor.T
open Go.RowKit Go.Joins
open Go.Proofs.YtdgcafohfedbhaaDoor.K
attribute [local go_sem] Oper.semAt_some
set_option linter.unusedVariables false
set_option linter.unusedSimpArgs false

theorem info22 : (Tryd.prog.info? 22).map (fun i => (i.zero, i.size, i.bytes)) = some (some (.slice none 0 0), 1, 24) := by kernel_rfl

set_option maxRecDepth 100000 in
set_option maxHeartbeats 32000000 in
/-- the whole part is scanned: frames, and a torn one or nothing behind them -/
theorem scan_any (a : Option Addr) (c : Nat) (L : List (List Nat)) (tail : List Nat) (w : World) (ho : Oct (chain L ++ tail)) (hsm : ∀ x ∈ L, x.length ≤ 200000) (htl : (oneP tail).2.2 = 17) (hl : (chain L ++ tail).length ≤ 1000000) (hc : (chain L ++ tail).length ≤ c) (hcm : c ≤ maxLen) (hLn : L.length ≤ 1000)
    (hcu : Cut w w.heap.size (.slice a (chain L ++ tail).length c) (chain L ++ tail)) (hN : NibAt w) :
    Calls Tryd.prog 10 #[.slice a (chain L ++ tail).length c] w fun e w' => ∃ v vals, e = .returned (.tuple #[v, .int .i64 (off L L.length : Int), .int .i64 0]) ∧ w'.ownsRow w.heap.size 22 1 v L.length vals ∧ Clones w' w.heap.size vals L ∧ Below w.heap.size w w' := by
  obtain ⟨i22, hi22, hz22⟩ := Option.map_eq_some_iff.1 info22
  simp only [Prod.mk.injEq] at hz22
  refine calls_marks (n := 5) Tryd.func10 rfl ?_
  simp only [Tryd.ntmps10, List.size_toArray, List.length_cons, List.length_nil, Nat.reduceAdd, Nat.reduceSub, Array.replicate_succ, Array.replicate_zero, List.push_toArray, List.append_toArray, List.nil_append, List.cons_append]
  have hmx : Tryd.prog.follows .mixedOrders = true := by kernel_rfl
  have HO := Lib.hid (⟨ho, hsm, htl, hl, hc, hcm⟩ : _ ∧ _ ∧ _ ∧ _ ∧ _ ∧ _)
  have HCU := Lib.hid hcu
  have HNI := Lib.hid hN
  obtain ⟨N, hNN⟩ : ∃ N, (chain L ++ tail).length = N := ⟨_, rfl⟩
  have HN := Lib.hid hNN
  have hcm2 := hcm
  unfold maxLen at hcm2
  rw [hNN] at hl hc ⊢
  clear ho hsm htl hcm hcu hN hNN
  go_wp2_with fail
  obtain ⟨w2, hw2⟩ : ∃ w2, (w.alloc (.cells #[.slice none 0 0] 32)).alloc (.cells #[.int .i64 0] 3) = w2 := ⟨_, rfl⟩
  obtain ⟨t, ht⟩ : ∃ t, w.heap.size = t := ⟨_, rfl⟩
  have hB2 : Below t w w2 := by subst ht hw2; exact ((Below.refl _ w).alloc (Nat.le_refl _) _).alloc (by simp) _
  have hs2 : w2.heap.size = t + 2 := by subst ht hw2; simp
  have g0 : w2.heap[t]? = some (.cells #[.slice none 0 0] 32 (0, 0)) := by
    subst ht hw2
    exact (Below.heap_alloc _ _ _ (by simp)).trans (heap_alloc_new w _)
  have g1 : w2.heap[t + 1]? = some (.cells #[.int .i64 0] 3 (0, 0)) := by
    subst ht hw2
    have := heap_alloc_new (w.alloc (.cells #[.slice none 0 0] 32)) (.cells #[.int .i64 0] 3)
    rw [show (w.alloc (.cells #[.slice none 0 0] 32)).heap.size = w.heap.size + 1 by simp] at this
    exact this
  rw [hw2, ht]
  have HT := Lib.hid ht
  clear hw2 ht
  refine (frames_mk _ w2 ⟨_, _, _, rfl⟩).mono ?_
  rintro e w3 ⟨rfl, gb, hB3⟩
  rw [hs2] at gb hB3 ⊢
  have hlt3 : t + 2 < w3.heap.size := (Array.getElem?_eq_some_iff.1 gb).1
  have HB3 : Hid (Below t w w3) := hB2.trans (hB3.mono (by omega))
  have HG : Hid (w3.heap[t]? = some (.cells #[.slice none 0 0] 32 (0, 0)) ∧ w3.heap[t + 1]? = some (.cells #[.int .i64 0] 3 (0, 0)) ∧ w3.heap[t + 2]? = some (.cells #[.slice a N c] 22 (0, 0))) := ⟨(hB3.block t (by omega)).trans g0, (hB3.block (t + 1) (by omega)).trans g1, gb⟩
  clear hB2 hB3 g0 g1 gb hs2
  go_wp2_with fail
  refine range_law (n := 3) (gf := 22) (lb := #[.pointer (some ⟨t + 2, 0, none⟩)]) rfl (enters_of Tryd.func22 (by kernel_rfl) rfl) ?_
  intro fn W0 rec hrec hW0
  have hB0 : Below w3.heap.size w3 W0 := by rw [hW0]; exact ((Below.refl _ w3).alloc (Nat.le_refl _) _).alloc (by simp) _
  have hD : W0.heap[w3.heap.size]? = some (.deferred (some [])) := by rw [hW0]; exact (Below.heap_alloc _ _ _ (by simp)).trans (heap_alloc_new w3 _)
  have hL : W0.heap[w3.heap.size + 1]? = some (.loop (rec .ready none)) := by
    have := heap_alloc_new (w3.alloc (.deferred (some []))) (.loop (rec .ready none))
    rw [← hW0] at this
    simpa using this
  have hs0 : W0.heap.size = w3.heap.size + 2 := by rw [hW0]; simp
  have HJ0 : Hid (SJ w t w3.heap.size N c a L rec 0 W0) := ⟨HB3.out.trans (hB0.mono (by omega)), Nat.le_of_eq hs0.symm, ⟨_, [], below_blk hB0 HG.out.1, World.ownsRow_nil _ _ _ _, fun j v x hv => by simp at hv⟩, below_blk hB0 HG.out.2.1, below_blk hB0 HG.out.2.2, ⟨hL, hD⟩⟩
  clear hB0 hD hL hs0 hW0 HG HB3
  generalize w3.heap.size = D at *
  refine (frames_any (D + 1) 3 a c L tail (t + 2) (fun i W => SJ w t D N c a L rec i W) HO.out.1 HO.out.2.1 (by rw [HO.out.2.2.1]; decide) (by rw [HN.out]; exact hl) (by rw [HN.out]; exact hc) HO.out.2.2.2.2.2 (fun i W h => ?_) (fun i W W' h hb => h.below hlt3 hb) ?_ W0 HJ0.out).mono ?_
  · have hb := h.box
    have hbel : Below w.heap.size w W := by rw [HT.out]; exact h.bel
    obtain ⟨a', c', e, h1, h2⟩ := cut_below HCU.out (Nat.le_refl _) hbel
    cases e
    refine ⟨by rw [HN.out]; simp [World.cell?, hb], h1, fun ad e => Nat.lt_of_lt_of_le (h2 ad e) hbel.size, HNI.out.below hbel HNI.out.pos⟩
  · intro i x v W hx h hcv
    refine yield_of (n := 3) hrec h.ready rfl ?_
    have H := Lib.hid h
    have HX := Lib.hid hx
    have HCV := Lib.hid hcv
    obtain ⟨av, cv, rfl, _, _⟩ := hcv
    clear h hrec hx
    gi_wp2
    refine ⟨H.out.ready, ?_⟩
    have hsz := H.out.size
    have hiL : i < L.length := (List.getElem?_eq_some_iff.1 HX.out).1
    have keep : ∀ k, k ≠ D + 1 → (W.putObj (D + 1) (.loop (rec .busy none))).heap[k]? = W.heap[k]? := fun k hk => World.putObj_heap_other hk
    have hBu : Busy (W.putObj (D + 1) (.loop (rec .busy none))) (D + 1) D rec := ⟨World.putObj_heap_same (Array.getElem?_eq_some_iff.1 H.out.ready.1).1, (keep D (by omega)).trans H.out.ready.2⟩
    have hVs : (W.putObj (D + 1) (.loop (rec .busy none))).heap.size = W.heap.size := by simp
    have hVb : Below t w (W.putObj (D + 1) (.loop (rec .busy none))) := ⟨H.out.bel.os, H.out.bel.tape, H.out.bel.output, by rw [hVs]; exact H.out.bel.size, fun k hk => (keep k (by omega)).trans (H.out.bel.block k hk)⟩
    have hcutV : Cut (W.putObj (D + 1) (.loop (rec .busy none))) W.heap.size (.slice av x.length cv) x := by
      obtain ⟨a', c', e, h1, h2⟩ := HCV.out
      refine ⟨a', c', e, fun j y hy => ?_, h2⟩
      obtain ⟨g', o', e2, hc2⟩ := h1 j y hy
      exact ⟨g', o', e2, (put_cell H.out.ready.1 rfl rfl _).trans hc2⟩
    obtain ⟨V, hV⟩ : ∃ V, W.putObj (D + 1) (.loop (rec .busy none)) = V := ⟨_, rfl⟩
    rw [hV] at keep hBu hVs hVb hcutV ⊢
    obtain ⟨vo, vals, p1, p2, p3⟩ := H.out.out
    obtain ⟨aoo, capo, rfl⟩ := own_form p2
    have q1 := (keep t (by omega)).trans p1
    have q2 : V.ownsRow (D + 2) 22 1 (.slice aoo i capo) i vals := own_same p2 fun k hk => keep k (by have := (p2.lt k hk).1; omega)
    have q3 : Clones V (D + 2) vals L := p3.same fun k hk _ => keep k (by omega)
    have q4 := (keep (t + 1) (by omega)).trans H.out.fin
    have q5 := (keep (t + 2) (by omega)).trans H.out.box
    have HV := Lib.hid (⟨q1, q2, q3, q4, q5, hBu, hVs, hVb, hcutV⟩ : _ ∧ _ ∧ _ ∧ _ ∧ _ ∧ _ ∧ _ ∧ _ ∧ _)
    have c0 : V.cell? ⟨t, 0, none⟩ = some (.slice aoo i capo) := by simp [World.cell?, q1]
    have hxl : x.length ≤ 200000 := HO.out.2.1 x (List.mem_of_getElem? HX.out)
    have hvl : vals.length = i := by simpa using q2.1
    have HVL := Lib.hid hvl
    have hVsz : D + 2 ≤ V.heap.size := by omega
    clear keep hBu hVs hVb hcutV hV p1 p2 p3 q1 q2 q3 q4 q5 H HCV hsz hvl
    gi_wp2_with fail
    refine region_round hmx (by kernel_rfl) (by rintro ⟨_, _, h⟩; exact h) ?_
    refine wpAny_take (i := 1) (v := ?_) rfl (by kernel_rfl) (by kernel_rfl) (by kernel_rfl) (fun _ _ _ h => h) (Or.inl ⟨by rfl, ?_⟩) ?_
    rotate_left
    · intro w; go_simp; with_reducible rfl
    try simp only [Act.put, List.getElem_toArray, List.getElem_cons_succ, List.getElem_cons_zero, List.setIfInBounds_toArray, List.set_cons_zero, List.set_cons_succ]
    refine wpAny_take (i := 5) (v := ?_) rfl (by kernel_rfl) (by kernel_rfl) (by kernel_rfl) (fun _ _ _ h => h) (Or.inl ⟨by rfl, ?_⟩) ?_
    rotate_left
    · intro w; go_simp; with_reducible rfl
    try simp only [Act.put, List.getElem_toArray, List.getElem_cons_succ, List.getElem_cons_zero, List.setIfInBounds_toArray, List.set_cons_zero, List.set_cons_succ]
    refine wpAny_ready (rs := [0, 2]) (by kernel_rfl) (by simp) (AllReady.cons rfl (fun K hK => ?_) (AllReady.cons rfl (fun K hK => ?_) AllReady.nil))
    · go_simp
      refine hK _ _ ?_
      clear hK K
      try simp only [Act.put, List.getElem_toArray, List.getElem_cons_succ, List.getElem_cons_zero, List.setIfInBounds_toArray, List.set_cons_zero, List.set_cons_succ]
      refine wpAny_ready (rs := [2]) (by kernel_rfl) (by simp) (AllReady.cons rfl (fun K hK => ?_) AllReady.nil)
      go_simp
      refine (clone_cut V.heap.size _ x V.drew (show Cut V.drew V.heap.size _ x from (by rw [HV.out.2.2.2.2.2.2.1]; exact HV.out.2.2.2.2.2.2.2.2)) (by omega)).mono ?_
      rintro e w1 ⟨vc, rfl, ho1, hb1⟩
      have hb1 : Below V.heap.size V w1 := ⟨hb1.os, hb1.tape, hb1.output, hb1.size, hb1.block⟩
      obtain ⟨aoc, capc, rfl⟩ := own_form ho1
      have hs1 : V.heap.size ≤ w1.heap.size := hb1.size
      have H1 := Lib.hid (⟨ho1, hb1⟩ : _ ∧ _)
      have c1 : w1.cell? ⟨t, 0, none⟩ = some (.slice aoo i capo) := by rw [hb1.cell (by simp; omega)]; exact c0
      have HBB := Lib.hid ((Below.refl w1.heap.size w1).alloc (Nat.le_refl _) (.cells #[.slice aoc x.length capc] 22))
      have c2 : (w1.alloc (.cells #[.slice aoc x.length capc] 22)).cell? ⟨t, 0, none⟩ = some (.slice aoo i capo) := by rw [HBB.out.cell (by simp; omega)]; exact c1
      have HO2 := Lib.hid (own_below (own_below HV.out.2.1 hb1) HBB.out)
      clear ho1 hb1
      refine hK _ _ ?_
      clear hK K
      try simp only [Act.put, List.getElem_toArray, List.getElem_cons_succ, List.getElem_cons_zero, List.setIfInBounds_toArray, List.set_cons_zero, List.set_cons_succ]
      refine wpAny_ready (rs := [3]) (by kernel_rfl) (by simp) (AllReady.cons rfl (fun K hK => ?_) AllReady.nil)
      go_simp
      refine hK _ _ ?_
      clear hK K
      try simp only [Act.put, List.getElem_toArray, List.getElem_cons_succ, List.getElem_cons_zero, List.setIfInBounds_toArray, List.set_cons_zero, List.set_cons_succ]
      refine wpAny_ready (rs := [4]) (by kernel_rfl) (by simp) (AllReady.cons rfl (fun K hK => ?_) AllReady.nil)
      refine step_append_own_at rfl (.tmp 16) (.tmp 19) 32 rfl (D + 2) 22 i22 _ 1 24 Tryd.underlying32 hi22 hz22.1 hz22.2.1 hz22.2.2 rfl (by omega) _ i _ (by simp [Act.eval, Act.put]) HO2.out ⟨w1.heap.size, 0, none⟩ 1 1 [.slice aoc x.length capc] (by simp [Act.eval, Act.put]) rfl (World.news_of_block (heap_alloc_new w1 _)) (by intro u hu; simp at hu; subst hu; rfl) (by unfold maxLen; omega) (by omega) (by simp; omega) ?_
      intro v3 w3 hown3 hg3
      obtain ⟨ao3, cap3, rfl⟩ := own_form hown3
      have hbo : ∀ k, (Value.slice aoo i capo).ownBlock = some k → D + 2 ≤ k := fun k hk => (HO2.out.lt k hk).1
      have keep3 : ∀ k, k < D + 2 → w3.heap[k]? = V.heap[k]? := fun k hk => by
        rw [hg3.block k (by simp; omega) (fun e => by have := hbo k e.symm; omega), HBB.out.block k (by omega)]
        exact H1.out.2.block k (by omega)
      have hs3 : V.heap.size ≤ w3.heap.size := by have := hg3.size; simp at this; omega
      have hcl3 : Clones w3 (D + 2) (vals ++ [.slice aoc x.length capc]) L := by
        have h1 : Clones (w1.alloc (.cells #[.slice aoc x.length capc] 22)) (D + 2) (vals ++ [.slice aoc x.length capc]) L :=
          ((HV.out.2.2.1.below H1.out.2).below HBB.out).snoc (by rw [HVL.out]; exact HX.out) (own_below (own_base H1.out.1 (show D + 2 ≤ V.heap.size from hVsz)) HBB.out)
        intro j u y hu hy
        exact own_grown (h1 j u y hu hy) hg3 (fun k hk => row_block HO2.out k hk)
      have H3 := Lib.hid (⟨hown3, keep3, hs3, hcl3, (⟨hg3.os.trans (HBB.out.os.trans H1.out.2.os), hg3.tape.trans (HBB.out.tape.trans H1.out.2.tape), hg3.output.trans (HBB.out.output.trans H1.out.2.output)⟩ : w3.os = V.os ∧ w3.tape = V.tape ∧ w3.output = V.output)⟩ : _ ∧ _ ∧ _ ∧ _ ∧ _)
      have r1 := (keep3 t (by omega)).trans HV.out.1
      have r2 := (keep3 (t + 1) (by omega)).trans HV.out.2.2.2.1
      have d1 : w3.cell? ⟨t, 0, none⟩ = some (.slice aoo i capo) := by simp [World.cell?, r1]
      have d2 : w3.frozen? ⟨t, 0, none⟩ = false := by simp [World.frozen?, r1]
      have d3 : w3.cell? ⟨t + 1, 0, none⟩ = some (.int .i64 (off L i : Int)) := by simp [World.cell?, r2]
      have d4 : w3.frozen? ⟨t + 1, 0, none⟩ = false := by simp [World.frozen?, r2]
      have HR3 := Lib.hid (⟨r1, r2⟩ : _ ∧ _)
      clear hown3 hg3 hbo keep3 hs3 hcl3 r1 r2 c2
      refine hK _ _ ?_
      clear hK K
      try simp only [Act.put, List.getElem_toArray, List.getElem_cons_succ, List.getElem_cons_zero, List.setIfInBounds_toArray, List.set_cons_zero, List.set_cons_succ]
      refine wpAny_ready (rs := [6]) (by kernel_rfl) (by simp) (AllReady.cons rfl (fun K hK => ?_) AllReady.nil)
      go_simp
      refine hK _ _ ?_
      clear hK K
      try simp only [Act.put, List.getElem_toArray, List.getElem_cons_succ, List.getElem_cons_zero, List.setIfInBounds_toArray, List.set_cons_zero, List.set_cons_succ]
      refine wpAny_ready (rs := [7]) (by kernel_rfl) (by simp) (AllReady.cons rfl (fun K hK => ?_) AllReady.nil)
      go_simp
      refine hK _ _ ?_
      clear hK K
      try simp only [Act.put, List.getElem_toArray, List.getElem_cons_succ, List.getElem_cons_zero, List.setIfInBounds_toArray, List.set_cons_zero, List.set_cons_succ]
      skip
      obtain ⟨W3, hW3⟩ : ∃ W3, (w3.setCell ⟨t, 0, none⟩ (.slice ao3 (i + 1) cap3)).setCell ⟨t + 1, 0, none⟩ (.int .i64 (off L (i + 1) : Int)) = W3 := ⟨_, rfl⟩
      have hu := two_set (p := t) (q := t + 1) (x := .slice ao3 (i + 1) cap3) (y := .int .i64 (off L (i + 1) : Int)) (by omega) HR3.out.1 HR3.out.2
      rw [hW3] at hu
      obtain ⟨u1, u2, u3, u4, u5, u6, u7⟩ := hu
      have fin : SJ w t D N c a L rec (i + 1) (W3.putObj (D + 1) (.loop (rec .ready none))) ∧ Busy W3 (D + 1) D rec := by
        have hbz : W3.heap[D + 1]? = some (.loop (rec .busy none)) := (u1 _ (by omega) (by omega)).trans ((H3.out.2.1 _ (by omega)).trans HV.out.2.2.2.2.2.1.1)
        have hdz : W3.heap[D]? = some (.deferred (some [])) := (u1 _ (by omega) (by omega)).trans ((H3.out.2.1 _ (by omega)).trans HV.out.2.2.2.2.2.1.2)
        refine ⟨⟨⟨?_, ?_, ?_, ?_, fun k hk => ?_⟩, ?_, ⟨.slice ao3 (i + 1) cap3, vals ++ [.slice aoc x.length capc], ?_, ?_, ?_⟩, ?_, ?_, ⟨World.putObj_heap_same (Array.getElem?_eq_some_iff.1 hbz).1, (World.putObj_heap_other (show D ≠ D + 1 by omega)).trans hdz⟩⟩, ⟨hbz, hdz⟩⟩
        · exact u5.trans (H3.out.2.2.2.2.1.trans HV.out.2.2.2.2.2.2.2.1.os)
        · exact u6.trans (H3.out.2.2.2.2.2.1.trans HV.out.2.2.2.2.2.2.2.1.tape)
        · exact u7.trans (H3.out.2.2.2.2.2.2.trans HV.out.2.2.2.2.2.2.2.1.output)
        · have h1 := HV.out.2.2.2.2.2.2.2.1.size
          have h2 := H3.out.2.2.1
          simp only [World.putObj_size]
          omega
        · exact (World.putObj_heap_other (show k ≠ D + 1 by omega)).trans ((u1 k (by omega) (by omega)).trans ((H3.out.2.1 k (by omega)).trans (HV.out.2.2.2.2.2.2.2.1.block k hk)))
        · have h2 := H3.out.2.2.1
          simp only [World.putObj_size]
          omega
        · exact (World.putObj_heap_other (show t ≠ D + 1 by omega)).trans u2
        · refine own_same H3.out.1 fun k hk => ?_
          have := (H3.out.1.lt k hk).1
          exact (World.putObj_heap_other (by omega)).trans (u1 k (by omega) (by omega))
        · exact H3.out.2.2.2.1.same fun k hk _ => (World.putObj_heap_other (by omega)).trans (u1 k (by omega) (by omega))
        · exact (World.putObj_heap_other (show t + 1 ≠ D + 1 by omega)).trans u3
        · exact (World.putObj_heap_other (show t + 2 ≠ D + 1 by omega)).trans ((u1 _ (by omega) (by omega)).trans ((H3.out.2.1 _ (by omega)).trans HV.out.2.2.2.2.1))
      have FIN := Lib.hid fin
      clear fin u1 u2 u3 u4 u5 u6 u7 d1 d2 d3 d4
      refine wpAny_done (by kernel_rfl) ?_ _
      (try rw [hW3])
      gi_wp2
      (try rw [hW3])
      exact ⟨FIN.out.2, rfl, FIN.out.1⟩
    · go_simp
      refine (clone_cut V.heap.size _ x V.drew (show Cut V.drew V.heap.size _ x from (by rw [HV.out.2.2.2.2.2.2.1]; exact HV.out.2.2.2.2.2.2.2.2)) (by omega)).mono ?_
      rintro e w1 ⟨vc, rfl, ho1, hb1⟩
      have hb1 : Below V.heap.size V w1 := ⟨hb1.os, hb1.tape, hb1.output, hb1.size, hb1.block⟩
      obtain ⟨aoc, capc, rfl⟩ := own_form ho1
      have hs1 : V.heap.size ≤ w1.heap.size := hb1.size
      have H1 := Lib.hid (⟨ho1, hb1⟩ : _ ∧ _)
      have c1 : w1.cell? ⟨t, 0, none⟩ = some (.slice aoo i capo) := by rw [hb1.cell (by simp; omega)]; exact c0
      have HBB := Lib.hid ((Below.refl w1.heap.size w1).alloc (Nat.le_refl _) (.cells #[.slice aoc x.length capc] 22))
      have c2 : (w1.alloc (.cells #[.slice aoc x.length capc] 22)).cell? ⟨t, 0, none⟩ = some (.slice aoo i capo) := by rw [HBB.out.cell (by simp; omega)]; exact c1
      have HO2 := Lib.hid (own_below (own_below HV.out.2.1 hb1) HBB.out)
      clear ho1 hb1
      refine hK _ _ ?_
      clear hK K
      try simp only [Act.put, List.getElem_toArray, List.getElem_cons_succ, List.getElem_cons_zero, List.setIfInBounds_toArray, List.set_cons_zero, List.set_cons_succ]
      refine wpAny_ready (rs := [0, 3]) (by kernel_rfl) (by simp) (AllReady.cons rfl (fun K hK => ?_) (AllReady.cons rfl (fun K hK => ?_) AllReady.nil))
      · go_simp
        refine hK _ _ ?_
        clear hK K
        try simp only [Act.put, List.getElem_toArray, List.getElem_cons_succ, List.getElem_cons_zero, List.setIfInBounds_toArray, List.set_cons_zero, List.set_cons_succ]
        refine wpAny_ready (rs := [3]) (by kernel_rfl) (by simp) (AllReady.cons rfl (fun K hK => ?_) AllReady.nil)
        go_simp
        refine hK _ _ ?_
        clear hK K
        try simp only [Act.put, List.getElem_toArray, List.getElem_cons_succ, List.getElem_cons_zero, List.setIfInBounds_toArray, List.set_cons_zero, List.set_cons_succ]
        refine wpAny_ready (rs := [4]) (by kernel_rfl) (by simp) (AllReady.cons rfl (fun K hK => ?_) AllReady.nil)
        refine step_append_own_at rfl (.tmp 16) (.tmp 19) 32 rfl (D + 2) 22 i22 _ 1 24 Tryd.underlying32 hi22 hz22.1 hz22.2.1 hz22.2.2 rfl (by omega) _ i _ (by simp [Act.eval, Act.put]) HO2.out ⟨w1.heap.size, 0, none⟩ 1 1 [.slice aoc x.length capc] (by simp [Act.eval, Act.put]) rfl (World.news_of_block (heap_alloc_new w1 _)) (by intro u hu; simp at hu; subst hu; rfl) (by unfold maxLen; omega) (by omega) (by simp; omega) ?_
        intro v3 w3 hown3 hg3
        obtain ⟨ao3, cap3, rfl⟩ := own_form hown3
        have hbo : ∀ k, (Value.slice aoo i capo).ownBlock = some k → D + 2 ≤ k := fun k hk => (HO2.out.lt k hk).1
        have keep3 : ∀ k, k < D + 2 → w3.heap[k]? = V.heap[k]? := fun k hk => by
          rw [hg3.block k (by simp; omega) (fun e => by have := hbo k e.symm; omega), HBB.out.block k (by omega)]
          exact H1.out.2.block k (by omega)
        have hs3 : V.heap.size ≤ w3.heap.size := by have := hg3.size; simp at this; omega
        have hcl3 : Clones w3 (D + 2) (vals ++ [.slice aoc x.length capc]) L := by
          have h1 : Clones (w1.alloc (.cells #[.slice aoc x.length capc] 22)) (D + 2) (vals ++ [.slice aoc x.length capc]) L :=
            ((HV.out.2.2.1.below H1.out.2).below HBB.out).snoc (by rw [HVL.out]; exact HX.out) (own_below (own_base H1.out.1 (show D + 2 ≤ V.heap.size from hVsz)) HBB.out)
          intro j u y hu hy
          exact own_grown (h1 j u y hu hy) hg3 (fun k hk => row_block HO2.out k hk)
        have H3 := Lib.hid (⟨hown3, keep3, hs3, hcl3, (⟨hg3.os.trans (HBB.out.os.trans H1.out.2.os), hg3.tape.trans (HBB.out.tape.trans H1.out.2.tape), hg3.output.trans (HBB.out.output.trans H1.out.2.output)⟩ : w3.os = V.os ∧ w3.tape = V.tape ∧ w3.output = V.output)⟩ : _ ∧ _ ∧ _ ∧ _ ∧ _)
        have r1 := (keep3 t (by omega)).trans HV.out.1
        have r2 := (keep3 (t + 1) (by omega)).trans HV.out.2.2.2.1
        have d1 : w3.cell? ⟨t, 0, none⟩ = some (.slice aoo i capo) := by simp [World.cell?, r1]
        have d2 : w3.frozen? ⟨t, 0, none⟩ = false := by simp [World.frozen?, r1]
        have d3 : w3.cell? ⟨t + 1, 0, none⟩ = some (.int .i64 (off L i : Int)) := by simp [World.cell?, r2]
        have d4 : w3.frozen? ⟨t + 1, 0, none⟩ = false := by simp [World.frozen?, r2]
        have HR3 := Lib.hid (⟨r1, r2⟩ : _ ∧ _)
        clear hown3 hg3 hbo keep3 hs3 hcl3 r1 r2 c2
        refine hK _ _ ?_
        clear hK K
        try simp only [Act.put, List.getElem_toArray, List.getElem_cons_succ, List.getElem_cons_zero, List.setIfInBounds_toArray, List.set_cons_zero, List.set_cons_succ]
        refine wpAny_ready (rs := [6]) (by kernel_rfl) (by simp) (AllReady.cons rfl (fun K hK => ?_) AllReady.nil)
        go_simp
        refine hK _ _ ?_
        clear hK K
        try simp only [Act.put, List.getElem_toArray, List.getElem_cons_succ, List.getElem_cons_zero, List.setIfInBounds_toArray, List.set_cons_zero, List.set_cons_succ]
        refine wpAny_ready (rs := [7]) (by kernel_rfl) (by simp) (AllReady.cons rfl (fun K hK => ?_) AllReady.nil)
        go_simp
        refine hK _ _ ?_
        clear hK K
        try simp only [Act.put, List.getElem_toArray, List.getElem_cons_succ, List.getElem_cons_zero, List.setIfInBounds_toArray, List.set_cons_zero, List.set_cons_succ]
        skip
        obtain ⟨W3, hW3⟩ : ∃ W3, (w3.setCell ⟨t, 0, none⟩ (.slice ao3 (i + 1) cap3)).setCell ⟨t + 1, 0, none⟩ (.int .i64 (off L (i + 1) : Int)) = W3 := ⟨_, rfl⟩
        have hu := two_set (p := t) (q := t + 1) (x := .slice ao3 (i + 1) cap3) (y := .int .i64 (off L (i + 1) : Int)) (by omega) HR3.out.1 HR3.out.2
        rw [hW3] at hu
        obtain ⟨u1, u2, u3, u4, u5, u6, u7⟩ := hu
        have fin : SJ w t D N c a L rec (i + 1) (W3.putObj (D + 1) (.loop (rec .ready none))) ∧ Busy W3 (D + 1) D rec := by
          have hbz : W3.heap[D + 1]? = some (.loop (rec .busy none)) := (u1 _ (by omega) (by omega)).trans ((H3.out.2.1 _ (by omega)).trans HV.out.2.2.2.2.2.1.1)
          have hdz : W3.heap[D]? = some (.deferred (some [])) := (u1 _ (by omega) (by omega)).trans ((H3.out.2.1 _ (by omega)).trans HV.out.2.2.2.2.2.1.2)
          refine ⟨⟨⟨?_, ?_, ?_, ?_, fun k hk => ?_⟩, ?_, ⟨.slice ao3 (i + 1) cap3, vals ++ [.slice aoc x.length capc], ?_, ?_, ?_⟩, ?_, ?_, ⟨World.putObj_heap_same (Array.getElem?_eq_some_iff.1 hbz).1, (World.putObj_heap_other (show D ≠ D + 1 by omega)).trans hdz⟩⟩, ⟨hbz, hdz⟩⟩
          · exact u5.trans (H3.out.2.2.2.2.1.trans HV.out.2.2.2.2.2.2.2.1.os)
          · exact u6.trans (H3.out.2.2.2.2.2.1.trans HV.out.2.2.2.2.2.2.2.1.tape)
          · exact u7.trans (H3.out.2.2.2.2.2.2.trans HV.out.2.2.2.2.2.2.2.1.output)
          · have h1 := HV.out.2.2.2.2.2.2.2.1.size
            have h2 := H3.out.2.2.1
            simp only [World.putObj_size]
            omega
          · exact (World.putObj_heap_other (show k ≠ D + 1 by omega)).trans ((u1 k (by omega) (by omega)).trans ((H3.out.2.1 k (by omega)).trans (HV.out.2.2.2.2.2.2.2.1.block k hk)))
          · have h2 := H3.out.2.2.1
            simp only [World.putObj_size]
            omega
          · exact (World.putObj_heap_other (show t ≠ D + 1 by omega)).trans u2
          · refine own_same H3.out.1 fun k hk => ?_
            have := (H3.out.1.lt k hk).1
            exact (World.putObj_heap_other (by omega)).trans (u1 k (by omega) (by omega))
          · exact H3.out.2.2.2.1.same fun k hk _ => (World.putObj_heap_other (by omega)).trans (u1 k (by omega) (by omega))
          · exact (World.putObj_heap_other (show t + 1 ≠ D + 1 by omega)).trans u3
          · exact (World.putObj_heap_other (show t + 2 ≠ D + 1 by omega)).trans ((u1 _ (by omega) (by omega)).trans ((H3.out.2.1 _ (by omega)).trans HV.out.2.2.2.2.1))
        have FIN := Lib.hid fin
        clear fin u1 u2 u3 u4 u5 u6 u7 d1 d2 d3 d4
        refine wpAny_done (by kernel_rfl) ?_ _
        (try rw [hW3])
        gi_wp2
        (try rw [hW3])
        exact ⟨FIN.out.2, rfl, FIN.out.1⟩
      · go_simp
        refine hK _ _ ?_
        clear hK K
        try simp only [Act.put, List.getElem_toArray, List.getElem_cons_succ, List.getElem_cons_zero, List.setIfInBounds_toArray, List.set_cons_zero, List.set_cons_succ]
        refine wpAny_ready (rs := [0]) (by kernel_rfl) (by simp) (AllReady.cons rfl (fun K hK => ?_) AllReady.nil)
        go_simp
        refine hK _ _ ?_
        clear hK K
        try simp only [Act.put, List.getElem_toArray, List.getElem_cons_succ, List.getElem_cons_zero, List.setIfInBounds_toArray, List.set_cons_zero, List.set_cons_succ]
        refine wpAny_ready (rs := [4]) (by kernel_rfl) (by simp) (AllReady.cons rfl (fun K hK => ?_) AllReady.nil)
        refine step_append_own_at rfl (.tmp 16) (.tmp 19) 32 rfl (D + 2) 22 i22 _ 1 24 Tryd.underlying32 hi22 hz22.1 hz22.2.1 hz22.2.2 rfl (by omega) _ i _ (by simp [Act.eval, Act.put]) HO2.out ⟨w1.heap.size, 0, none⟩ 1 1 [.slice aoc x.length capc] (by simp [Act.eval, Act.put]) rfl (World.news_of_block (heap_alloc_new w1 _)) (by intro u hu; simp at hu; subst hu; rfl) (by unfold maxLen; omega) (by omega) (by simp; omega) ?_
        intro v3 w3 hown3 hg3
        obtain ⟨ao3, cap3, rfl⟩ := own_form hown3
        have hbo : ∀ k, (Value.slice aoo i capo).ownBlock = some k → D + 2 ≤ k := fun k hk => (HO2.out.lt k hk).1
        have keep3 : ∀ k, k < D + 2 → w3.heap[k]? = V.heap[k]? := fun k hk => by
          rw [hg3.block k (by simp; omega) (fun e => by have := hbo k e.symm; omega), HBB.out.block k (by omega)]
          exact H1.out.2.block k (by omega)
        have hs3 : V.heap.size ≤ w3.heap.size := by have := hg3.size; simp at this; omega
        have hcl3 : Clones w3 (D + 2) (vals ++ [.slice aoc x.length capc]) L := by
          have h1 : Clones (w1.alloc (.cells #[.slice aoc x.length capc] 22)) (D + 2) (vals ++ [.slice aoc x.length capc]) L :=
            ((HV.out.2.2.1.below H1.out.2).below HBB.out).snoc (by rw [HVL.out]; exact HX.out) (own_below (own_base H1.out.1 (show D + 2 ≤ V.heap.size from hVsz)) HBB.out)
          intro j u y hu hy
          exact own_grown (h1 j u y hu hy) hg3 (fun k hk => row_block HO2.out k hk)
        have H3 := Lib.hid (⟨hown3, keep3, hs3, hcl3, (⟨hg3.os.trans (HBB.out.os.trans H1.out.2.os), hg3.tape.trans (HBB.out.tape.trans H1.out.2.tape), hg3.output.trans (HBB.out.output.trans H1.out.2.output)⟩ : w3.os = V.os ∧ w3.tape = V.tape ∧ w3.output = V.output)⟩ : _ ∧ _ ∧ _ ∧ _ ∧ _)
        have r1 := (keep3 t (by omega)).trans HV.out.1
        have r2 := (keep3 (t + 1) (by omega)).trans HV.out.2.2.2.1
        have d1 : w3.cell? ⟨t, 0, none⟩ = some (.slice aoo i capo) := by simp [World.cell?, r1]
        have d2 : w3.frozen? ⟨t, 0, none⟩ = false := by simp [World.frozen?, r1]
        have d3 : w3.cell? ⟨t + 1, 0, none⟩ = some (.int .i64 (off L i : Int)) := by simp [World.cell?, r2]
        have d4 : w3.frozen? ⟨t + 1, 0, none⟩ = false := by simp [World.frozen?, r2]
        have HR3 := Lib.hid (⟨r1, r2⟩ : _ ∧ _)
        clear hown3 hg3 hbo keep3 hs3 hcl3 r1 r2 c2
        refine hK _ _ ?_
        clear hK K
        try simp only [Act.put, List.getElem_toArray, List.getElem_cons_succ, List.getElem_cons_zero, List.setIfInBounds_toArray, List.set_cons_zero, List.set_cons_succ]
        refine wpAny_ready (rs := [6]) (by kernel_rfl) (by simp) (AllReady.cons rfl (fun K hK => ?_) AllReady.nil)
        go_simp
        refine hK _ _ ?_
        clear hK K
        try simp only [Act.put, List.getElem_toArray, List.getElem_cons_succ, List.getElem_cons_zero, List.setIfInBounds_toArray, List.set_cons_zero, List.set_cons_succ]
        refine wpAny_ready (rs := [7]) (by kernel_rfl) (by simp) (AllReady.cons rfl (fun K hK => ?_) AllReady.nil)
        go_simp
        refine hK _ _ ?_
        clear hK K
        try simp only [Act.put, List.getElem_toArray, List.getElem_cons_succ, List.getElem_cons_zero, List.setIfInBounds_toArray, List.set_cons_zero, List.set_cons_succ]
        skip
        obtain ⟨W3, hW3⟩ : ∃ W3, (w3.setCell ⟨t, 0, none⟩ (.slice ao3 (i + 1) cap3)).setCell ⟨t + 1, 0, none⟩ (.int .i64 (off L (i + 1) : Int)) = W3 := ⟨_, rfl⟩
        have hu := two_set (p := t) (q := t + 1) (x := .slice ao3 (i + 1) cap3) (y := .int .i64 (off L (i + 1) : Int)) (by omega) HR3.out.1 HR3.out.2
        rw [hW3] at hu
        obtain ⟨u1, u2, u3, u4, u5, u6, u7⟩ := hu
        have fin : SJ w t D N c a L rec (i + 1) (W3.putObj (D + 1) (.loop (rec .ready none))) ∧ Busy W3 (D + 1) D rec := by
          have hbz : W3.heap[D + 1]? = some (.loop (rec .busy none)) := (u1 _ (by omega) (by omega)).trans ((H3.out.2.1 _ (by omega)).trans HV.out.2.2.2.2.2.1.1)
          have hdz : W3.heap[D]? = some (.deferred (some [])) := (u1 _ (by omega) (by omega)).trans ((H3.out.2.1 _ (by omega)).trans HV.out.2.2.2.2.2.1.2)
          refine ⟨⟨⟨?_, ?_, ?_, ?_, fun k hk => ?_⟩, ?_, ⟨.slice ao3 (i + 1) cap3, vals ++ [.slice aoc x.length capc], ?_, ?_, ?_⟩, ?_, ?_, ⟨World.putObj_heap_same (Array.getElem?_eq_some_iff.1 hbz).1, (World.putObj_heap_other (show D ≠ D + 1 by omega)).trans hdz⟩⟩, ⟨hbz, hdz⟩⟩
          · exact u5.trans (H3.out.2.2.2.2.1.trans HV.out.2.2.2.2.2.2.2.1.os)
          · exact u6.trans (H3.out.2.2.2.2.2.1.trans HV.out.2.2.2.2.2.2.2.1.tape)
          · exact u7.trans (H3.out.2.2.2.2.2.2.trans HV.out.2.2.2.2.2.2.2.1.output)
          · have h1 := HV.out.2.2.2.2.2.2.2.1.size
            have h2 := H3.out.2.2.1
            simp only [World.putObj_size]
            omega
          · exact (World.putObj_heap_other (show k ≠ D + 1 by omega)).trans ((u1 k (by omega) (by omega)).trans ((H3.out.2.1 k (by omega)).trans (HV.out.2.2.2.2.2.2.2.1.block k hk)))
          · have h2 := H3.out.2.2.1
            simp only [World.putObj_size]
            omega
          · exact (World.putObj_heap_other (show t ≠ D + 1 by omega)).trans u2
          · refine own_same H3.out.1 fun k hk => ?_
            have := (H3.out.1.lt k hk).1
            exact (World.putObj_heap_other (by omega)).trans (u1 k (by omega) (by omega))
          · exact H3.out.2.2.2.1.same fun k hk _ => (World.putObj_heap_other (by omega)).trans (u1 k (by omega) (by omega))
          · exact (World.putObj_heap_other (show t + 1 ≠ D + 1 by omega)).trans u3
          · exact (World.putObj_heap_other (show t + 2 ≠ D + 1 by omega)).trans ((u1 _ (by omega) (by omega)).trans ((H3.out.2.1 _ (by omega)).trans HV.out.2.2.2.2.1))
        have FIN := Lib.hid fin
        clear fin u1 u2 u3 u4 u5 u6 u7 d1 d2 d3 d4
        refine wpAny_done (by kernel_rfl) ?_ _
        (try rw [hW3])
        gi_wp2
        (try rw [hW3])
        exact ⟨FIN.out.2, rfl, FIN.out.1⟩
  · rintro e W ⟨rfl, hJ⟩
    clear hrec HJ0
    refine ⟨⟨_, rfl⟩, .inl ⟨hJ.ready, ?_⟩⟩
    have hsz := hJ.size
    have keep : ∀ k, k ≠ D + 1 → (W.putObj (D + 1) (.loop (rec .exhausted none))).heap[k]? = W.heap[k]? := fun k hk => World.putObj_heap_other hk
    have hVs : (W.putObj (D + 1) (.loop (rec .exhausted none))).heap.size = W.heap.size := by simp
    have hVb : Below t w (W.putObj (D + 1) (.loop (rec .exhausted none))) := ⟨hJ.bel.os, hJ.bel.tape, hJ.bel.output, by rw [hVs]; exact hJ.bel.size, fun k hk => (keep k (by omega)).trans (hJ.bel.block k hk)⟩
    obtain ⟨V, hV⟩ : ∃ V, W.putObj (D + 1) (.loop (rec .exhausted none)) = V := ⟨_, rfl⟩
    rw [hV] at keep hVs hVb ⊢
    obtain ⟨vo, vals, p1, p2, p3⟩ := hJ.out
    obtain ⟨aoo, capo, rfl⟩ := own_form p2
    have q1 := (keep t (by omega)).trans p1
    have q2 : V.ownsRow (D + 2) 22 1 (.slice aoo L.length capo) L.length vals := own_same p2 fun k hk => keep k (by have := (p2.lt k hk).1; omega)
    have q3 : Clones V (D + 2) vals L := p3.same fun k hk _ => keep k (by omega)
    have q4 := (keep (t + 1) (by omega)).trans hJ.fin
    have q5 := (keep D (by omega)).trans hJ.ready.2
    have hVsz : D + 2 ≤ V.heap.size := by omega
    have hbel : Below w.heap.size w V := by rw [HT.out]; exact hVb
    have hcuV := cut_below HCU.out (Nat.le_refl _) hbel
    have HNV := Lib.hid (HNI.out.below hbel HNI.out.pos)
    have HV := Lib.hid (⟨q1, q2, q3, q4, q5, hVb⟩ : _ ∧ _ ∧ _ ∧ _ ∧ _ ∧ _)
    have hp0 : off L L.length + tail.length = N := by rw [off_all, ← HN.out, List.length_append]
    have hdr : (chain L ++ tail).drop (off L L.length) = tail := by rw [off_all, List.drop_left]
    obtain ⟨AD, hcase, hADs, hADb⟩ : ∃ AD : Option Addr, (c = off L L.length ∧ AD = a ∨ c ≠ off L L.length ∧ AD = Option.map (fun x => x.add (off L L.length)) a) ∧ Shows V AD tail ∧ ∀ ad, AD = some ad → ad.block < V.heap.size := by
      obtain ⟨a', c', e, h1, h2⟩ := hcuV
      cases e
      have hwV : w.heap.size ≤ V.heap.size := hbel.size
      by_cases hc4 : c = off L L.length
      · refine ⟨a, .inl ⟨hc4, rfl⟩, ?_, fun ad e => Nat.lt_of_lt_of_le (h2 ad e) hwV⟩
        have h0 : tail = [] := List.eq_nil_of_length_eq_zero (by omega)
        rw [h0]
        exact Shows.nil _ _
      · refine ⟨_, .inr ⟨hc4, rfl⟩, ?_, fun ad e => ?_⟩
        · cases a with
          | none =>
            have h0 : tail = [] := by
              rcases hb : chain L ++ tail with _ | ⟨y, l⟩
              · exact (List.append_eq_nil_iff.1 hb).2
              · obtain ⟨g, o, e, _⟩ := h1 0 y (by rw [hb]; rfl)
                cases e
            rw [h0]
            exact Shows.nil _ _
          | some ad =>
            have := h1.dropa (off L L.length)
            rw [hdr] at this
            exact this
        · cases a with
          | none => cases e
          | some ad' =>
            simp only [Option.map_some, Option.some.injEq] at e
            subst e
            rw [add_block]
            exact Nat.lt_of_lt_of_le (h2 ad' rfl) hwV
    have HONE := Lib.hid (one_any AD (c - off L L.length) tail V ⟨AD, _, rfl, hADs, hADb⟩ (by have := HO.out.1.drop (off L L.length); rw [hdr] at this; exact this) (by omega) (by omega) (by unfold maxLen; omega) HNV.out)
    have htl := HO.out.2.2.1
    generalize oneP tail = q at *
    obtain ⟨pt, nt, ft⟩ := q
    simp only at HONE htl
    subst htl
    have htlen : tail.length = N - off L L.length := by omega
    rw [htlen] at HONE
    have c0 : V.cell? ⟨t, 0, none⟩ = some (.slice aoo L.length capo) := by simp [World.cell?, q1]
    have c1 : V.cell? ⟨t + 1, 0, none⟩ = some (.int .i64 (off L L.length : Int)) := by simp [World.cell?, q4]
    have hpN : off L L.length ≤ N := by omega
    clear keep hVs hVb hV p1 p2 p3 q1 q2 q3 q4 q5 hbel hcuV hJ hADs hADb hsz hdr htlen hp0
    generalize hp0 : off L L.length = p0 at *
    have HP := Lib.hid hp0
    clear hp0
    have hlt0 : (0 : Int) ≤ (p0 : Int) := by omega
    have hlt1 : (p0 : Int) ≤ (N : Int) := by omega
    have hlc : (p0 : Int) ≤ (c : Int) := by omega
    have HB4 : Hid (∀ w4 : World, Below V.heap.size V w4 → w4.ownsRow (D + 2) 22 1 (.slice aoo L.length capo) L.length vals ∧ Clones w4 (D + 2) vals L ∧ w4.heap[D]? = some (.deferred (some [])) ∧ Below t w w4) := fun w4 hb => ⟨own_below HV.out.2.1 hb, HV.out.2.2.1.below hb, below_blk hb HV.out.2.2.2.2.1, HV.out.2.2.2.2.2.trans (hb.mono (by omega))⟩
    have FIN : Hid (∀ w4 : World, Below V.heap.size V w4 → ∃ v vals, Ending.returned (.tuple #[.slice aoo L.length capo, .int .i64 (p0 : Int), .int .i64 0]) = .returned (.tuple #[v, .int .i64 (p0 : Int), .int .i64 0]) ∧ (w4.putObj D (.deferred none)).ownsRow w.heap.size 22 1 v L.length vals ∧ Clones (w4.putObj D (.deferred none)) w.heap.size vals L ∧ Below w.heap.size w (w4.putObj D (.deferred none))) := fun w4 hb => by
      obtain ⟨r1, r2, r3, r4⟩ := HB4.out w4 hb
      rw [HT.out]
      have hk : ∀ k, k ≠ D → (w4.putObj D (.deferred none)).heap[k]? = w4.heap[k]? := fun k hk => World.putObj_heap_other hk
      refine ⟨_, vals, rfl, own_base (own_same r1 fun k hk' => hk k (by have := (r1.lt k hk').1; omega)) (by omega), fun j u y hu hy => ?_, ⟨r4.os, r4.tape, r4.output, by simpa using r4.size, fun k hk' => (hk k (by omega)).trans (r4.block k hk')⟩⟩
      have := r2 j u y hu hy
      exact own_base (own_same this fun k hk' => hk k (by have := (this.lt k hk').1; omega)) (by omega)
    have hVt : t + 1 < V.heap.size := by omega
    have HD4 := Lib.hid (fun (w4 : World) (h : Below V.heap.size V w4) => (HB4.out w4 h).2.2.1)
    clear HB4
    rcases hcase with ⟨hcp, rfl⟩ | ⟨hcp, rfl⟩
    all_goals
      (try rw [hcp, Nat.sub_self] at HONE)
      go_wp2_with fail
      refine HONE.out.mono ?_
      rintro e w4 ⟨v4, rfl, ⟨a4, c4, rfl, _, _⟩, hb4⟩
      have d0 : w4.cell? ⟨t, 0, none⟩ = some (.slice aoo L.length capo) := by rw [hb4.cell (by simp; omega)]; exact c0
      have d1 : w4.cell? ⟨t + 1, 0, none⟩ = some (.int .i64 (p0 : Int)) := by rw [hb4.cell (by simp; omega)]; exact c1
      have H4 := Lib.hid hb4
      clear hb4 c0 c1 HONE
      go_wp2_with fail
      rename_i KK hKK
      refine wp_mono (Q := fun e a W' => e = .normal ∧ a.defers = [{ target := .collected D, args := #[] }] ∧ a.tmps.getD 2 undef = .slice aoo L.length capo ∧ a.tmps.getD 3 undef = .int .i64 (p0 : Int) ∧ a.tmps.getD 4 undef = .int .i64 0 ∧ ∃ n, W' = w4.drewN n) ?_ ?_
      rotate_left
      · rintro e a W' ⟨rfl, hdf, s1, s2, s3, n, rfl⟩
        have hb : Below V.heap.size V (w4.drewN n) := below_drewN H4.out n
        refine hKK _ _ (wp_ret (end_mark (.inr rfl) hdf (HD4.out _ hb) ⟨_, results_tmp3 rfl _ _ _, ?_⟩))
        rw [s1, s2, s3]
        show ∃ v vals, _ ∧ _ ∧ _ ∧ _
        rw [HP.out]
        exact FIN.out _ hb
      · go_quiet (fail)
        go_wp2
        exact ⟨_, rfl⟩
end Go.Proofs.YtdgcafohfedbhaaDoor.T

