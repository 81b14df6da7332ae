import Derived.Test.YtdgcafohfedbhaaDoorS
namespace Go.Proofs.YtdgcafohfedbhaaDoor.T
open Go.RowKit Go.Joins
open Go.Proofs.YtdgcafohfedbhaaDoor.K
attribute [local go_sem] Oper.semAt_some
set_option linter.unusedVariables false
set_option linter.unusedSimpArgs false

/-- the chain so far -/
def TR1 (w : World) (L : List (List Nat)) (v7 v8 iv : Value) (wr : World) : Prop :=
  ∃ i : Nat, i ≤ L.length ∧ iv = .int .i64 i ∧ wr.ownsRow w.heap.size 5 1 v7 (chain (L.take i)).length (byts (chain (L.take i))) ∧ wr.ownsRow w.heap.size 3 1 v8 i (ends L i) ∧ Below w.heap.size w wr ∧ ∀ x ∈ L.take i, x.length ≤ 200
theorem Items.at_ {w wr : World} {al : Option Addr} {L : List (List Nat)} (h : Items w al L) (hb : Below w.heap.size w wr) {i : Nat} {x : List Nat} (hx : L[i]? = some x) : ∃ gg oo vi, al = some ⟨gg, oo, none⟩ ∧ wr.cell? ⟨gg, oo + i, none⟩ = some vi ∧ ∃ B, Cut wr B vi x := by
  obtain ⟨gg, oo, vi, e, hc, Bv, hcu⟩ := h i x hx
  exact ⟨gg, oo, vi, e, by rw [hb.cell (cell_block hc)]; exact hc, Bv, cut_keep hcu hb⟩
theorem chain_snoc {L : List (List Nat)} {i : Nat} {x : List Nat} (h : L[i]? = some x) : chain (L.take (i + 1)) = chain (L.take i) ++ frm x := by
  rw [take_snoc h, chain_append]; simp [chain]

set_option maxRecDepth 100000 in
set_option maxHeartbeats 64000000 in
theorem torn_any (al : Option Addr) (capl cutn bit : Nat) (L : List (List Nat)) (w : World) (hI : Items w al L) (hLo : ∀ x ∈ L, Oct x) (hlm : L.length ≤ maxLen) (hcut : cutn < 65536) (hbit : bit < 65536) (hN : NibAt w) :
    Calls Tryd.prog 5 #[.slice al L.length capl, .int .u16 (cutn : Int), .int .u16 (bit : Int)] w fun e w' => e = .returned (.bool true) ∧ Below w.heap.size w w' := by
  have hmx : Tryd.prog.follows .mixedOrders = true := by kernel_rfl
  obtain ⟨i5, hi5, hz5⟩ := Option.map_eq_some_iff.1 K.info5
  simp only [Prod.mk.injEq] at hz5
  obtain ⟨i3, hi3, hz3⟩ := Option.map_eq_some_iff.1 info3
  simp only [Prod.mk.injEq] at hz3
  have HI := Lib.hid (⟨hI, hLo, hN⟩ : _ ∧ _ ∧ _)
  unfold maxLen at hlm
  clear hI hLo hN
  go_enter Tryd.func5, Tryd.ntmps5
  go_wp2_with fail
  refine (awake_any w HI.out.2.2).mono ?_
  rintro e w1 ⟨rfl, hb1⟩
  have H1 : Hid (Below w.heap.size w w1 ∧ NibAt w1) := ⟨hb1, HI.out.2.2.below hb1 HI.out.2.2.pos⟩
  clear hb1
  by_cases hbig : L.length ≤ 12
  · go_wp2_with fail
    go_loopw [7, 8, 29] (TR1 w L) (fun _ _ iv _ => L.length - (intOf iv).toNat)
    case atStart => exact ⟨0, by omega, rfl, World.ownsRow_nil _ _ _ _, World.ownsRow_nil _ _ _ _, H1.out.1, by simp⟩
    case round =>
      obtain ⟨i, hi, rfl, ho7, ho8, hbe, hsm⟩ := hrel
      have HR := Lib.hid (⟨ho7, ho8, hbe, hsm⟩ : _ ∧ _ ∧ _ ∧ _)
      obtain ⟨ao7, cap7, rfl⟩ := own_form ho7
      obtain ⟨ao8, cap8, rfl⟩ := own_form ho8
      clear ho7 ho8 hbe hsm
      by_cases hlt : i < L.length
      · obtain ⟨x, hx⟩ : ∃ x, L[i]? = some x := ⟨_, List.getElem?_eq_getElem hlt⟩
        obtain ⟨gg, oo, vi, rfl, hci, Bv, hcui⟩ := HI.out.1.at_ HR.out.2.2.1 hx
        have HX := Lib.hid hx
        have HCI := Lib.hid hcui
        obtain ⟨ai, ci, rfl, _, _⟩ := hcui
        have i1 : (0 : Int) ≤ (i : Int) := by omega
        have i2 : (i : Int) < (L.length : Int) := by omega
        clear hx
        by_cases hxl : x.length ≤ 200
        · have HNR := Lib.hid (HI.out.2.2.below HR.out.2.2.1 HI.out.2.2.pos)
          have HFR := Lib.hid (frame_any ai ci x wr HCI.out (HI.out.2.1 x (List.mem_of_getElem? HX.out)) (by omega) HNR.out)
          have hfl : (frm x).length ≤ 213 := by have h1 := frm_len x; have h2 := up_len9 x.length (by omega); omega
          have hfp := frm_pos x
          have hcl : (chain (L.take i)).length ≤ 213 * 12 := by
            have h1 := chain_len (L.take i) HR.out.2.2.2
            have h2 : (L.take i).length ≤ 12 := by rw [List.length_take]; omega
            omega
          have HCS := Lib.hid (chain_snoc HX.out)
          have HSM : Hid (∀ y ∈ L.take (i + 1), y.length ≤ 200) := fun y hy => by
            rw [take_snoc HX.out, List.mem_append] at hy
            rcases hy with hy | hy
            · exact HR.out.2.2.2 y hy
            · simp at hy; subst hy; exact hxl
          have HOS : Hid ((chain (L.take i)).length + (frm x).length = off L (i + 1)) := (by rw [off_succ HX.out]; rfl : (chain (L.take i)).length + (frm x).length = off L (i + 1))
          generalize frm x = fr at *
          generalize chain (L.take i) = ch at *
          go_wp2_with fail
          refine HFR.out.mono ?_
          rintro e w2 ⟨v2, rfl, ho2, hb2⟩
          obtain ⟨g2, cap2, rfl, _⟩ := ho2.form (by omega)
          have hws : w.heap.size ≤ wr.heap.size := HR.out.2.2.1.size
          have H2 : Hid (w2.ownsRow w.heap.size 5 1 (.slice ao7 ch.length cap7) ch.length (byts ch) ∧ w2.ownsRow w.heap.size 3 1 (.slice ao8 i cap8) i (ends L i) ∧ Below w.heap.size w w2 ∧ w.heap.size ≤ w2.heap.size) := ⟨own_below HR.out.1 hb2, own_below HR.out.2.1 hb2, HR.out.2.2.1.trans (hb2.mono hws), Nat.le_trans hws hb2.size⟩
          have HN2 : Hid (∀ j u, (byts fr)[j]? = some u → w2.cell? ((⟨g2, 0, none⟩ : Addr).add j) = some u) := fun j u hu => by
            have hj := (List.getElem?_eq_some_iff.1 hu).1
            rw [byts_length] at hj
            rw [Addr.add_lit, Nat.zero_add, ho2.cellAt j (by omega)]
            exact hu
          clear ho2 hb2 HFR hci
          go_wp2_with (first
            | (at_builtin
               refine wpList_append_own _ rfl _ _ 22 rfl w.heap.size 5 i5 _ 1 1 Tryd.underlying22 hi5 hz5.1 hz5.2.1 hz5.2.2 rfl (by omega) _ _ _ rfl H2.out.1 ⟨g2, 0, none⟩ fr.length cap2 (byts fr) rfl (by rw [byts_length, Nat.mul_one]) HN2.out (byts_one _) (by unfold maxLen; omega) (by omega) H2.out.2.2.2 ?_)
            | fail)
          intro v3 w3 hown3 hg3 _
          rw [← byts_append, ← HCS.out, HOS.out] at hown3
          obtain ⟨ao3, cap3, rfl⟩ := own_form hown3
          have H3 : Hid (w3.ownsRow w.heap.size 5 1 (.slice ao3 (off L (i + 1)) cap3) (off L (i + 1)) (byts (chain (L.take (i + 1)))) ∧ w3.ownsRow w.heap.size 3 1 (.slice ao8 i cap8) i (ends L i) ∧ Below w.heap.size w w3 ∧ w.heap.size ≤ w3.heap.size) :=
            ⟨hown3, own_apart (by decide) H2.out.2.1 hg3 (fun k hk => row_block H2.out.1 k hk), H2.out.2.2.1.grown hg3 H2.out.2.2.2 (fun k hk => (H2.out.1.lt k hk).1), Nat.le_trans H2.out.2.2.2 hg3.size⟩
          have hofl : off L (i + 1) ≤ 5000 := by have := HOS.out; omega
          clear hown3 hg3 HN2
          have HB3 := Lib.hid ((Below.refl w3.heap.size w3).alloc (Nat.le_refl _) (.cells #[.int .i64 (off L (i + 1) : Int)] 3))
          have HE3 := Lib.hid (own_below H3.out.2.1 HB3.out)
          have HC3 := Lib.hid (own_below H3.out.1 HB3.out)
          go_wp2_with (first
            | (at_builtin
               refine wpList_append_own _ rfl _ _ 39 rfl w.heap.size 3 i3 _ 1 8 Tryd.underlying39 hi3 hz3.1 hz3.2.1 hz3.2.2 rfl (by omega) _ i _ rfl HE3.out ⟨w3.heap.size, 0, none⟩ 1 1 [.int .i64 (off L (i + 1) : Int)] rfl rfl (World.news_of_block (heap_alloc_new w3 _)) (by intro u hu; simp at hu; subst hu; rfl) (by unfold maxLen; omega) (by omega) (by have := H3.out.2.2.2; simp; omega) ?_)
            | fail)
          intro v4 w4 hown4 hg4 _
          rw [← ends_snoc] at hown4
          obtain ⟨ao4, cap4, rfl⟩ := own_form hown4
          have H4 : Hid (w4.ownsRow w.heap.size 5 1 (.slice ao3 (off L (i + 1)) cap3) (off L (i + 1)) (byts (chain (L.take (i + 1)))) ∧ w4.ownsRow w.heap.size 3 1 (.slice ao4 (i + 1) cap4) (i + 1) (ends L (i + 1)) ∧ Below w.heap.size w w4) :=
            ⟨own_apart (by decide) HC3.out hg4 (fun k hk => row_block HE3.out k hk), hown4, (H3.out.2.2.1.trans (HB3.out.mono H3.out.2.2.2)).grown hg4 (by have := H3.out.2.2.2; simp; omega) (fun k hk => (HE3.out.lt k hk).1)⟩
          clear hown4 hg4
          go_wp2
          exact ⟨⟨i + 1, by omega, by go_num, H4.out.1, H4.out.2.1, H4.out.2.2, HSM.out⟩, by simp [intOf]; omega⟩
        · have hx2 : (200 : Int) < (x.length : Int) := by omega
          go_wp2
          go_ret
          exact ⟨rfl, HR.out.2.2.1⟩
      · have hil : i = L.length := by omega
        subst hil
        rw [List.take_length] at HR ⊢
        obtain ⟨N, hN⟩ : ∃ N, (chain L).length = N := ⟨_, rfl⟩
        have hNl : N ≤ 2556 := by have := chain_len L HR.out.2.2.2; omega
        rw [hN] at HR ⊢
        obtain ⟨k, hk⟩ : ∃ k, cutn % (N + 1) = k := ⟨_, rfl⟩
        have hkN : k ≤ N := by have := Nat.mod_lt cutn (show 0 < N + 1 by omega); omega
        obtain ⟨m, tail, hm1, hm2, hm3, hm4, hm5⟩ := cut_at L k (by omega) (fun x hx => by have := HR.out.2.2.2 x hx; omega)
        have e1 : (cutn : Int) % ((N : Int) + 1) = (k : Int) := by rw [← hk]; simp
        have ew : IntKind.i64.wrap ((N : Int) + 1) = (N : Int) + 1 := by rw [IntKind.wrap_i64]; omega
        have ez : ((N : Int) + 1 == 0) = false := by simp; omega
        have ep : (0 : Int) < (N : Int) + 1 := by omega
        have k0 : (0 : Int) ≤ (k : Int) := by omega
        have hcap : N ≤ cap7 ∧ cap7 ≤ maxLen := by
          obtain ⟨a', c', e, h1, h2⟩ := cut_cap HR.out.1
          cases e
          exact ⟨h1, h2⟩
        have kc : (k : Int) ≤ (cap7 : Int) := by omega
        have hcu7 : Cut wr wr.heap.size (.slice ao7 N cap7) (chain L) := cut_own (bs := chain L) (by rw [hN]; exact HR.out.1) HR.out.2.2.1.size
        have hlt : (chain (L.take m) ++ tail).length = k := by rw [← hm2, List.length_take]; omega
        have hmt : (L.take m).length = m := by rw [List.length_take]; omega
        have HSC := Lib.hid (scan_any ao7 cap7 (L.take m) tail wr (by rw [← hm2]; exact (chain_oct L HI.out.2.1).take k) (fun x hx => by have := HR.out.2.2.2 x (List.mem_of_mem_take hx); omega) hm3 (by omega) (by omega) hcap.2 (by omega) (by
          rw [hlt]
          obtain ⟨a', c', e, h1, h2⟩ := hcu7
          cases e
          refine ⟨_, _, by rw [hlt], ?_, h2⟩
          rw [← hm2]
          exact h1.take k) (HI.out.2.2.below HR.out.2.2.1 HI.out.2.2.pos))
        rw [hlt, hmt, off_take L (Nat.le_refl m)] at HSC
        have HM := Lib.hid (⟨hN, hm1, hm4, hm5, hkN⟩ : _ ∧ _ ∧ _ ∧ _ ∧ _)
        have hmm : m ≤ L.length := hm1
        clear hN hk hm1 hm2 hm3 hm4 hm5 hlt hmt hcu7
        go_wp2_with fail
        refine HSC.out.mono ?_
        rintro e w2 ⟨v14, vals, rfl, ho14, hcl14, hb2⟩
        obtain ⟨ao14, cap14, rfl⟩ := own_form ho14
        have hws : w.heap.size ≤ wr.heap.size := HR.out.2.2.1.size
        have H2 : Hid (w2.ownsRow w.heap.size 5 1 (.slice ao7 N cap7) N (byts (chain L)) ∧ w2.ownsRow w.heap.size 3 1 (.slice ao8 L.length cap8) L.length (ends L L.length) ∧ Below w.heap.size w w2 ∧ w.heap.size ≤ w2.heap.size ∧ w2.ownsRow wr.heap.size 22 1 (.slice ao14 m cap14) m vals ∧ Clones w2 wr.heap.size vals (L.take m) ∧ wr.heap.size ≤ w2.heap.size) :=
          ⟨own_below HR.out.1 hb2, own_below HR.out.2.1 hb2, HR.out.2.2.1.trans (hb2.mono hws), Nat.le_trans hws hb2.size, ho14, hcl14, hb2.size⟩
        clear ho14 hcl14 hb2 HSC ew ez ep
        go_wp2_with fail
        go_loop [17] (fun iv => ∃ i : Nat, i ≤ m ∧ iv = .int .i64 i) (fun iv => m - (intOf iv).toNat)
        case atStart => exact ⟨0, by omega, rfl⟩
        case round =>
          obtain ⟨i, hi, rfl⟩ := hrel
          have j0 : (0 : Int) ≤ (i : Int) := by omega
          by_cases hilt : i < m
          · have j1 : (i : Int) < (L.length : Int) := by omega
            obtain ⟨g8, c8, e8, _⟩ := H2.out.2.1.form (by omega)
            cases e8
            have hcell := H2.out.2.1.cellAt i (by omega)
            rw [ends_get L (show i < L.length by omega)] at hcell
            have j2 : (off L (i + 1) : Int) ≤ (k : Int) := by have := off_mono L (show i + 1 ≤ m by omega); have := HM.out.2.2.1; omega
            go_wp2
            go_round
            case rel => exact ⟨i + 1, by omega, by go_num⟩
            case measure => simp [intOf]; omega
          · obtain rfl : i = m := by omega
            -- whole frames: m
            have him : i ≤ L.length := hmm
            have hst : (i : Int) < (L.length : Int) ∧ ¬ (off L (i + 1) : Int) ≤ (k : Int) ∧ (∃ g8, ao8 = some ⟨g8, 0, none⟩ ∧ w2.cell? ⟨g8, i, none⟩ = some (.int .i64 (off L (i + 1) : Int))) ∨ ¬ (i : Int) < (L.length : Int) := by
              by_cases h : i < L.length
              · refine .inl ⟨by omega, by have := HM.out.2.2.2.1 h; omega, ?_⟩
                obtain ⟨g8, c8, e8, _⟩ := H2.out.2.1.form (by omega)
                cases e8
                have hcell := H2.out.2.1.cellAt i (by omega)
                rw [ends_get L h] at hcell
                exact ⟨g8, rfl, hcell⟩
              · exact .inr (by omega)
            obtain ⟨g9, cap9, w9, hr9, hc9, hb9⟩ := run_ends L L.length w.heap.size (.slice ao8 L.length cap8) w2 H2.out.2.1 (by omega)
            have H9 := Lib.hid (⟨hr9, hb9⟩ : _ ∧ _)
            have hc9i := hc9 i him
            clear hr9 hc9 hb9
            rcases hst with ⟨s1, s2, g8, rfl, s3⟩ | s1
            all_goals
              go_wp2_with (first | (refine wpList_append_guarded (o := ⟨some 92, _, _, _, _, _⟩) (.tmp 90) (.tmp 91) 39 _ _ _ (by rfl) (by rfl) (by rfl) (by rfl) H9.out.1 ?_) | fail)
              have hw29 : w2.heap.size ≤ w9.heap.size := H9.out.2.size
              have hbel9 : Below w.heap.size w w9 := H2.out.2.2.1.trans (H9.out.2.mono H2.out.2.2.2.1)
              have K9 : Hid (w9.ownsRow w.heap.size 5 1 (.slice ao7 N cap7) N (byts (chain L)) ∧ w9.ownsRow wr.heap.size 22 1 (.slice ao14 i cap14) i vals ∧ Clones w9 wr.heap.size vals (L.take i) ∧ Below w.heap.size w w9 ∧ wr.heap.size ≤ w9.heap.size ∧ w.heap.size ≤ w9.heap.size) :=
                ⟨own_below H2.out.1 H9.out.2, own_below H2.out.2.2.2.2.1 H9.out.2, H2.out.2.2.2.2.2.1.below H9.out.2, hbel9, Nat.le_trans H2.out.2.2.2.2.2.2 hw29, hbel9.size⟩
              clear hw29 hbel9 hc9i
              go_loopw [100] (fun iv wz => ∃ j n : Nat, j ≤ i ∧ iv = .int .i64 j ∧ wz = w9.drewN n) (fun iv _ => i - (intOf iv).toNat)
              case atStart => exact ⟨0, 0, by omega, rfl, rfl⟩
              case round =>
                obtain ⟨j, n, hj, rfl, rfl⟩ := hrel
                by_cases hjl : j < i
                · obtain ⟨x, hx⟩ : ∃ x, L[j]? = some x := ⟨_, List.getElem?_eq_getElem (by omega)⟩
                  have hvl : vals.length = i := by simpa using K9.out.2.1.1
                  obtain ⟨v, hv⟩ : ∃ v, vals[j]? = some v := ⟨_, List.getElem?_eq_getElem (by omega)⟩
                  have hov := K9.out.2.2.1 j v x hv (by rw [List.getElem?_take_of_lt hjl]; exact hx)
                  have hcuv := cut_own hov K9.out.2.2.2.2.1
                  have hxo := HI.out.2.1 x (List.mem_of_getElem? hx)
                  obtain ⟨gg, oo, vi, rfl, hci, Bv, hcui⟩ := HI.out.1.at_ K9.out.2.2.2.1 hx
                  obtain ⟨g14, c14, e14, _⟩ := K9.out.2.1.form (by omega)
                  cases e14
                  have hcv := (K9.out.2.1.cellAt j (by omega)).trans hv
                  have k3 : ∀ q, (convert 22 9 v).run Tryd.prog (w9.drewN q) = .ok (.string (strOf x)) (w9.drewN q) := fun q => (cut_drewN hcuv q).string hxo
                  have k4 : ∀ q, (convert 22 9 vi).run Tryd.prog (w9.drewN q) = .ok (.string (strOf x)) (w9.drewN q) := fun q => (cut_drewN hcui q).string hxo
                  obtain ⟨av, cv, rfl, _, _⟩ := hcuv
                  obtain ⟨ai, ci, rfl, _, _⟩ := hcui
                  have j0 : (0 : Int) ≤ (j : Int) := by omega
                  have j1 : (j : Int) < (i : Int) := by omega
                  have j2 : (j : Int) < (L.length : Int) := by omega
                  clear hx hv hov hxo hvl
                  go_wp2_with fail
                  go_quiet (fail)
                  go_wp2
                  exact ⟨⟨j + 1, n + nq, by omega, by go_num, by simp⟩, by simp [intOf]; omega⟩
                · have jn : ¬ (j : Int) < (i : Int) := by omega
                  have b0 : (0 : Int) ≤ (bit : Int) := by omega
                  have b1 : (bit : Int) < 65536 := by omega
                  have hbelq : Below w.heap.size w (w9.drewN n) := below_drewN K9.out.2.2.2.1 n
                  have HBT := Lib.hid (bent_any ao7 al cap7 L.length capl bit N L (w9.drewN n) (cut_drewN (cut_own (bs := chain L) (by rw [HM.out.1]; exact K9.out.1) K9.out.2.2.2.2.2) n) HM.out.1 (fun j' x hx => HI.out.1.at_ hbelq hx) rfl (by omega) hbit (by omega) (fun x hx => ⟨HI.out.2.1 x hx, by have := HR.out.2.2.2 x hx; omega⟩) (HI.out.2.2.below hbelq HI.out.2.2.pos))
                  have HBQ := Lib.hid hbelq
                  clear hbelq
                  go_wp2_with fail
                  refine HBT.out.mono ?_
                  rintro e w10 ⟨rfl, hb10⟩
                  have HF := Lib.hid (HBQ.out.trans (hb10.mono HBQ.out.size))
                  clear hb10
                  go_wp2
                  go_ret
                  exact ⟨rfl, HF.out⟩
  · go_wp2_with fail
    refine (awake_any w1 H1.out.2).mono ?_
    rintro e w2 ⟨rfl, hb2⟩
    have H2 := Lib.hid (H1.out.1.trans (hb2.mono H1.out.1.size))
    clear hb2
    go_wp2
    go_ret
    exact ⟨rfl, H2.out⟩
end Go.Proofs.YtdgcafohfedbhaaDoor.T
