import Derived.Test.YtdgcafohfedbhaaDoorK
import Derived.Laws.MakeOwn
namespace Go.Proofs.YtdgcafohfedbhaaDoor.T
open Go.RowKit Go.Joins
open Go.Proofs.YtdgcafohfedbhaaDoor.K
attribute [local go_sem] Oper.semAt_some
set_option linter.unusedVariables false
set_option linter.unusedSimpArgs false

theorem cut_drewN {w : World} {B : Nat} {v : Value} {bs : List Nat} (h : Cut w B v bs) (n : Nat) : Cut (w.drewN n) B v bs := h
/-- payloads, as the document has them -/
def Pairs (w : World) (vals : List Value) (ss : List ByteArray) : Prop := ∀ (j : Nat) (v : Value) (s : ByteArray), vals[j]? = some v → ss[j]? = some s → ∃ bs B, Cut w B v bs ∧ Oct bs ∧ s = strOf bs
set_option maxHeartbeats 4000000 in
theorem same_any (a1 a2 : Option Addr) (c1 c2 : Nat) (vals : List Value) (ss : List ByteArray) (w : World) (h1 : ShowsV w a1 vals) (h2 : ShowsV w a2 (ss.map Value.string)) (hl : vals.length = ss.length) (hn : ss.length ≤ 9223372036854775807) (hp : Pairs w vals ss) :
    Calls Tryd.prog 12 #[.slice a1 ss.length c1, .slice a2 ss.length c2] w fun e w' => e = .returned (.bool true) ∧ ∃ q, w' = w.drewN q := by
  have HS := Lib.hid (⟨h1, h2, hp, hl⟩ : _ ∧ _ ∧ _ ∧ _)
  clear h1 h2 hp hl
  go_enter Tryd.func12, Tryd.ntmps12
  go_wp2_with fail
  go_loopw [13] (fun iv wr => ∃ i n : Nat, i ≤ ss.length ∧ iv = .int .i64 i ∧ wr = w.drewN n) (fun iv _ => ss.length - (intOf iv).toNat)
  case atStart => exact ⟨0, 0, by omega, rfl, rfl⟩
  case round =>
    obtain ⟨i, n, hi, rfl, rfl⟩ := hrel
    by_cases hlt : i < ss.length
    · obtain ⟨s, hs⟩ : ∃ s, ss[i]? = some s := ⟨_, List.getElem?_eq_getElem hlt⟩
      obtain ⟨v, hv⟩ : ∃ v, vals[i]? = some v := ⟨_, List.getElem?_eq_getElem (by rw [HS.out.2.2.2]; exact hlt)⟩
      obtain ⟨g1, o1, rfl, k1⟩ := HS.out.1 i v hv
      obtain ⟨g2, o2, rfl, k2⟩ := HS.out.2.1 i (.string s) (by rw [List.getElem?_map, hs]; rfl)
      obtain ⟨bs, B, hcu, hoc, rfl⟩ := HS.out.2.2.1 i v s hv hs
      have hform : ∃ a n c, v = .slice a n c := by obtain ⟨a, c, e, _⟩ := hcu; exact ⟨a, _, c, e⟩
      have k3 : ∀ q, (convert 22 9 v).run Tryd.prog (w.drewN q) = .ok (.string (strOf bs)) (w.drewN q) := fun q => (cut_drewN hcu q).string hoc
      obtain ⟨av, nv, cv, rfl⟩ := hform
      have i1 : (0 : Int) ≤ (i : Int) := by omega
      have i2 : (i : Int) < (ss.length : Int) := by omega
      clear hs hv hcu hoc
      go_wp2_with fail
      go_quiet (fail)
      go_wp2
      exact ⟨⟨i + 1, n + nq, by omega, by go_num, by simp⟩, by simp [intOf]; omega⟩
    · go_wp2
      go_ret
      exact ⟨rfl, n, rfl⟩

theorem make_bytes (m : Nat) (hm : m ≤ 1000000) (W : World) : ∃ W', (Instr.makeSlice 22 (.int .i64 (m : Int)) (.int .i64 (m : Int))).run Tryd.prog W = .ok (.slice (some ⟨W.heap.size, 0, none⟩) m m) W' ∧ Below W.heap.size W W' := by
  obtain ⟨i5, hi5, hz5⟩ := Option.map_eq_some_iff.1 K.info5
  simp only [Prod.mk.injEq] at hz5
  have h := run_make (P := Tryd.prog) W 22 5 i5 _ Tryd.underlying22 hi5 hz5.1 .i64 .i64 (m : Int) (m : Int) (by omega) (Int.le_refl _) (by rw [hz5.2.2]; omega) (by omega)
  simp only [Int.toNat_natCast] at h
  exact ⟨_, h, (Below.refl _ W).alloc (Nat.le_refl _) _⟩

set_option maxRecDepth 100000 in
set_option maxHeartbeats 32000000 in
theorem frames_law (a : Option Addr) (c : Nat) (bs : List Nat) (z : Nat) (w : World) (hcu : Cut w w.heap.size (.slice a bs.length c) bs) (ho : Oct bs) (hlm : bs.length ≤ maxLen) (hz : z < 65536) (hN : NibAt w) :
    Calls Tryd.prog 4 #[.slice a bs.length c, .int .u16 (z : Int)] w fun e w' => e = .returned (.bool true) ∧ Below w.heap.size w w' := by
  have hmx : Tryd.prog.follows .mixedOrders = true := by kernel_rfl
  have HC := Lib.hid hcu
  have HO := Lib.hid ho
  have HN := Lib.hid hN
  unfold maxLen at hlm
  clear hcu ho hN
  go_enter Tryd.func4, Tryd.ntmps4
  go_wp2_with fail
  refine (awake_any w HN.out).mono ?_
  rintro e w1 ⟨rfl, hb1⟩
  have H1 : Hid (Below w.heap.size w w1 ∧ NibAt w1) := ⟨hb1, HN.out.below hb1 HN.out.pos⟩
  clear hb1
  by_cases hbig : bs.length ≤ 1000
  · have hfl := frm_len bs
    have hup := up_len9 bs.length (by omega)
    have hfl2 : (frm bs).length ≤ 1013 := by omega
    have HFO := Lib.hid (frm_oct HO.out)
    have HOP := Lib.hid (oneP_frame bs [] (by omega))
    have hCU1 := cut_below HC.out (Nat.le_refl _) H1.out.1
    go_wp2_with fail
    refine (frame_any a c bs w1 hCU1 HO.out (by omega) H1.out.2).mono ?_
    rintro e w2 ⟨v2, rfl, ho2, hb2⟩
    have H2 : Hid (Below w.heap.size w w2 ∧ NibAt w2) := ⟨H1.out.1.trans (hb2.mono H1.out.1.size), H1.out.2.below hb2 H1.out.2.pos⟩
    have HCU2 := Lib.hid (cut_own ho2 hb2.size)
    obtain ⟨ao2, cap2, rfl, hc1, hc2⟩ := cut_cap ho2
    clear ho2 hb2 hCU1 H1 hfl hup
    have hch : chain [bs] ++ [] = frm bs := by simp [chain]
    have hoff : off [bs] 1 = (frm bs).length := by simp [off, chain]
    have HSC := Lib.hid (scan_any ao2 cap2 [bs] [] w2 (by rw [hch]; exact HFO.out) (fun x hx => by simp at hx; subst hx; omega) rfl (by rw [hch]; omega) (by rw [hch]; exact hc1) hc2 (by simp) (by rw [hch]; exact HCU2.out) H2.out.2)
    rw [hch] at HSC
    simp only [List.length_singleton] at HSC
    rw [hoff] at HSC
    clear hch hoff
    have HOF : Hid (Oct (frm bs)) := HFO.out
    have HRF := Lib.hid (fun w' : World => refframe_any bs w' HO.out (by omega))
    generalize frm bs = fr at *
    go_wp2_with fail
    refine HSC.out.mono ?_
    rintro e w3 ⟨v3, vals, rfl, ho3, hcl3, hb3⟩
    have hvl : vals.length = 1 := by simpa using ho3.1
    obtain ⟨u, rfl⟩ : ∃ u, vals = [u] := by
      match vals, hvl with
      | [u], _ => exact ⟨u, rfl⟩
    have hu3 := hcl3 0 u bs rfl rfl
    obtain ⟨g3, cap3, rfl, _⟩ := ho3.form (by omega)
    have H3 : Hid (Below w.heap.size w w3 ∧ w2.heap.size ≤ w3.heap.size) := ⟨H2.out.1.trans (hb3.mono H2.out.1.size), hb3.size⟩
    have HF3 := Lib.hid (cut_below HCU2.out (Nat.le_refl _) hb3)
    have HB3 := Lib.hid (cut_below HC.out (Nat.le_refl _) H3.out.1)
    have HU3 := Lib.hid (⟨hu3, ho3⟩ : _ ∧ _)
    clear hvl hu3 hcl3 ho3 hb3 HSC
    go_wp2_with fail
    have kf3 := (show Cut w3.drew w2.heap.size _ fr from HF3.out).string HOF.out
    have kb3 := (show Cut w3.drew w.heap.size _ bs from HB3.out).string HO.out
    refine region_plain hmx ?_
    refine wpAny_ready (rs := [0]) (by kernel_rfl) (by simp) (AllReady.cons rfl (fun K hK => ?_) AllReady.nil)
    go_simp
    refine hK _ _ ?_
    clear hK K
    try simp only [Act.put, List.getElem_toArray, List.getElem_cons_succ, List.getElem_cons_zero, List.setIfInBounds_toArray, List.set_cons_zero, List.set_cons_succ]
    refine wpAny_ready (rs := [1]) (by kernel_rfl) (by simp) (AllReady.cons rfl (fun K hK => ?_) AllReady.nil)
    go_simp
    refine hK _ _ ?_
    clear hK K
    try simp only [Act.put, List.getElem_toArray, List.getElem_cons_succ, List.getElem_cons_zero, List.setIfInBounds_toArray, List.set_cons_zero, List.set_cons_succ]
    refine wpAny_ready (rs := [2]) (by kernel_rfl) (by simp) (AllReady.cons rfl (fun K hK => ?_) AllReady.nil)
    go_simp
    refine hK _ _ ?_
    clear hK K
    try simp only [Act.put, List.getElem_toArray, List.getElem_cons_succ, List.getElem_cons_zero, List.setIfInBounds_toArray, List.set_cons_zero, List.set_cons_succ]
    refine wpAny_take (i := 3) (v := ?_) rfl (by kernel_rfl) (by kernel_rfl) (by kernel_rfl) (fun _ _ _ h => h) (Or.inl ⟨by rfl, ?_⟩) ?_
    rotate_left
    · intro w; go_simp; with_reducible rfl
    try simp only [Act.put, List.getElem_toArray, List.getElem_cons_succ, List.getElem_cons_zero, List.setIfInBounds_toArray, List.set_cons_zero, List.set_cons_succ]
    refine wpAny_take (i := 5) (v := ?_) rfl (by kernel_rfl) (by kernel_rfl) (by kernel_rfl) (fun _ _ _ h => h) (Or.inl ⟨by rfl, ?_⟩) ?_
    rotate_left
    · intro w; go_simp; with_reducible rfl
    try simp only [Act.put, List.getElem_toArray, List.getElem_cons_succ, List.getElem_cons_zero, List.setIfInBounds_toArray, List.set_cons_zero, List.set_cons_succ]
    refine wpAny_ready (rs := [4, 6]) (by kernel_rfl) (by simp) (AllReady.cons rfl (fun K hK => ?_) (AllReady.cons rfl (fun K hK => ?_) AllReady.nil))
    · go_simp
      refine hK _ _ ?_
      clear hK K
      try simp only [Act.put, List.getElem_toArray, List.getElem_cons_succ, List.getElem_cons_zero, List.setIfInBounds_toArray, List.set_cons_zero, List.set_cons_succ]
      refine wpAny_ready (rs := [6]) (by kernel_rfl) (by simp) (AllReady.cons rfl (fun K hK => ?_) AllReady.nil)
      go_simp
      refine hK _ _ ?_
      clear hK K
      try simp only [Act.put, List.getElem_toArray, List.getElem_cons_succ, List.getElem_cons_zero, List.setIfInBounds_toArray, List.set_cons_zero, List.set_cons_succ]
      clear kf3 kb3
      refine wpAny_ready (rs := [7]) (by kernel_rfl) (by simp) (AllReady.cons rfl (fun K hK => ?_) AllReady.nil)
      go_simp
      refine (HRF.out w3.drew).mono ?_
      rintro e w4 ⟨rfl, hb4⟩
      have hb4 : Below w3.heap.size w3 w4 := ⟨hb4.os, hb4.tape, hb4.output, hb4.size, hb4.block⟩
      have kf4 := (cut_below HF3.out H3.out.2 hb4).string HOF.out
      have kb4 := (cut_below HB3.out H3.out.1.size hb4).string HO.out
      have HB4 := Lib.hid hb4
      clear hb4
      refine hK _ _ ?_
      clear hK K
      try simp only [Act.put, List.getElem_toArray, List.getElem_cons_succ, List.getElem_cons_zero, List.setIfInBounds_toArray, List.set_cons_zero, List.set_cons_succ]
      refine wpAny_ready (rs := [8]) (by kernel_rfl) (by simp) (AllReady.cons rfl (fun K hK => ?_) AllReady.nil)
      go_simp
      refine hK _ _ ?_
      clear hK K
      try simp only [Act.put, List.getElem_toArray, List.getElem_cons_succ, List.getElem_cons_zero, List.setIfInBounds_toArray, List.set_cons_zero, List.set_cons_succ]
      refine wpAny_ready (rs := [9]) (by kernel_rfl) (by simp) (AllReady.cons rfl (fun K hK => ?_) AllReady.nil)
      go_simp
      refine hK _ _ ?_
      clear hK K
      try simp only [Act.put, List.getElem_toArray, List.getElem_cons_succ, List.getElem_cons_zero, List.setIfInBounds_toArray, List.set_cons_zero, List.set_cons_succ]
      refine wpAny_ready (rs := [10]) (by kernel_rfl) (by simp) (AllReady.cons rfl (fun K hK => ?_) AllReady.nil)
      go_simp
      refine hK _ _ ?_
      clear hK K
      try simp only [Act.put, List.getElem_toArray, List.getElem_cons_succ, List.getElem_cons_zero, List.setIfInBounds_toArray, List.set_cons_zero, List.set_cons_succ]
      refine wpAny_ready (rs := [11]) (by kernel_rfl) (by simp) (AllReady.cons rfl (fun K hK => ?_) AllReady.nil)
      go_simp
      refine hK _ _ ?_
      clear hK K
      try simp only [Act.put, List.getElem_toArray, List.getElem_cons_succ, List.getElem_cons_zero, List.setIfInBounds_toArray, List.set_cons_zero, List.set_cons_succ]
      refine wpAny_ready (rs := [12]) (by kernel_rfl) (by simp) (AllReady.cons rfl (fun K hK => ?_) AllReady.nil)
      go_simp
      refine hK _ _ ?_
      clear hK K
      try simp only [Act.put, List.getElem_toArray, List.getElem_cons_succ, List.getElem_cons_zero, List.setIfInBounds_toArray, List.set_cons_zero, List.set_cons_succ]
      refine wpAny_ready (rs := [13]) (by kernel_rfl) (by simp) (AllReady.cons rfl (fun K hK => ?_) AllReady.nil)
      go_simp
      refine hK _ _ ?_
      clear hK K
      try simp only [Act.put, List.getElem_toArray, List.getElem_cons_succ, List.getElem_cons_zero, List.setIfInBounds_toArray, List.set_cons_zero, List.set_cons_succ]
      refine wpAny_ready (rs := [14]) (by kernel_rfl) (by simp) (AllReady.cons rfl (fun K hK => ?_) AllReady.nil)
      go_simp
      refine hK _ _ ?_
      clear hK K
      try simp only [Act.put, List.getElem_toArray, List.getElem_cons_succ, List.getElem_cons_zero, List.setIfInBounds_toArray, List.set_cons_zero, List.set_cons_succ]
      refine wpAny_take (i := 15) (v := ?_) rfl (by kernel_rfl) (by kernel_rfl) (by kernel_rfl) (fun _ _ _ h => h) (Or.inl ⟨by rfl, ?_⟩) ?_
      rotate_left
      · intro w; go_simp; with_reducible rfl
      try simp only [Act.put, List.getElem_toArray, List.getElem_cons_succ, List.getElem_cons_zero, List.setIfInBounds_toArray, List.set_cons_zero, List.set_cons_succ]
      refine wpAny_take (i := 16) (v := ?_) rfl (by kernel_rfl) (by kernel_rfl) (by kernel_rfl) (fun _ _ _ h => h) (Or.inl ⟨by rfl, ?_⟩) ?_
      rotate_left
      · intro w; go_simp; with_reducible rfl
      try simp only [Act.put, List.getElem_toArray, List.getElem_cons_succ, List.getElem_cons_zero, List.setIfInBounds_toArray, List.set_cons_zero, List.set_cons_succ]
      refine wpAny_ready (rs := [17]) (by kernel_rfl) (by simp) (AllReady.cons rfl (fun K hK => ?_) AllReady.nil)
      go_simp
      refine hK _ _ ?_
      clear hK K
      try simp only [Act.put, List.getElem_toArray, List.getElem_cons_succ, List.getElem_cons_zero, List.setIfInBounds_toArray, List.set_cons_zero, List.set_cons_succ]
      refine wpAny_ready (rs := [18]) (by kernel_rfl) (by simp) (AllReady.cons rfl (fun K hK => ?_) AllReady.nil)
      go_simp
      refine hK _ _ ?_
      clear hK K
      try simp only [Act.put, List.getElem_toArray, List.getElem_cons_succ, List.getElem_cons_zero, List.setIfInBounds_toArray, List.set_cons_zero, List.set_cons_succ]
      refine wpAny_ready (rs := [19]) (by kernel_rfl) (by simp) (AllReady.cons rfl (fun K hK => ?_) AllReady.nil)
      go_simp
      refine hK _ _ ?_
      clear hK K
      try simp only [Act.put, List.getElem_toArray, List.getElem_cons_succ, List.getElem_cons_zero, List.setIfInBounds_toArray, List.set_cons_zero, List.set_cons_succ]
      refine wpAny_ready (rs := [20]) (by kernel_rfl) (by simp) (AllReady.cons rfl (fun K hK => ?_) AllReady.nil)
      go_simp
      refine hK _ _ ?_
      clear hK K
      try simp only [Act.put, List.getElem_toArray, List.getElem_cons_succ, List.getElem_cons_zero, List.setIfInBounds_toArray, List.set_cons_zero, List.set_cons_succ]
      refine wpAny_take (i := 21) (v := ?_) rfl (by kernel_rfl) (by kernel_rfl) (by kernel_rfl) (fun _ _ _ h => h) (Or.inl ⟨by rfl, ?_⟩) ?_
      rotate_left
      · intro w; go_simp; with_reducible rfl
      try simp only [Act.put, List.getElem_toArray, List.getElem_cons_succ, List.getElem_cons_zero, List.setIfInBounds_toArray, List.set_cons_zero, List.set_cons_succ]
      refine wpAny_take (i := 22) (v := ?_) rfl (by kernel_rfl) (by kernel_rfl) (by kernel_rfl) (fun _ _ _ h => h) (Or.inl ⟨by rfl, ?_⟩) ?_
      rotate_left
      · intro w; go_simp; with_reducible rfl
      try simp only [Act.put, List.getElem_toArray, List.getElem_cons_succ, List.getElem_cons_zero, List.setIfInBounds_toArray, List.set_cons_zero, List.set_cons_succ]
      refine wpAny_ready (rs := [23]) (by kernel_rfl) (by simp) (AllReady.cons rfl (fun K hK => ?_) AllReady.nil)
      go_simp
      refine hK _ _ ?_
      clear hK K
      try simp only [Act.put, List.getElem_toArray, List.getElem_cons_succ, List.getElem_cons_zero, List.setIfInBounds_toArray, List.set_cons_zero, List.set_cons_succ]
      refine wpAny_ready (rs := [24]) (by kernel_rfl) (by simp) (AllReady.cons rfl (fun K hK => ?_) AllReady.nil)
      go_simp
      refine hK _ _ ?_
      clear hK K
      try simp only [Act.put, List.getElem_toArray, List.getElem_cons_succ, List.getElem_cons_zero, List.setIfInBounds_toArray, List.set_cons_zero, List.set_cons_succ]
      refine wpAny_ready (rs := [25]) (by kernel_rfl) (by simp) (AllReady.cons rfl (fun K hK => ?_) AllReady.nil)
      go_simp
      have hb5 : Below w4.heap.size w4 (w4.alloc (.cells #[.string (strOf bs)] 9)) := (Below.refl _ w4).alloc (Nat.le_refl _) _
      have ho5 := own_below (own_below HU3.out.2 HB4.out) hb5
      have hu5 := own_below (own_below HU3.out.1 HB4.out) hb5
      have hn5 := heap_alloc_new w4 (.cells #[.string (strOf bs)] 9)
      refine (same_any (some ⟨g3, 0, none⟩) (some ⟨w4.heap.size, 0, none⟩) cap3 1 [u] [strOf bs] (w4.alloc (.cells #[.string (strOf bs)] 9)) ?_ ?_ rfl (by simp) ?_).mono ?_
      · intro j v hv
        have hj : j = 0 := by have := (List.getElem?_eq_some_iff.1 hv).1; simp at this; omega
        subst hj
        exact ⟨g3, 0, rfl, (ho5.cellAt 0 (by omega)).trans hv⟩
      · intro j v hv
        have hj : j = 0 := by have := (List.getElem?_eq_some_iff.1 hv).1; simp at this; omega
        subst hj
        refine ⟨w4.heap.size, 0, rfl, ?_⟩
        simp only [List.map_cons, List.map_nil, List.getElem?_cons_zero, Option.some.injEq] at hv
        subst hv
        unfold World.cell?
        rw [hn5]
        rfl
      · intro j v s hv hs
        have hj : j = 0 := by have := (List.getElem?_eq_some_iff.1 hv).1; simp at this; omega
        subst hj
        cases hv
        cases hs
        exact ⟨bs, _, cut_own hu5 (Nat.le_trans H3.out.2 (Nat.le_trans HB4.out.size hb5.size)), HO.out, rfl⟩
      rintro e w6 ⟨rfl, q, hq⟩
      have H6 : Hid (Below w.heap.size w w6) := (by
        rw [hq]
        exact below_drewN (H3.out.1.trans ((HB4.out.trans (hb5.mono HB4.out.size)).mono H3.out.1.size)) q)
      obtain ⟨W7, hmk, hb7⟩ := make_bytes (200001 + z) (by omega) w6
      rw [show ((200001 + z : Nat) : Int) = 200001 + (z : Int) by omega] at hmk
      have H7 := Lib.hid (H6.out.trans (hb7.mono H6.out.size))
      clear hb5 ho5 hu5 hn5 hq hb7 kf4 kb4
      refine hK _ _ ?_
      clear hK K
      try simp only [Act.put, List.getElem_toArray, List.getElem_cons_succ, List.getElem_cons_zero, List.setIfInBounds_toArray, List.set_cons_zero, List.set_cons_succ]
      refine wpAny_ready (rs := [26]) (by kernel_rfl) (by simp) (AllReady.cons rfl (fun K hK => ?_) AllReady.nil)
      go_simp
      refine hK _ _ ?_
      clear hK K
      try simp only [Act.put, List.getElem_toArray, List.getElem_cons_succ, List.getElem_cons_zero, List.setIfInBounds_toArray, List.set_cons_zero, List.set_cons_succ]
      refine wpAny_ready (rs := [27]) (by kernel_rfl) (by simp) (AllReady.cons rfl (fun K hK => ?_) AllReady.nil)
      go_simp
      refine hK _ _ ?_
      clear hK K
      try simp only [Act.put, List.getElem_toArray, List.getElem_cons_succ, List.getElem_cons_zero, List.setIfInBounds_toArray, List.set_cons_zero, List.set_cons_succ]
      refine wpAny_done (by kernel_rfl) ?_ _
      have hz0 : (0 : Int) ≤ (z : Int) := by omega
      have hz1 : (z : Int) < 65536 := by omega
      go_wp2_with fail
      refine (frame_full (some ⟨w6.heap.size, 0, none⟩) (200001 + z) (200001 + z) W7 (by omega) (by omega)).mono ?_
      rintro e w8 ⟨rfl, rfl⟩
      go_wp2
      go_ret
      exact ⟨rfl, H7.out⟩
    · go_simp
      refine hK _ _ ?_
      clear hK K
      try simp only [Act.put, List.getElem_toArray, List.getElem_cons_succ, List.getElem_cons_zero, List.setIfInBounds_toArray, List.set_cons_zero, List.set_cons_succ]
      refine wpAny_ready (rs := [4, 7]) (by kernel_rfl) (by simp) (AllReady.cons rfl (fun K hK => ?_) (AllReady.cons rfl (fun K hK => ?_) AllReady.nil))
      · go_simp
        refine hK _ _ ?_
        clear hK K
        try simp only [Act.put, List.getElem_toArray, List.getElem_cons_succ, List.getElem_cons_zero, List.setIfInBounds_toArray, List.set_cons_zero, List.set_cons_succ]
        clear kf3 kb3
        refine wpAny_ready (rs := [7]) (by kernel_rfl) (by simp) (AllReady.cons rfl (fun K hK => ?_) AllReady.nil)
        go_simp
        refine (HRF.out w3.drew).mono ?_
        rintro e w4 ⟨rfl, hb4⟩
        have hb4 : Below w3.heap.size w3 w4 := ⟨hb4.os, hb4.tape, hb4.output, hb4.size, hb4.block⟩
        have kf4 := (cut_below HF3.out H3.out.2 hb4).string HOF.out
        have kb4 := (cut_below HB3.out H3.out.1.size hb4).string HO.out
        have HB4 := Lib.hid hb4
        clear hb4
        refine hK _ _ ?_
        clear hK K
        try simp only [Act.put, List.getElem_toArray, List.getElem_cons_succ, List.getElem_cons_zero, List.setIfInBounds_toArray, List.set_cons_zero, List.set_cons_succ]
        refine wpAny_ready (rs := [8]) (by kernel_rfl) (by simp) (AllReady.cons rfl (fun K hK => ?_) AllReady.nil)
        go_simp
        refine hK _ _ ?_
        clear hK K
        try simp only [Act.put, List.getElem_toArray, List.getElem_cons_succ, List.getElem_cons_zero, List.setIfInBounds_toArray, List.set_cons_zero, List.set_cons_succ]
        refine wpAny_ready (rs := [9]) (by kernel_rfl) (by simp) (AllReady.cons rfl (fun K hK => ?_) AllReady.nil)
        go_simp
        refine hK _ _ ?_
        clear hK K
        try simp only [Act.put, List.getElem_toArray, List.getElem_cons_succ, List.getElem_cons_zero, List.setIfInBounds_toArray, List.set_cons_zero, List.set_cons_succ]
        refine wpAny_ready (rs := [10]) (by kernel_rfl) (by simp) (AllReady.cons rfl (fun K hK => ?_) AllReady.nil)
        go_simp
        refine hK _ _ ?_
        clear hK K
        try simp only [Act.put, List.getElem_toArray, List.getElem_cons_succ, List.getElem_cons_zero, List.setIfInBounds_toArray, List.set_cons_zero, List.set_cons_succ]
        refine wpAny_ready (rs := [11]) (by kernel_rfl) (by simp) (AllReady.cons rfl (fun K hK => ?_) AllReady.nil)
        go_simp
        refine hK _ _ ?_
        clear hK K
        try simp only [Act.put, List.getElem_toArray, List.getElem_cons_succ, List.getElem_cons_zero, List.setIfInBounds_toArray, List.set_cons_zero, List.set_cons_succ]
        refine wpAny_ready (rs := [12]) (by kernel_rfl) (by simp) (AllReady.cons rfl (fun K hK => ?_) AllReady.nil)
        go_simp
        refine hK _ _ ?_
        clear hK K
        try simp only [Act.put, List.getElem_toArray, List.getElem_cons_succ, List.getElem_cons_zero, List.setIfInBounds_toArray, List.set_cons_zero, List.set_cons_succ]
        refine wpAny_ready (rs := [13]) (by kernel_rfl) (by simp) (AllReady.cons rfl (fun K hK => ?_) AllReady.nil)
        go_simp
        refine hK _ _ ?_
        clear hK K
        try simp only [Act.put, List.getElem_toArray, List.getElem_cons_succ, List.getElem_cons_zero, List.setIfInBounds_toArray, List.set_cons_zero, List.set_cons_succ]
        refine wpAny_ready (rs := [14]) (by kernel_rfl) (by simp) (AllReady.cons rfl (fun K hK => ?_) AllReady.nil)
        go_simp
        refine hK _ _ ?_
        clear hK K
        try simp only [Act.put, List.getElem_toArray, List.getElem_cons_succ, List.getElem_cons_zero, List.setIfInBounds_toArray, List.set_cons_zero, List.set_cons_succ]
        refine wpAny_take (i := 15) (v := ?_) rfl (by kernel_rfl) (by kernel_rfl) (by kernel_rfl) (fun _ _ _ h => h) (Or.inl ⟨by rfl, ?_⟩) ?_
        rotate_left
        · intro w; go_simp; with_reducible rfl
        try simp only [Act.put, List.getElem_toArray, List.getElem_cons_succ, List.getElem_cons_zero, List.setIfInBounds_toArray, List.set_cons_zero, List.set_cons_succ]
        refine wpAny_take (i := 16) (v := ?_) rfl (by kernel_rfl) (by kernel_rfl) (by kernel_rfl) (fun _ _ _ h => h) (Or.inl ⟨by rfl, ?_⟩) ?_
        rotate_left
        · intro w; go_simp; with_reducible rfl
        try simp only [Act.put, List.getElem_toArray, List.getElem_cons_succ, List.getElem_cons_zero, List.setIfInBounds_toArray, List.set_cons_zero, List.set_cons_succ]
        refine wpAny_ready (rs := [17]) (by kernel_rfl) (by simp) (AllReady.cons rfl (fun K hK => ?_) AllReady.nil)
        go_simp
        refine hK _ _ ?_
        clear hK K
        try simp only [Act.put, List.getElem_toArray, List.getElem_cons_succ, List.getElem_cons_zero, List.setIfInBounds_toArray, List.set_cons_zero, List.set_cons_succ]
        refine wpAny_ready (rs := [18]) (by kernel_rfl) (by simp) (AllReady.cons rfl (fun K hK => ?_) AllReady.nil)
        go_simp
        refine hK _ _ ?_
        clear hK K
        try simp only [Act.put, List.getElem_toArray, List.getElem_cons_succ, List.getElem_cons_zero, List.setIfInBounds_toArray, List.set_cons_zero, List.set_cons_succ]
        refine wpAny_ready (rs := [19]) (by kernel_rfl) (by simp) (AllReady.cons rfl (fun K hK => ?_) AllReady.nil)
        go_simp
        refine hK _ _ ?_
        clear hK K
        try simp only [Act.put, List.getElem_toArray, List.getElem_cons_succ, List.getElem_cons_zero, List.setIfInBounds_toArray, List.set_cons_zero, List.set_cons_succ]
        refine wpAny_ready (rs := [20]) (by kernel_rfl) (by simp) (AllReady.cons rfl (fun K hK => ?_) AllReady.nil)
        go_simp
        refine hK _ _ ?_
        clear hK K
        try simp only [Act.put, List.getElem_toArray, List.getElem_cons_succ, List.getElem_cons_zero, List.setIfInBounds_toArray, List.set_cons_zero, List.set_cons_succ]
        refine wpAny_take (i := 21) (v := ?_) rfl (by kernel_rfl) (by kernel_rfl) (by kernel_rfl) (fun _ _ _ h => h) (Or.inl ⟨by rfl, ?_⟩) ?_
        rotate_left
        · intro w; go_simp; with_reducible rfl
        try simp only [Act.put, List.getElem_toArray, List.getElem_cons_succ, List.getElem_cons_zero, List.setIfInBounds_toArray, List.set_cons_zero, List.set_cons_succ]
        refine wpAny_take (i := 22) (v := ?_) rfl (by kernel_rfl) (by kernel_rfl) (by kernel_rfl) (fun _ _ _ h => h) (Or.inl ⟨by rfl, ?_⟩) ?_
        rotate_left
        · intro w; go_simp; with_reducible rfl
        try simp only [Act.put, List.getElem_toArray, List.getElem_cons_succ, List.getElem_cons_zero, List.setIfInBounds_toArray, List.set_cons_zero, List.set_cons_succ]
        refine wpAny_ready (rs := [23]) (by kernel_rfl) (by simp) (AllReady.cons rfl (fun K hK => ?_) AllReady.nil)
        go_simp
        refine hK _ _ ?_
        clear hK K
        try simp only [Act.put, List.getElem_toArray, List.getElem_cons_succ, List.getElem_cons_zero, List.setIfInBounds_toArray, List.set_cons_zero, List.set_cons_succ]
        refine wpAny_ready (rs := [24]) (by kernel_rfl) (by simp) (AllReady.cons rfl (fun K hK => ?_) AllReady.nil)
        go_simp
        refine hK _ _ ?_
        clear hK K
        try simp only [Act.put, List.getElem_toArray, List.getElem_cons_succ, List.getElem_cons_zero, List.setIfInBounds_toArray, List.set_cons_zero, List.set_cons_succ]
        refine wpAny_ready (rs := [25]) (by kernel_rfl) (by simp) (AllReady.cons rfl (fun K hK => ?_) AllReady.nil)
        go_simp
        have hb5 : Below w4.heap.size w4 (w4.alloc (.cells #[.string (strOf bs)] 9)) := (Below.refl _ w4).alloc (Nat.le_refl _) _
        have ho5 := own_below (own_below HU3.out.2 HB4.out) hb5
        have hu5 := own_below (own_below HU3.out.1 HB4.out) hb5
        have hn5 := heap_alloc_new w4 (.cells #[.string (strOf bs)] 9)
        refine (same_any (some ⟨g3, 0, none⟩) (some ⟨w4.heap.size, 0, none⟩) cap3 1 [u] [strOf bs] (w4.alloc (.cells #[.string (strOf bs)] 9)) ?_ ?_ rfl (by simp) ?_).mono ?_
        · intro j v hv
          have hj : j = 0 := by have := (List.getElem?_eq_some_iff.1 hv).1; simp at this; omega
          subst hj
          exact ⟨g3, 0, rfl, (ho5.cellAt 0 (by omega)).trans hv⟩
        · intro j v hv
          have hj : j = 0 := by have := (List.getElem?_eq_some_iff.1 hv).1; simp at this; omega
          subst hj
          refine ⟨w4.heap.size, 0, rfl, ?_⟩
          simp only [List.map_cons, List.map_nil, List.getElem?_cons_zero, Option.some.injEq] at hv
          subst hv
          unfold World.cell?
          rw [hn5]
          rfl
        · intro j v s hv hs
          have hj : j = 0 := by have := (List.getElem?_eq_some_iff.1 hv).1; simp at this; omega
          subst hj
          cases hv
          cases hs
          exact ⟨bs, _, cut_own hu5 (Nat.le_trans H3.out.2 (Nat.le_trans HB4.out.size hb5.size)), HO.out, rfl⟩
        rintro e w6 ⟨rfl, q, hq⟩
        have H6 : Hid (Below w.heap.size w w6) := (by
          rw [hq]
          exact below_drewN (H3.out.1.trans ((HB4.out.trans (hb5.mono HB4.out.size)).mono H3.out.1.size)) q)
        obtain ⟨W7, hmk, hb7⟩ := make_bytes (200001 + z) (by omega) w6
        rw [show ((200001 + z : Nat) : Int) = 200001 + (z : Int) by omega] at hmk
        have H7 := Lib.hid (H6.out.trans (hb7.mono H6.out.size))
        clear hb5 ho5 hu5 hn5 hq hb7 kf4 kb4
        refine hK _ _ ?_
        clear hK K
        try simp only [Act.put, List.getElem_toArray, List.getElem_cons_succ, List.getElem_cons_zero, List.setIfInBounds_toArray, List.set_cons_zero, List.set_cons_succ]
        refine wpAny_ready (rs := [26]) (by kernel_rfl) (by simp) (AllReady.cons rfl (fun K hK => ?_) AllReady.nil)
        go_simp
        refine hK _ _ ?_
        clear hK K
        try simp only [Act.put, List.getElem_toArray, List.getElem_cons_succ, List.getElem_cons_zero, List.setIfInBounds_toArray, List.set_cons_zero, List.set_cons_succ]
        refine wpAny_ready (rs := [27]) (by kernel_rfl) (by simp) (AllReady.cons rfl (fun K hK => ?_) AllReady.nil)
        go_simp
        refine hK _ _ ?_
        clear hK K
        try simp only [Act.put, List.getElem_toArray, List.getElem_cons_succ, List.getElem_cons_zero, List.setIfInBounds_toArray, List.set_cons_zero, List.set_cons_succ]
        refine wpAny_done (by kernel_rfl) ?_ _
        have hz0 : (0 : Int) ≤ (z : Int) := by omega
        have hz1 : (z : Int) < 65536 := by omega
        go_wp2_with fail
        refine (frame_full (some ⟨w6.heap.size, 0, none⟩) (200001 + z) (200001 + z) W7 (by omega) (by omega)).mono ?_
        rintro e w8 ⟨rfl, rfl⟩
        go_wp2
        go_ret
        exact ⟨rfl, H7.out⟩
      · go_simp
        refine (HRF.out w3.drew).mono ?_
        rintro e w4 ⟨rfl, hb4⟩
        have hb4 : Below w3.heap.size w3 w4 := ⟨hb4.os, hb4.tape, hb4.output, hb4.size, hb4.block⟩
        have kf4 := (cut_below HF3.out H3.out.2 hb4).string HOF.out
        have kb4 := (cut_below HB3.out H3.out.1.size hb4).string HO.out
        have HB4 := Lib.hid hb4
        clear hb4
        refine hK _ _ ?_
        clear hK K
        try simp only [Act.put, List.getElem_toArray, List.getElem_cons_succ, List.getElem_cons_zero, List.setIfInBounds_toArray, List.set_cons_zero, List.set_cons_succ]
        refine wpAny_ready (rs := [4]) (by kernel_rfl) (by simp) (AllReady.cons rfl (fun K hK => ?_) AllReady.nil)
        go_simp
        refine hK _ _ ?_
        clear hK K
        try simp only [Act.put, List.getElem_toArray, List.getElem_cons_succ, List.getElem_cons_zero, List.setIfInBounds_toArray, List.set_cons_zero, List.set_cons_succ]
        refine wpAny_ready (rs := [8]) (by kernel_rfl) (by simp) (AllReady.cons rfl (fun K hK => ?_) AllReady.nil)
        go_simp
        refine hK _ _ ?_
        clear hK K
        try simp only [Act.put, List.getElem_toArray, List.getElem_cons_succ, List.getElem_cons_zero, List.setIfInBounds_toArray, List.set_cons_zero, List.set_cons_succ]
        refine wpAny_ready (rs := [9]) (by kernel_rfl) (by simp) (AllReady.cons rfl (fun K hK => ?_) AllReady.nil)
        go_simp
        refine hK _ _ ?_
        clear hK K
        try simp only [Act.put, List.getElem_toArray, List.getElem_cons_succ, List.getElem_cons_zero, List.setIfInBounds_toArray, List.set_cons_zero, List.set_cons_succ]
        refine wpAny_ready (rs := [10]) (by kernel_rfl) (by simp) (AllReady.cons rfl (fun K hK => ?_) AllReady.nil)
        go_simp
        refine hK _ _ ?_
        clear hK K
        try simp only [Act.put, List.getElem_toArray, List.getElem_cons_succ, List.getElem_cons_zero, List.setIfInBounds_toArray, List.set_cons_zero, List.set_cons_succ]
        refine wpAny_ready (rs := [11]) (by kernel_rfl) (by simp) (AllReady.cons rfl (fun K hK => ?_) AllReady.nil)
        go_simp
        refine hK _ _ ?_
        clear hK K
        try simp only [Act.put, List.getElem_toArray, List.getElem_cons_succ, List.getElem_cons_zero, List.setIfInBounds_toArray, List.set_cons_zero, List.set_cons_succ]
        refine wpAny_ready (rs := [12]) (by kernel_rfl) (by simp) (AllReady.cons rfl (fun K hK => ?_) AllReady.nil)
        go_simp
        refine hK _ _ ?_
        clear hK K
        try simp only [Act.put, List.getElem_toArray, List.getElem_cons_succ, List.getElem_cons_zero, List.setIfInBounds_toArray, List.set_cons_zero, List.set_cons_succ]
        refine wpAny_ready (rs := [13]) (by kernel_rfl) (by simp) (AllReady.cons rfl (fun K hK => ?_) AllReady.nil)
        go_simp
        refine hK _ _ ?_
        clear hK K
        try simp only [Act.put, List.getElem_toArray, List.getElem_cons_succ, List.getElem_cons_zero, List.setIfInBounds_toArray, List.set_cons_zero, List.set_cons_succ]
        refine wpAny_ready (rs := [14]) (by kernel_rfl) (by simp) (AllReady.cons rfl (fun K hK => ?_) AllReady.nil)
        go_simp
        refine hK _ _ ?_
        clear hK K
        try simp only [Act.put, List.getElem_toArray, List.getElem_cons_succ, List.getElem_cons_zero, List.setIfInBounds_toArray, List.set_cons_zero, List.set_cons_succ]
        refine wpAny_take (i := 15) (v := ?_) rfl (by kernel_rfl) (by kernel_rfl) (by kernel_rfl) (fun _ _ _ h => h) (Or.inl ⟨by rfl, ?_⟩) ?_
        rotate_left
        · intro w; go_simp; with_reducible rfl
        try simp only [Act.put, List.getElem_toArray, List.getElem_cons_succ, List.getElem_cons_zero, List.setIfInBounds_toArray, List.set_cons_zero, List.set_cons_succ]
        refine wpAny_take (i := 16) (v := ?_) rfl (by kernel_rfl) (by kernel_rfl) (by kernel_rfl) (fun _ _ _ h => h) (Or.inl ⟨by rfl, ?_⟩) ?_
        rotate_left
        · intro w; go_simp; with_reducible rfl
        try simp only [Act.put, List.getElem_toArray, List.getElem_cons_succ, List.getElem_cons_zero, List.setIfInBounds_toArray, List.set_cons_zero, List.set_cons_succ]
        refine wpAny_ready (rs := [17]) (by kernel_rfl) (by simp) (AllReady.cons rfl (fun K hK => ?_) AllReady.nil)
        go_simp
        refine hK _ _ ?_
        clear hK K
        try simp only [Act.put, List.getElem_toArray, List.getElem_cons_succ, List.getElem_cons_zero, List.setIfInBounds_toArray, List.set_cons_zero, List.set_cons_succ]
        refine wpAny_ready (rs := [18]) (by kernel_rfl) (by simp) (AllReady.cons rfl (fun K hK => ?_) AllReady.nil)
        go_simp
        refine hK _ _ ?_
        clear hK K
        try simp only [Act.put, List.getElem_toArray, List.getElem_cons_succ, List.getElem_cons_zero, List.setIfInBounds_toArray, List.set_cons_zero, List.set_cons_succ]
        refine wpAny_ready (rs := [19]) (by kernel_rfl) (by simp) (AllReady.cons rfl (fun K hK => ?_) AllReady.nil)
        go_simp
        refine hK _ _ ?_
        clear hK K
        try simp only [Act.put, List.getElem_toArray, List.getElem_cons_succ, List.getElem_cons_zero, List.setIfInBounds_toArray, List.set_cons_zero, List.set_cons_succ]
        refine wpAny_ready (rs := [20]) (by kernel_rfl) (by simp) (AllReady.cons rfl (fun K hK => ?_) AllReady.nil)
        go_simp
        refine hK _ _ ?_
        clear hK K
        try simp only [Act.put, List.getElem_toArray, List.getElem_cons_succ, List.getElem_cons_zero, List.setIfInBounds_toArray, List.set_cons_zero, List.set_cons_succ]
        refine wpAny_take (i := 21) (v := ?_) rfl (by kernel_rfl) (by kernel_rfl) (by kernel_rfl) (fun _ _ _ h => h) (Or.inl ⟨by rfl, ?_⟩) ?_
        rotate_left
        · intro w; go_simp; with_reducible rfl
        try simp only [Act.put, List.getElem_toArray, List.getElem_cons_succ, List.getElem_cons_zero, List.setIfInBounds_toArray, List.set_cons_zero, List.set_cons_succ]
        refine wpAny_take (i := 22) (v := ?_) rfl (by kernel_rfl) (by kernel_rfl) (by kernel_rfl) (fun _ _ _ h => h) (Or.inl ⟨by rfl, ?_⟩) ?_
        rotate_left
        · intro w; go_simp; with_reducible rfl
        try simp only [Act.put, List.getElem_toArray, List.getElem_cons_succ, List.getElem_cons_zero, List.setIfInBounds_toArray, List.set_cons_zero, List.set_cons_succ]
        refine wpAny_ready (rs := [23]) (by kernel_rfl) (by simp) (AllReady.cons rfl (fun K hK => ?_) AllReady.nil)
        go_simp
        refine hK _ _ ?_
        clear hK K
        try simp only [Act.put, List.getElem_toArray, List.getElem_cons_succ, List.getElem_cons_zero, List.setIfInBounds_toArray, List.set_cons_zero, List.set_cons_succ]
        refine wpAny_ready (rs := [24]) (by kernel_rfl) (by simp) (AllReady.cons rfl (fun K hK => ?_) AllReady.nil)
        go_simp
        refine hK _ _ ?_
        clear hK K
        try simp only [Act.put, List.getElem_toArray, List.getElem_cons_succ, List.getElem_cons_zero, List.setIfInBounds_toArray, List.set_cons_zero, List.set_cons_succ]
        refine wpAny_ready (rs := [25]) (by kernel_rfl) (by simp) (AllReady.cons rfl (fun K hK => ?_) AllReady.nil)
        go_simp
        have hb5 : Below w4.heap.size w4 (w4.alloc (.cells #[.string (strOf bs)] 9)) := (Below.refl _ w4).alloc (Nat.le_refl _) _
        have ho5 := own_below (own_below HU3.out.2 HB4.out) hb5
        have hu5 := own_below (own_below HU3.out.1 HB4.out) hb5
        have hn5 := heap_alloc_new w4 (.cells #[.string (strOf bs)] 9)
        refine (same_any (some ⟨g3, 0, none⟩) (some ⟨w4.heap.size, 0, none⟩) cap3 1 [u] [strOf bs] (w4.alloc (.cells #[.string (strOf bs)] 9)) ?_ ?_ rfl (by simp) ?_).mono ?_
        · intro j v hv
          have hj : j = 0 := by have := (List.getElem?_eq_some_iff.1 hv).1; simp at this; omega
          subst hj
          exact ⟨g3, 0, rfl, (ho5.cellAt 0 (by omega)).trans hv⟩
        · intro j v hv
          have hj : j = 0 := by have := (List.getElem?_eq_some_iff.1 hv).1; simp at this; omega
          subst hj
          refine ⟨w4.heap.size, 0, rfl, ?_⟩
          simp only [List.map_cons, List.map_nil, List.getElem?_cons_zero, Option.some.injEq] at hv
          subst hv
          unfold World.cell?
          rw [hn5]
          rfl
        · intro j v s hv hs
          have hj : j = 0 := by have := (List.getElem?_eq_some_iff.1 hv).1; simp at this; omega
          subst hj
          cases hv
          cases hs
          exact ⟨bs, _, cut_own hu5 (Nat.le_trans H3.out.2 (Nat.le_trans HB4.out.size hb5.size)), HO.out, rfl⟩
        rintro e w6 ⟨rfl, q, hq⟩
        have H6 : Hid (Below w.heap.size w w6) := (by
          rw [hq]
          exact below_drewN (H3.out.1.trans ((HB4.out.trans (hb5.mono HB4.out.size)).mono H3.out.1.size)) q)
        obtain ⟨W7, hmk, hb7⟩ := make_bytes (200001 + z) (by omega) w6
        rw [show ((200001 + z : Nat) : Int) = 200001 + (z : Int) by omega] at hmk
        have H7 := Lib.hid (H6.out.trans (hb7.mono H6.out.size))
        clear hb5 ho5 hu5 hn5 hq hb7 kf4 kb4
        refine hK _ _ ?_
        clear hK K
        try simp only [Act.put, List.getElem_toArray, List.getElem_cons_succ, List.getElem_cons_zero, List.setIfInBounds_toArray, List.set_cons_zero, List.set_cons_succ]
        refine wpAny_ready (rs := [26]) (by kernel_rfl) (by simp) (AllReady.cons rfl (fun K hK => ?_) AllReady.nil)
        go_simp
        refine hK _ _ ?_
        clear hK K
        try simp only [Act.put, List.getElem_toArray, List.getElem_cons_succ, List.getElem_cons_zero, List.setIfInBounds_toArray, List.set_cons_zero, List.set_cons_succ]
        refine wpAny_ready (rs := [27]) (by kernel_rfl) (by simp) (AllReady.cons rfl (fun K hK => ?_) AllReady.nil)
        go_simp
        refine hK _ _ ?_
        clear hK K
        try simp only [Act.put, List.getElem_toArray, List.getElem_cons_succ, List.getElem_cons_zero, List.setIfInBounds_toArray, List.set_cons_zero, List.set_cons_succ]
        refine wpAny_done (by kernel_rfl) ?_ _
        have hz0 : (0 : Int) ≤ (z : Int) := by omega
        have hz1 : (z : Int) < 65536 := by omega
        go_wp2_with fail
        refine (frame_full (some ⟨w6.heap.size, 0, none⟩) (200001 + z) (200001 + z) W7 (by omega) (by omega)).mono ?_
        rintro e w8 ⟨rfl, rfl⟩
        go_wp2
        go_ret
        exact ⟨rfl, H7.out⟩
  · go_wp2_with fail
    refine (awake_any w1 H1.out.2).mono ?_
    rintro e w2 ⟨rfl, hb2⟩
    have H2 := Lib.hid (H1.out.1.trans (hb2.mono H1.out.1.size))
    clear hb2
    go_wp2
    go_ret
    exact ⟨rfl, H2.out⟩
end Go.Proofs.YtdgcafohfedbhaaDoor.T
