import Derived.Test.YtdgcafohfedbhaaAB
namespace Go.Proofs.Ytdgcafohfedbhaa
open Go.RowKit Go.Joins
attribute [local go_sem] Oper.semAt_some
set_option linter.unusedVariables false
set_option linter.unusedSimpArgs false

/-! ### plain: a list of numbers -/
theorem goI_put (xs : List Int) (acc : List Int) (hf : ∀ x ∈ xs, fits x) : goT oneI xs.length (I.ens xs) acc = (acc ++ xs, [], 0) := by
  induction xs generalizing acc with
  | nil => simp [goT, I.ens]
  | cons x xs ih =>
    have e : I.ens (x :: xs) = up (fold x) ++ I.ens xs := by simp [I.ens]
    have h := intS_up x (I.ens xs) (hf x (by simp))
    rw [e, List.length_cons, goT]
    unfold oneI
    rw [h, if_pos rfl]
    have := ih (acc ++ [x]) (fun y hy => hf y (by simp [hy]))
    unfold oneI at this
    rw [this]
    simp
theorem takeI_le (most : Int) (xs : List Int) (hf : ∀ x ∈ xs, fits x) (hn : xs.length < 9223372036854775808) (hm : (xs.length : Int) ≤ most) : takeT oneI most (up xs.length ++ I.ens xs) = (xs, [], 0) := by
  unfold takeT
  rw [upS_up most xs.length (I.ens xs) hn hm, if_pos rfl]
  have := goI_put xs [] hf
  rw [List.nil_append] at this
  exact this
theorem takeI_gt (most : Int) (xs : List Int) (hn : xs.length < 9223372036854775808) (hm : most < (xs.length : Int)) : takeT oneI most (up xs.length ++ I.ens xs) = ([], I.ens xs, 1) := by
  have h : upS most (up xs.length ++ I.ens xs) 0 = (0, I.ens xs, 1) := by
    unfold upS
    rw [numS_up _ _ hn, if_pos ⟨rfl, hm⟩]
  unfold takeT
  rw [h, if_neg (show ¬ ((1 : Int) = 0) by decide)]
theorem upSI_le (most : Int) (xs : List Int) (hn : xs.length < 9223372036854775808) : (upS most (up xs.length ++ I.ens xs) 0).1 ≤ xs.length := by
  unfold upS
  rw [numS_up _ _ hn]
  split <;> simp
theorem ensI_oct (xs : List Int) : Oct (I.ens xs) := by
  induction xs with
  | nil => exact Oct.nil
  | cons x xs ih => exact (up_oct _).append ih
theorem ensI_len (xs : List Int) (hf : ∀ x ∈ xs, fits x) : (I.ens xs).length ≤ 9 * xs.length := by
  induction xs with
  | nil => simp [I.ens]
  | cons x xs ih =>
    have e : (I.ens (x :: xs)).length = (up (fold x)).length + (I.ens xs).length := by simp [I.ens]
    have h1 := up_len9 _ (fold_lt x (hf x (by simp)))
    have h2 := ih (fun y hy => hf y (by simp [hy]))
    rw [e, List.length_cons]; omega

/-- slices.Equal of ints, one of them twice -/
theorem equal_any (a1 a2 : Option Addr) (c1 c2 : Nat) (xs : List Int) (w : World) (h1 : ShowsV w a1 (xs.map (Value.int .i64))) (h2 : ShowsV w a2 (xs.map (Value.int .i64))) (hn : xs.length ≤ 9223372036854775807) :
    Calls Try.prog 40 #[.slice a1 xs.length c1, .slice a2 xs.length c2] w fun e w' => e = .returned (.bool true) ∧ ∃ n, w' = w.drewN n := by
  have HS := Lib.hid (⟨h1, h2⟩ : _ ∧ _)
  clear h1 h2
  go_enter Try.func40, Try.ntmps40
  go_wp2_with fail
  go_loopw [13] (fun iv wr => ∃ i n : Nat, i ≤ xs.length ∧ iv = .int .i64 i ∧ wr = w.drewN n) (fun iv _ => xs.length - (intOf iv).toNat)
  case atStart => exact ⟨0, 0, by omega, rfl, rfl⟩
  case round =>
    obtain ⟨i, n, hi, rfl, rfl⟩ := hrel
    by_cases hlt : i < xs.length
    · obtain ⟨x, hx⟩ : ∃ x, xs[i]? = some x := ⟨_, List.getElem?_eq_getElem hlt⟩
      obtain ⟨g1, o1, rfl, k1⟩ := HS.out.1 i (.int .i64 x) (by rw [List.getElem?_map, hx]; rfl)
      obtain ⟨g2, o2, rfl, k2⟩ := HS.out.2 i (.int .i64 x) (by rw [List.getElem?_map, hx]; rfl)
      have i1 : (0 : Int) ≤ (i : Int) := by omega
      have i2 : (i : Int) < (xs.length : Int) := by omega
      clear hx
      go_wp2_with fail
      go_quiet (fail)
      go_wp2
      exact ⟨⟨i + 1, n + nq, by omega, by go_num, by simp⟩, by simp [intOf]; omega⟩
    · go_wp2
      go_ret
      exact ⟨rfl, n, rfl⟩

theorem below_drewN' {w w' : World} {B : Nat} (h : Below B w w') (n : Nat) : Below B w (w'.drewN n) := ⟨h.os, h.tape, h.output, h.size, h.block⟩
theorem ensI_snoc {xs : List Int} {i : Nat} {x : Int} (h : xs[i]? = some x) : up xs.length ++ I.ens (xs.take (i + 1)) = (up xs.length ++ I.ens (xs.take i)) ++ up (fold x) := by
  rw [I.ens_snoc h, List.append_assoc]
def LR (w : World) (xs : List Int) (s iv : Value) (wr : World) : Prop :=
  ∃ i : Nat, i ≤ xs.length ∧ iv = .int .i64 i ∧ s = .string (strOf (up xs.length ++ I.ens (xs.take i))) ∧ Below w.heap.size w wr ∧ ∀ x ∈ xs.take i, fits x
/-- a row of ints of one's own shows them -/
theorem shows_own {w : World} {B : Nat} {a : Option Addr} {cap : Nat} {xs : List Int} (h : w.ownsRow B 3 1 (.slice a xs.length cap) xs.length (xs.map (Value.int .i64))) : ShowsV w a (xs.map (Value.int .i64)) := by
  intro i u hu
  rcases h.2 with ⟨e, h0⟩ | ⟨g, cp, cur, e, _, _, _⟩
  · have hL : xs = [] := List.eq_nil_of_length_eq_zero h0
    rw [hL] at hu
    simp at hu
  · simp only [Value.slice.injEq] at e
    obtain ⟨rfl, _, rfl⟩ := e
    have hi := (List.getElem?_eq_some_iff.1 hu).1
    refine ⟨g, 0, rfl, ?_⟩
    rw [Nat.zero_add, h.cellAt i (by simpa using hi)]
    exact hu

set_option maxRecDepth 100000 in
set_option maxHeartbeats 16000000 in
theorem lists_any (a : Option Addr) (cap : Nat) (xs : List Int) (most : Int) (w : World) (hs : ShowsV w a (xs.map (Value.int .i64))) (hlm : xs.length ≤ maxLen) :
    Calls Try.prog 7 #[.slice a xs.length cap, .int .i64 most] w fun e w' => e = .returned (.bool true) ∧ Below w.heap.size w w' := by
  have HS := Lib.hid hs
  unfold maxLen at hlm
  clear hs
  go_enter Try.func7, Try.ntmps7
  go_wp2_with fail
  refine (awake_any w).mono ?_
  rintro e w1 ⟨rfl, hb1⟩
  have HB1 := Lib.hid hb1
  clear hb1
  by_cases hbig : xs.length ≤ 100
  · have HU := Lib.hid (refup_any xs.length w1 (by omega))
    go_wp2_with fail
    refine HU.out.mono ?_
    rintro e w2 ⟨rfl, hb2⟩
    have HB2 := Lib.hid (HB1.out.trans (hb2.mono HB1.out.size))
    clear hb2 HU
    go_wp2_with fail
    go_loopw [5, 26] (LR w xs) (fun _ iv _ => xs.length - (intOf iv).toNat)
    case atStart => exact ⟨0, by omega, rfl, by simp [I.ens], HB2.out, by simp⟩
    case round =>
      obtain ⟨i, hi, rfl, rfl, hbe, hfi⟩ := hrel
      have HR := Lib.hid (⟨hbe, hfi⟩ : _ ∧ _)
      clear hbe hfi
      by_cases hlt : i < xs.length
      · obtain ⟨x, hx⟩ : ∃ x, xs[i]? = some x := ⟨_, List.getElem?_eq_getElem hlt⟩
        obtain ⟨g, o, rfl, hc⟩ := HS.out i (.int .i64 x) (by rw [List.getElem?_map, hx]; rfl)
        have hc := (HR.out.1.cell (cell_block hc)).trans hc
        have HX := Lib.hid hx
        have i1 : (0 : Int) ≤ (i : Int) := by omega
        have i2 : (i : Int) < (xs.length : Int) := by omega
        clear hx
        by_cases hf : fits x
        · have hle := ensI_len _ HR.out.2
          have hle2 : (xs.take i).length ≤ i := by rw [List.length_take]; omega
          have hul := up_len9 xs.length (by omega)
          have hul2 := up_len9 _ (fold_lt x hf)
          have hz1 : (strOf (up xs.length ++ I.ens (xs.take i))).size ≤ 2000 := by rw [strOf_size, List.length_append]; omega
          have hz2 : (strOf (up (fold x))).size ≤ 9 := by rw [strOf_size]; exact hul2
          have HE : Hid (strOf (up xs.length ++ I.ens (xs.take (i + 1))) = strOf (up xs.length ++ I.ens (xs.take i)) ++ strOf (up (fold x))) := (by rw [ensI_snoc HX.out, strOf_append] : strOf (up xs.length ++ I.ens (xs.take (i + 1))) = strOf (up xs.length ++ I.ens (xs.take i)) ++ strOf (up (fold x)))
          have HSM : Hid (∀ y ∈ xs.take (i + 1), fits y) := fun y hy => by
            rw [take_snoc HX.out, List.mem_append] at hy
            rcases hy with hy | hy
            · exact HR.out.2 y hy
            · simp at hy; subst hy; exact hf
          have HF := Lib.hid (refint_yes x wr hf)
          generalize strOf (up xs.length ++ I.ens (xs.take i)) = S0 at *
          generalize strOf (up (fold x)) = T0 at *
          have hnb : ¬ 9223372036854775807 < S0.size + T0.size := by omega
          clear hle hle2 hul hul2 hz1 hz2 hf
          go_wp2_with fail
          refine HF.out.mono ?_
          rintro e w3 ⟨rfl, hb3⟩
          have HB3 := Lib.hid (HR.out.1.trans (hb3.mono HR.out.1.size))
          clear hb3 HF hc
          go_wp2
          exact ⟨⟨i + 1, by omega, by go_num, by rw [HE.out], HB3.out, HSM.out⟩, by simp [intOf]; omega⟩
        · go_wp2_with fail
          refine (refint_no x wr hf).mono ?_
          rintro e w3 ⟨rfl, rfl⟩
          clear hf
          go_wp2
          go_ret
          exact ⟨rfl, HR.out.1⟩
      · have hil : i = xs.length := by omega
        subst hil
        rw [List.take_length] at HR ⊢
        clear HB1 HB2
        have hel := ensI_len xs HR.out.2
        have hul := up_len9 xs.length (by omega)
        have HBL : Hid ((up xs.length ++ I.ens xs).length ≤ 1000) := by
          have : (up xs.length ++ I.ens xs).length ≤ 1000 := by rw [List.length_append]; omega
          exact this
        have HEL : Hid (∀ i, (I.ens (xs.take i)).length ≤ 500000) := fun i => by
          have h1 := ensI_len (xs.take i) (fun y hy => HR.out.2 y (List.mem_of_mem_take hy))
          have h2 : (xs.take i).length ≤ xs.length := by rw [List.length_take]; omega
          omega
        have HOC : Hid (Oct (up xs.length ++ I.ens xs)) := (up_oct _).append (ensI_oct xs)
        clear hel hul
        go_wp2_with fail
        obtain ⟨c, hcc⟩ : ∃ c, wr.heap.size = c := ⟨_, rfl⟩
        have hC6 : (wr.alloc (.cells #[.slice none 0 0] 25)).heap[c]? = some (.cells #[.slice none 0 0] 25 (0, 0)) := by rw [← hcc]; exact heap_alloc_new wr _
        have hB6 : Below c wr (wr.alloc (.cells #[.slice none 0 0] 25)) := by rw [← hcc]; exact (Below.refl _ wr).alloc (Nat.le_refl _) _
        have hz6 : (wr.alloc (.cells #[.slice none 0 0] 25)).heap.size = c + 1 := by rw [← hcc]; simp
        rw [hcc]
        generalize wr.alloc (.cells #[.slice none 0 0] 25) = w6 at *
        have hwc : w.heap.size ≤ c := by rw [← hcc]; exact HR.out.1.size
        have H6 : Hid (w6.heap[c]? = some (.cells #[.slice none 0 0] 25 (0, 0)) ∧ Below w.heap.size w w6 ∧ w6.heap.size = c + 1) := ⟨hC6, HR.out.1.trans (hB6.mono hwc), hz6⟩
        clear hC6 hB6 hz6 hcc
        refine (I.values_mk _ w6 ⟨_, _, _, rfl⟩).mono ?_
        rintro e w7 ⟨rfl, hv7, hb7⟩
        rw [H6.out.2.2] at hv7 hb7 ⊢
        have hz7 : c + 1 < w7.heap.size := (Array.getElem?_eq_some_iff.1 hv7).1
        have H7 : Hid (w7.heap[c]? = some (.cells #[.slice none 0 0] 25 (0, 0)) ∧ w7.heap[c + 1]? = some (.cells #[.slice a xs.length cap] 61 (0, 0)) ∧ Below w.heap.size w w7) := ⟨(hb7.block c (by omega)).trans H6.out.1, hv7, H6.out.2.1.trans (hb7.mono (by omega))⟩
        clear hv7 hb7 H6
        go_wp2_with fail
        refine (I.put_any c (c + 1) a cap xs w7 H7.out.1 H7.out.2.1 (HS.out.below H7.out.2.2) HR.out.2 (by omega) HEL.out).mono ?_
        rintro e w8 ⟨rfl, hc8, ht8⟩
        have H8 : Hid (CoilAt w8 w7.heap.size c (up xs.length ++ I.ens xs) ∧ Below w.heap.size w w8) := ⟨hc8, H7.out.2.2.trans (ht8.below (by omega) hwc)⟩
        clear hc8 ht8 H7
        go_wp2_with fail
        refine (bytes_any c w7.heap.size _ w8 H8.out.1 (by have := HBL.out; omega)).mono ?_
        rintro e w9 ⟨v9, rfl, ho9, hb9⟩
        have H9 : Hid (CoilAt w9 w7.heap.size c (up xs.length ++ I.ens xs) ∧ Below w.heap.size w w9) := ⟨coil_below H8.out.1 hb9, H8.out.2.trans (hb9.mono H8.out.2.size)⟩
        have HO9 := Lib.hid (⟨ho9, hb9.size⟩ : _ ∧ _)
        clear ho9 hb9 H8
        go_wp2_with fail
        refine (open_own v9 _ _ w9 HO9.out.1 HO9.out.2).mono ?_
        rintro e w10 ⟨rfl, hr10, hb10⟩
        have hlt10 : w9.heap.size < w10.heap.size := by obtain ⟨_, _, h, _⟩ := hr10.ex; exact (Array.getElem?_eq_some_iff.1 h).1
        have H10 : Hid (ReelAt w10 w9.heap.size w9.heap.size (up xs.length ++ I.ens xs) 0 ∧ CoilAt w10 w7.heap.size c (up xs.length ++ I.ens xs) ∧ Below w.heap.size w w10 ∧ w.heap.size ≤ w9.heap.size ∧ w9.heap.size < w10.heap.size) := ⟨hr10, coil_below H9.out.1 hb10, H9.out.2.trans (hb10.mono H9.out.2.size), H9.out.2.size, hlt10⟩
        generalize w9.heap.size = r at *
        clear hr10 hb10 hlt10 H9 HO9
        go_wp2_with fail
        refine (bytes_any c w7.heap.size _ w10 H10.out.2.1 (by have := HBL.out; omega)).mono ?_
        rintro e w11 ⟨v11, rfl, ho11, hb11⟩
        have k11 := (cut_own ho11 hb11.size).string HOC.out
        have H11 : Hid (ReelAt w11 r r (up xs.length ++ I.ens xs) 0 ∧ Below w.heap.size w w11 ∧ w.heap.size ≤ r ∧ r < w11.heap.size) := ⟨reel_below H10.out.1 (Nat.le_of_lt H10.out.2.2.2.2) hb11, H10.out.2.2.1.trans (hb11.mono H10.out.2.2.1.size), H10.out.2.2.2.1, Nat.lt_of_lt_of_le H10.out.2.2.2.2 hb11.size⟩
        clear ho11 hb11 H10
        go_wp2_with fail
        clear k11
        have HTK := Lib.hid (I.take_any r (up xs.length ++ I.ens xs) most w11 HOC.out (by have := HBL.out; omega) H11.out.1 (by have := upSI_le most xs (by omega); omega))
        by_cases hm : (xs.length : Int) ≤ most
        · rw [takeI_le most xs HR.out.2 (by omega) hm] at HTK
          have hm2 : ¬ most < (xs.length : Int) := by omega
          clear hm
          refine HTK.out.mono ?_
          rintro e w12 ⟨v12, rfl, ho12, hr12, ht12⟩
          obtain ⟨ao12, cap12, rfl⟩ := own_form ho12
          have H12 : Hid (ReelAt w12 r r [] 0 ∧ Below w.heap.size w w12 ∧ ShowsV w12 ao12 (xs.map (Value.int .i64)) ∧ r < w12.heap.size) := ⟨hr12, H11.out.2.1.trans ((ht12.below (Nat.le_refl r) (Nat.le_of_lt H11.out.2.2.2)).mono H11.out.2.2.1), shows_own ho12, Nat.lt_of_lt_of_le H11.out.2.2.2 ht12.size⟩
          clear ho12 hr12 ht12 H11 HTK
          go_wp2_with fail
          refine (equal_any ao12 a cap12 cap xs w12 H12.out.2.2.1 (HS.out.below H12.out.2.1) (by omega)).mono ?_
          rintro e w13 ⟨rfl, n, rfl⟩
          go_wp2_with fail
          refine (end_back r r (w12.drewN n) (reel_below H12.out.1 (Nat.le_of_lt H12.out.2.2.2) (below_drewN' (Below.refl _ _) n))).mono ?_
          rintro e w14 ⟨rfl, rfl⟩
          go_wp2
          go_ret
          exact ⟨rfl, below_drewN' H12.out.2.1 n⟩
        · rw [takeI_gt most xs (by omega) (by omega)] at HTK
          have hm2 : most < (xs.length : Int) := by omega
          clear hm
          refine HTK.out.mono ?_
          rintro e w12 ⟨v12, rfl, ho12, hr12, ht12⟩
          obtain ⟨ao12, cap12, rfl⟩ := own_form ho12
          have H12 : Hid (ReelAt w12 r r (I.ens xs) 1 ∧ Below w.heap.size w w12) := ⟨hr12, H11.out.2.1.trans ((ht12.below (Nat.le_refl r) (Nat.le_of_lt H11.out.2.2.2)).mono H11.out.2.2.1)⟩
          clear ho12 hr12 ht12 H11 HTK
          simp only [List.length_nil]
          go_wp2_with fail
          refine (end_any r r (I.ens xs) 1 w12 H12.out.1).mono ?_
          rintro e w13 ⟨rfl, rfl⟩
          rw [show endN (I.ens xs) 1 = 1 from if_neg (fun h => by cases h.1)]
          go_wp2
          go_ret
          exact ⟨rfl, H12.out.2⟩
  · go_wp2_with fail
    refine (awake_any w1).mono ?_
    rintro e w2 ⟨rfl, hb2⟩
    have HB2 := Lib.hid (HB1.out.trans (hb2.mono HB1.out.size))
    clear hb2
    go_wp2
    go_ret
    exact ⟨rfl, HB2.out⟩
end Go.Proofs.Ytdgcafohfedbhaa
