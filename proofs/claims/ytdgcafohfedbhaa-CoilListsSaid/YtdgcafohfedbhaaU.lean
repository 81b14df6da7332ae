import Derived.Test.YtdgcafohfedbhaaT
import Derived.Deep.RegionWith
namespace Go.Proofs.Ytdgcafohfedbhaa
open Go.RowKit Go.Joins
set_option linter.unusedVariables false
set_option linter.unusedSimpArgs false

theorem coil_other {w w' : World} {B c d : Nat} {bs : List Nat} (h : CoilAt w B c bs) (ht : TouchB d w.heap.size w w') (hdc : d ≠ c) (hdB : d < B) : CoilAt w' B c bs := by
  obtain ⟨v, h1, h2⟩ := h
  refine ⟨v, (ht.block c (Array.getElem?_eq_some_iff.1 h1).1 (Ne.symm hdc)).trans h1, own_same h2 fun k hk => ht.block k (h2.lt k hk).2 (fun e => by have := (h2.lt k hk).1; omega)⟩
theorem coil_below {w w' : World} {B c : Nat} {bs : List Nat} (h : CoilAt w B c bs) (hb : Below w.heap.size w w') : CoilAt w' B c bs := by
  obtain ⟨v, h1, h2⟩ := h
  exact ⟨v, below_blk hb h1, own_below h2 hb⟩
theorem coil_nil_base {w : World} {B B' c : Nat} (h : w.heap[c]? = some (.cells #[.slice none 0 0] 25 (0, 0))) : CoilAt w B' c [] := ⟨_, h, World.ownsRow_nil _ _ _ _⟩
theorem up_len9 (n : Nat) (hn : n < 9223372036854775808) : (up n).length ≤ 9 := by rw [up_len]; exact len_le 8 n (by simp; omega)
theorem cut_below {w w' : World} {B : Nat} {v : Value} {bs : List Nat} (h : Cut w B v bs) (hB : B ≤ w.heap.size) (hb : Below w.heap.size w w') : Cut w' B v bs := by
  obtain ⟨a, cap, rfl, h1, h2⟩ := h
  refine ⟨a, cap, rfl, fun i x hx => ?_, h2⟩
  obtain ⟨g, o, e, hc⟩ := h1 i x hx
  exact ⟨g, o, e, by rw [hb.cell (p := ⟨g, o + i, none⟩) (by have := h2 _ e; simp at this ⊢; omega)]; exact hc⟩
/-- a slice of one's own that a reel can be opened upon -/
theorem cut_cap {w : World} {B n : Nat} {v : Value} {xs : List Value} (h : w.ownsRow B 5 1 v n xs) : ∃ a cap, v = .slice a n cap ∧ n ≤ cap ∧ cap ≤ maxLen := by
  rcases h.2 with ⟨rfl, rfl⟩ | ⟨g, cap, cur, rfl, hg, hh, h1, h2, _⟩
  · exact ⟨none, 0, rfl, Nat.le_refl _, Nat.zero_le _⟩
  · exact ⟨_, cap, rfl, h1, h2⟩
/-- a reel upon a slice of one's own -/
theorem open_own (v : Value) (B : Nat) (bs : List Nat) (w : World) (h : w.ownsRow B 5 1 v bs.length (byts bs)) (hB : B ≤ w.heap.size) :
    Calls Try.prog 13 #[v] w fun e w' => e = .returned (.pointer (some ⟨w.heap.size, 0, none⟩)) ∧ ReelAt w' w.heap.size w.heap.size bs 0 ∧ Below w.heap.size w w' := by
  obtain ⟨a, cap, rfl, h1, h2⟩ := cut_cap h
  obtain ⟨a', cap', e, h3, h4⟩ := cut_own h hB
  cases e
  exact open_any a cap bs w h1 h2 h3 h4
theorem reel_below {w w' : World} {B r : Nat} {bs : List Nat} {f : Int} (h : ReelAt w B r bs f) (hB : B ≤ w.heap.size) (hb : Below w.heap.size w w') : ReelAt w' B r bs f := by
  obtain ⟨a, cap, h1, h2, h3, h4, h5⟩ := h.ex
  refine ⟨a, cap, below_blk hb h1, h2, h3, fun i x hx => ?_, h5⟩
  obtain ⟨g, o, e, hc⟩ := h4 i x hx
  exact ⟨g, o, e, by rw [hb.cell (p := ⟨g, o + i, none⟩) (by have := h5 _ e; simp at this ⊢; omega)]; exact hc⟩
/-- what was put is taken -/
theorem up_back (r m : Nat) (w : World) (hm : m < 9223372036854775808) (h : ReelAt w r r (up m) 0) :
    Calls Try.prog 15 #[.pointer (some ⟨r, 0, none⟩), .int .i64 9223372036854775807] w fun e w' => e = .returned (.int .i64 (m : Int)) ∧ ReelAt w' r r [] 0 ∧ Touch r w w' := by
  have hu := upS_up 9223372036854775807 m [] hm (by omega)
  rw [List.append_nil] at hu
  have := up_take r r (up m) 0 9223372036854775807 w (up_oct m) (by have := up_len9 m hm; omega) h (Nat.le_refl _)
  rw [hu] at this
  exact this
theorem int_back (r : Nat) (n : Int) (w : World) (hn : fits n) (h : ReelAt w r r (up (fold n)) 0) :
    Calls Try.prog 17 #[.pointer (some ⟨r, 0, none⟩)] w fun e w' => e = .returned (.int .i64 n) ∧ ReelAt w' r r [] 0 ∧ Touch r w w' := by
  have hu := intS_up n [] hn
  rw [List.append_nil] at hu
  have := int_take r r (up (fold n)) 0 w (up_oct _) (by have := up_len9 _ (fold_lt n hn); omega) h (Nat.le_refl _)
  rw [hu] at this
  exact this
theorem end_back (B r : Nat) (w : World) (h : ReelAt w B r [] 0) :
    Calls Try.prog 16 #[.pointer (some ⟨r, 0, none⟩)] w fun e w' => e = .returned (.int .i64 0) ∧ w' = w := end_any B r [] 0 w h

set_option maxHeartbeats 8000000 in
theorem ints_pf (n : Int) (hr1 : -9223372036854775808 ≤ n) (hr2 : n < 9223372036854775808) (w : World) (h0 : 0 ≤ n) (hf : fits n) :
    Calls Try.prog 3 #[.int .i64 n] w fun e w' => e = .returned (.bool true) ∧ Below w.heap.size w w' := by
  obtain ⟨m, rfl⟩ : ∃ m : Nat, n = (m : Int) := ⟨n.toNat, by omega⟩
  have hm : m < 9223372036854775808 := by omega
  have hu9 := up_len9 m hm
  have hfl := fold_lt (m : Int) hf
  have hf9 := up_len9 _ hfl
  have HF := Lib.hid hf
  clear hf
  have hmx : Try.prog.follows .mixedOrders = true := by kernel_rfl
  go_enter Try.func3, Try.ntmps3
  go_wp2_with fail
  refine (awake_any w).mono ?_
  rintro e w1 ⟨rfl, hb1⟩
  have HB1 := Lib.hid hb1
  clear hb1
  obtain ⟨t, ht⟩ : ∃ t, w1.heap.size = t := ⟨_, rfl⟩
  have HC0 : Hid (((w1.alloc (.cells #[.slice none 0 0] 25)).alloc (.cells #[.slice none 0 0] 25)).heap[t]? = some (.cells #[.slice none 0 0] 25 (0, 0)) ∧ ((w1.alloc (.cells #[.slice none 0 0] 25)).alloc (.cells #[.slice none 0 0] 25)).heap[t + 1]? = some (.cells #[.slice none 0 0] 25 (0, 0)) ∧ Below t w1 ((w1.alloc (.cells #[.slice none 0 0] 25)).alloc (.cells #[.slice none 0 0] 25)) ∧ ((w1.alloc (.cells #[.slice none 0 0] 25)).alloc (.cells #[.slice none 0 0] 25)).heap.size = t + 2) := by
    subst ht
    refine ⟨(Below.heap_alloc _ _ _ (by simp)).trans (heap_alloc_new w1 _), ?_, ((Below.refl _ w1).alloc (Nat.le_refl _) _).alloc (by simp) _, by simp⟩
    have := heap_alloc_new (w1.alloc (.cells #[.slice none 0 0] 25)) (.cells #[.slice none 0 0] 25)
    simpa using this
  have HT := Lib.hid ht
  go_wp2_with fail
  clear ht
  generalize hwa : (w1.alloc (.cells #[.slice none 0 0] 25)).alloc (.cells #[.slice none 0 0] 25) = wa at *
  clear hwa
  refine (up_any t (t + 2) [] m wa hm (coil_nil_base (B := 0) HC0.out.1) (by omega) (by rw [HC0.out.2.2.2]; exact Nat.le_refl _) (by simp)).mono ?_
  rintro e w2 ⟨rfl, hc2, ht2⟩
  rw [List.nil_append] at hc2
  have HC2 : Hid (CoilAt w2 (t + 2) t (up m) ∧ w2.heap[t + 1]? = some (.cells #[.slice none 0 0] 25 (0, 0)) ∧ Below t wa w2 ∧ t + 2 ≤ w2.heap.size) := ⟨hc2, (ht2.block (t + 1) (by omega) (by omega)).trans HC0.out.2.1, ht2.below (by omega) (by omega), by have := ht2.size; have := HC0.out.2.2.2; omega⟩
  clear hc2 ht2
  go_wp2_with fail
  refine (int_any (t + 1) w2.heap.size [] (m : Int) w2 HF.out (coil_nil_base (B := 0) HC2.out.2.1) (by have := HC2.out.2.2.2; omega) (Nat.le_refl _) (by simp)).mono ?_
  rintro e w3 ⟨rfl, hc3, ht3⟩
  rw [List.nil_append] at hc3
  have HC3 : Hid (CoilAt w3 (t + 2) t (up m) ∧ CoilAt w3 w2.heap.size (t + 1) (up (fold (m : Int))) ∧ Below t w2 w3 ∧ t + 2 ≤ w3.heap.size) := ⟨coil_other HC2.out.1 ht3 (by omega) (by omega), hc3, ht3.below (by have := HC2.out.2.2.2; omega) (by omega), by have := ht3.size; have := HC2.out.2.2.2; omega⟩
  clear hc3 ht3
  have HBA : Hid (Below w.heap.size w w3) := HB1.out.trans (((HC0.out.2.2.1.trans HC2.out.2.2.1).trans HC3.out.2.2.1).mono (by rw [← HT.out]; exact HB1.out.size))
  obtain ⟨Bd, hBd, HD3⟩ : ∃ Bd, Bd ≤ w3.heap.size ∧ Hid (CoilAt w3 Bd (t + 1) (up (fold (m : Int)))) := ⟨_, (by have := HC3.out.2.2.1.size; exact this), HC3.out.2.1⟩
  have HCC : Hid (CoilAt w3 (t + 2) t (up m) ∧ t + 2 ≤ w3.heap.size) := ⟨HC3.out.1, HC3.out.2.2.2⟩
  clear HC2 HC3 HC0 HB1 HT
  go_wp2_with fail
  refine (refint_yes (m : Int) w3 HF.out).mono ?_
  rintro e w4 ⟨rfl, hb4⟩
  have HC4 : Hid (CoilAt w4 (t + 2) t (up m) ∧ CoilAt w4 Bd (t + 1) (up (fold (m : Int))) ∧ Below w.heap.size w w4 ∧ t + 2 ≤ w4.heap.size ∧ Bd ≤ w4.heap.size) := ⟨coil_below HCC.out.1 hb4, coil_below HD3.out hb4, HBA.out.trans (hb4.mono HBA.out.size), Nat.le_trans HCC.out.2 hb4.size, Nat.le_trans hBd hb4.size⟩
  clear hb4 hBd HCC HD3 HBA
  go_wp2_with fail
  refine (bytes_any (t + 1) Bd _ w4 HC4.out.2.1 (by omega)).mono ?_
  rintro e w5 ⟨v5, rfl, ho5, hb5⟩
  have k5 := (cut_own ho5 hb5.size).string (by exact up_oct _)
  have HC5 : Hid (CoilAt w5 (t + 2) t (up m) ∧ CoilAt w5 Bd (t + 1) (up (fold (m : Int))) ∧ Below w.heap.size w w5 ∧ t + 2 ≤ w5.heap.size ∧ Bd ≤ w5.heap.size) := ⟨coil_below HC4.out.1 hb5, coil_below HC4.out.2.1 hb5, HC4.out.2.2.1.trans (hb5.mono HC4.out.2.2.1.size), Nat.le_trans HC4.out.2.2.2.1 hb5.size, Nat.le_trans HC4.out.2.2.2.2 hb5.size⟩
  clear hb5 ho5 HC4
  go_wp2_with fail
  refine (bytes_any t (t + 2) _ w5 HC5.out.1 (by omega)).mono ?_
  rintro e w6 ⟨v6, rfl, ho6, hb6⟩
  have HC6 : Hid (CoilAt w6 (t + 2) t (up m) ∧ CoilAt w6 Bd (t + 1) (up (fold (m : Int))) ∧ Below w.heap.size w w6 ∧ t + 2 ≤ w6.heap.size ∧ Bd ≤ w6.heap.size) := ⟨coil_below HC5.out.1 hb6, coil_below HC5.out.2.1 hb6, HC5.out.2.2.1.trans (hb6.mono HC5.out.2.2.1.size), Nat.le_trans HC5.out.2.2.2.1 hb6.size, Nat.le_trans HC5.out.2.2.2.2 hb6.size⟩
  have HO6 := Lib.hid (⟨ho6, hb6.size⟩ : _ ∧ _)
  clear hb6 ho6 HC5 k5
  go_wp2_with fail
  refine (open_own v6 _ _ w6 HO6.out.1 HO6.out.2).mono ?_
  rintro e w7 ⟨rfl, hr7, hb7⟩
  obtain ⟨r, hr⟩ : ∃ r, w6.heap.size = r := ⟨_, rfl⟩
  rw [hr] at hr7 hb7 ⊢
  have HR := Lib.hid hr
  have HC7 : Hid (ReelAt w7 r r (up m) 0 ∧ Below r w6 w7 ∧ r < w7.heap.size) := ⟨hr7, hb7, by obtain ⟨_, _, h, _⟩ := hr7.ex; exact (Array.getElem?_eq_some_iff.1 h).1⟩
  clear hr7 hb7 hr HO6 hr1 hr2
  go_wp2_with fail
  refine region_plain hmx ?_
  refine wpAny_take (i := 2) (v := ?_) rfl (by kernel_rfl) (by kernel_rfl) (by kernel_rfl) (fun _ _ _ h => h) (Or.inl ⟨by rfl, ?_⟩) ?_
  rotate_left
  · intro w; go_simp; with_reducible rfl
  try simp only [Act.put, List.getElem_toArray, List.getElem_cons_succ, List.getElem_cons_zero, List.setIfInBounds_toArray, List.set_cons_zero, List.set_cons_succ]
  refine wpAny_ready (rs := [0]) (by kernel_rfl) (by simp) (AllReady.cons rfl (fun K hK => ?_) AllReady.nil)
  go_simp
  refine (bytes_any t (t + 2) (up m) w7.drew (coil_below HC6.out.1 (w' := w7.drew) (by rw [HR.out]; exact HC7.out.2.1.drew)) (by omega)).mono ?_
  rintro e w8 ⟨v8, rfl, ho8, hb8⟩
  have hcut8 := cut_own ho8 hb8.size
  have k8 := hcut8.string (up_oct m)
  have hb8 : Below w7.heap.size w7 w8 := ⟨hb8.os, hb8.tape, hb8.output, hb8.size, hb8.block⟩
  have HC8 : Hid (ReelAt w8 r r (up m) 0 ∧ Below r w6 w8 ∧ r < w8.heap.size ∧ Cut w8 w8.heap.size v8 (up m)) := ⟨reel_below HC7.out.1 (by have := HC7.out.2.2; omega) hb8, HC7.out.2.1.trans (hb8.mono (by have := HC7.out.2.2; omega)), Nat.lt_of_lt_of_le HC7.out.2.2 hb8.size, hcut8⟩
  clear hcut8 hb8 ho8 HC7
  refine hK _ _ ?_
  clear hK K
  try simp only [Act.put, List.getElem_toArray, List.getElem_cons_succ, List.getElem_cons_zero, List.setIfInBounds_toArray, List.set_cons_zero, List.set_cons_succ]
  refine wpAny_ready (rs := [1, 3]) (by kernel_rfl) (by simp) (AllReady.cons rfl (fun K hK => ?_) (AllReady.cons rfl (fun K hK => ?_) AllReady.nil))
  · go_simp
    refine hK _ _ ?_
    clear hK K
    try simp only [Act.put, List.getElem_toArray, List.getElem_cons_succ, List.getElem_cons_zero, List.setIfInBounds_toArray, List.set_cons_zero, List.set_cons_succ]
    refine wpAny_ready (rs := [3]) (by kernel_rfl) (by simp) (AllReady.cons rfl (fun K hK => ?_) AllReady.nil)
    go_simp
    refine (refup_any m w8 hm).mono ?_
    rintro e w9 ⟨rfl, hb9⟩
    have k9 := (cut_below HC8.out.2.2.2 (Nat.le_refl _) hb9).string (up_oct m)
    have HC9 : Hid (ReelAt w9 r r (up m) 0 ∧ Below r w6 w9 ∧ r < w9.heap.size) := ⟨reel_below HC8.out.1 (by have := HC8.out.2.2.1; omega) hb9, HC8.out.2.1.trans (hb9.mono (by have := HC8.out.2.2.1; omega)), Nat.lt_of_lt_of_le HC8.out.2.2.1 hb9.size⟩
    clear hb9 HC8
    refine hK _ _ ?_
    clear hK K
    try simp only [Act.put, List.getElem_toArray, List.getElem_cons_succ, List.getElem_cons_zero, List.setIfInBounds_toArray, List.set_cons_zero, List.set_cons_succ]
    refine wpAny_ready (rs := [4]) (by kernel_rfl) (by simp) (AllReady.cons rfl (fun K hK => ?_) AllReady.nil)
    go_simp
    refine hK _ _ ?_
    clear hK K
    try simp only [Act.put, List.getElem_toArray, List.getElem_cons_succ, List.getElem_cons_zero, List.setIfInBounds_toArray, List.set_cons_zero, List.set_cons_succ]
    refine wpAny_ready (rs := [5]) (by kernel_rfl) (by simp) (AllReady.cons rfl (fun K hK => ?_) AllReady.nil)
    go_simp
    refine hK _ _ ?_
    clear hK K
    try simp only [Act.put, List.getElem_toArray, List.getElem_cons_succ, List.getElem_cons_zero, List.setIfInBounds_toArray, List.set_cons_zero, List.set_cons_succ]
    refine wpAny_ready (rs := [6]) (by kernel_rfl) (by simp) (AllReady.cons rfl (fun K hK => ?_) AllReady.nil)
    go_simp
    refine hK _ _ ?_
    clear hK K
    try simp only [Act.put, List.getElem_toArray, List.getElem_cons_succ, List.getElem_cons_zero, List.setIfInBounds_toArray, List.set_cons_zero, List.set_cons_succ]
    refine wpAny_ready (rs := [7]) (by kernel_rfl) (by simp) (AllReady.cons rfl (fun K hK => ?_) AllReady.nil)
    go_simp
    refine hK _ _ ?_
    clear hK K
    try simp only [Act.put, List.getElem_toArray, List.getElem_cons_succ, List.getElem_cons_zero, List.setIfInBounds_toArray, List.set_cons_zero, List.set_cons_succ]
    refine wpAny_ready (rs := [8]) (by kernel_rfl) (by simp) (AllReady.cons rfl (fun K hK => ?_) AllReady.nil)
    go_simp
    refine hK _ _ ?_
    clear hK K
    try simp only [Act.put, List.getElem_toArray, List.getElem_cons_succ, List.getElem_cons_zero, List.setIfInBounds_toArray, List.set_cons_zero, List.set_cons_succ]
    refine wpAny_ready (rs := [9]) (by kernel_rfl) (by simp) (AllReady.cons rfl (fun K hK => ?_) AllReady.nil)
    go_simp
    refine hK _ _ ?_
    clear hK K
    try simp only [Act.put, List.getElem_toArray, List.getElem_cons_succ, List.getElem_cons_zero, List.setIfInBounds_toArray, List.set_cons_zero, List.set_cons_succ]
    refine wpAny_take (i := 10) (v := ?_) rfl (by kernel_rfl) (by kernel_rfl) (by kernel_rfl) (fun _ _ _ h => h) (Or.inl ⟨by rfl, ?_⟩) ?_
    rotate_left
    · intro w; go_simp; with_reducible rfl
    try simp only [Act.put, List.getElem_toArray, List.getElem_cons_succ, List.getElem_cons_zero, List.setIfInBounds_toArray, List.set_cons_zero, List.set_cons_succ]
    refine wpAny_take (i := 12) (v := ?_) rfl (by kernel_rfl) (by kernel_rfl) (by kernel_rfl) (fun _ _ _ h => h) (Or.inl ⟨by rfl, ?_⟩) ?_
    rotate_left
    · intro w; go_simp; with_reducible rfl
    try simp only [Act.put, List.getElem_toArray, List.getElem_cons_succ, List.getElem_cons_zero, List.setIfInBounds_toArray, List.set_cons_zero, List.set_cons_succ]
    refine wpAny_ready (rs := [11]) (by kernel_rfl) (by simp) (AllReady.cons rfl (fun K hK => ?_) AllReady.nil)
    go_simp
    refine (up_back r m w9 hm HC9.out.1).mono ?_
    rintro e w10 ⟨rfl, hr10, ht10⟩
    have HC10 : Hid (ReelAt w10 r r [] 0 ∧ Below r w6 w10) := ⟨hr10, HC9.out.2.1.trans (ht10.below (Nat.le_refl _) (by have := HC9.out.2.2; omega))⟩
    clear hr10 ht10 HC9
    refine hK _ _ ?_
    clear hK K
    try simp only [Act.put, List.getElem_toArray, List.getElem_cons_succ, List.getElem_cons_zero, List.setIfInBounds_toArray, List.set_cons_zero, List.set_cons_succ]
    refine wpAny_ready (rs := [13]) (by kernel_rfl) (by simp) (AllReady.cons rfl (fun K hK => ?_) AllReady.nil)
    go_simp
    refine hK _ _ ?_
    clear hK K
    try simp only [Act.put, List.getElem_toArray, List.getElem_cons_succ, List.getElem_cons_zero, List.setIfInBounds_toArray, List.set_cons_zero, List.set_cons_succ]
    refine wpAny_ready (rs := [14]) (by kernel_rfl) (by simp) (AllReady.cons rfl (fun K hK => ?_) AllReady.nil)
    go_simp
    refine hK _ _ ?_
    clear hK K
    try simp only [Act.put, List.getElem_toArray, List.getElem_cons_succ, List.getElem_cons_zero, List.setIfInBounds_toArray, List.set_cons_zero, List.set_cons_succ]
    refine wpAny_ready (rs := [15]) (by kernel_rfl) (by simp) (AllReady.cons rfl (fun K hK => ?_) AllReady.nil)
    go_simp
    refine hK _ _ ?_
    clear hK K
    try simp only [Act.put, List.getElem_toArray, List.getElem_cons_succ, List.getElem_cons_zero, List.setIfInBounds_toArray, List.set_cons_zero, List.set_cons_succ]
    refine wpAny_ready (rs := [16]) (by kernel_rfl) (by simp) (AllReady.cons rfl (fun K hK => ?_) AllReady.nil)
    go_simp
    refine hK _ _ ?_
    clear hK K
    try simp only [Act.put, List.getElem_toArray, List.getElem_cons_succ, List.getElem_cons_zero, List.setIfInBounds_toArray, List.set_cons_zero, List.set_cons_succ]
    refine wpAny_ready (rs := [17]) (by kernel_rfl) (by simp) (AllReady.cons rfl (fun K hK => ?_) AllReady.nil)
    go_simp
    refine (end_back r r w10 HC10.out.1).mono ?_
    rintro e w11 ⟨rfl, rfl⟩
    refine hK _ _ ?_
    clear hK K
    try simp only [Act.put, List.getElem_toArray, List.getElem_cons_succ, List.getElem_cons_zero, List.setIfInBounds_toArray, List.set_cons_zero, List.set_cons_succ]
    refine wpAny_ready (rs := [18]) (by kernel_rfl) (by simp) (AllReady.cons rfl (fun K hK => ?_) AllReady.nil)
    go_simp
    refine hK _ _ ?_
    clear hK K
    try simp only [Act.put, List.getElem_toArray, List.getElem_cons_succ, List.getElem_cons_zero, List.setIfInBounds_toArray, List.set_cons_zero, List.set_cons_succ]
    refine wpAny_ready (rs := [19]) (by kernel_rfl) (by simp) (AllReady.cons rfl (fun K hK => ?_) AllReady.nil)
    go_simp
    refine hK _ _ ?_
    clear hK K
    try simp only [Act.put, List.getElem_toArray, List.getElem_cons_succ, List.getElem_cons_zero, List.setIfInBounds_toArray, List.set_cons_zero, List.set_cons_succ]
    refine wpAny_done (by kernel_rfl) ?_ _
    have HCE : Hid (CoilAt w11 Bd (t + 1) (up (fold (m : Int))) ∧ Below w.heap.size w w11 ∧ Bd ≤ w11.heap.size) := (by
      have hb := HC10.out.2
      rw [← HR.out] at hb
      exact ⟨coil_below HC6.out.2.1 hb, HC6.out.2.2.1.trans (hb.mono HC6.out.2.2.1.size), Nat.le_trans HC6.out.2.2.2.2 hb.size⟩)
    clear HC10 HC6 HR k9
    go_wp2_with fail
    refine (bytes_any (t + 1) Bd _ w11 HCE.out.1 (by omega)).mono ?_
    rintro e x1 ⟨y1, rfl, ho1, hb1⟩
    have HO1 := Lib.hid (⟨ho1, hb1.size⟩ : _ ∧ _)
    have HX1 := Lib.hid (HCE.out.2.1.trans (hb1.mono HCE.out.2.1.size))
    clear ho1 hb1 HCE
    go_wp2_with fail
    refine (open_own y1 _ _ x1 HO1.out.1 HO1.out.2).mono ?_
    rintro e x2 ⟨rfl, hr2, hb2⟩
    obtain ⟨q, hq⟩ : ∃ q, x1.heap.size = q := ⟨_, rfl⟩
    have HX2 := Lib.hid (⟨hr2, HX1.out.trans (hb2.mono HX1.out.size), HX1.out.size⟩ : _ ∧ _ ∧ _)
    rw [hq] at HX2 ⊢
    have hql : q < x2.heap.size := by obtain ⟨_, _, h, _⟩ := HX2.out.1.ex; exact (Array.getElem?_eq_some_iff.1 h).1
    clear hr2 hb2 hq HX1 HO1
    go_wp2_with fail
    refine (int_back q (m : Int) x2 HF.out HX2.out.1).mono ?_
    rintro e x3 ⟨rfl, hr3, ht3⟩
    have HX3 := Lib.hid (⟨hr3, HX2.out.2.1.trans (ht3.below HX2.out.2.2 HX2.out.2.1.size)⟩ : _ ∧ _)
    clear hr3 ht3 HX2
    go_wp2_with fail
    refine (end_back q q x3 HX3.out.1).mono ?_
    rintro e x4 ⟨rfl, rfl⟩
    go_wp2
    go_ret
    exact ⟨rfl, HX3.out.2⟩
  · go_simp
    refine (refup_any m w8 hm).mono ?_
    rintro e w9 ⟨rfl, hb9⟩
    have k9 := (cut_below HC8.out.2.2.2 (Nat.le_refl _) hb9).string (up_oct m)
    have HC9 : Hid (ReelAt w9 r r (up m) 0 ∧ Below r w6 w9 ∧ r < w9.heap.size) := ⟨reel_below HC8.out.1 (by have := HC8.out.2.2.1; omega) hb9, HC8.out.2.1.trans (hb9.mono (by have := HC8.out.2.2.1; omega)), Nat.lt_of_lt_of_le HC8.out.2.2.1 hb9.size⟩
    clear hb9 HC8
    refine hK _ _ ?_
    clear hK K
    try simp only [Act.put, List.getElem_toArray, List.getElem_cons_succ, List.getElem_cons_zero, List.setIfInBounds_toArray, List.set_cons_zero, List.set_cons_succ]
    refine wpAny_ready (rs := [1]) (by kernel_rfl) (by simp) (AllReady.cons rfl (fun K hK => ?_) AllReady.nil)
    go_simp
    refine hK _ _ ?_
    clear hK K
    try simp only [Act.put, List.getElem_toArray, List.getElem_cons_succ, List.getElem_cons_zero, List.setIfInBounds_toArray, List.set_cons_zero, List.set_cons_succ]
    refine wpAny_ready (rs := [4]) (by kernel_rfl) (by simp) (AllReady.cons rfl (fun K hK => ?_) AllReady.nil)
    go_simp
    refine hK _ _ ?_
    clear hK K
    try simp only [Act.put, List.getElem_toArray, List.getElem_cons_succ, List.getElem_cons_zero, List.setIfInBounds_toArray, List.set_cons_zero, List.set_cons_succ]
    refine wpAny_ready (rs := [5]) (by kernel_rfl) (by simp) (AllReady.cons rfl (fun K hK => ?_) AllReady.nil)
    go_simp
    refine hK _ _ ?_
    clear hK K
    try simp only [Act.put, List.getElem_toArray, List.getElem_cons_succ, List.getElem_cons_zero, List.setIfInBounds_toArray, List.set_cons_zero, List.set_cons_succ]
    refine wpAny_ready (rs := [6]) (by kernel_rfl) (by simp) (AllReady.cons rfl (fun K hK => ?_) AllReady.nil)
    go_simp
    refine hK _ _ ?_
    clear hK K
    try simp only [Act.put, List.getElem_toArray, List.getElem_cons_succ, List.getElem_cons_zero, List.setIfInBounds_toArray, List.set_cons_zero, List.set_cons_succ]
    refine wpAny_ready (rs := [7]) (by kernel_rfl) (by simp) (AllReady.cons rfl (fun K hK => ?_) AllReady.nil)
    go_simp
    refine hK _ _ ?_
    clear hK K
    try simp only [Act.put, List.getElem_toArray, List.getElem_cons_succ, List.getElem_cons_zero, List.setIfInBounds_toArray, List.set_cons_zero, List.set_cons_succ]
    refine wpAny_ready (rs := [8]) (by kernel_rfl) (by simp) (AllReady.cons rfl (fun K hK => ?_) AllReady.nil)
    go_simp
    refine hK _ _ ?_
    clear hK K
    try simp only [Act.put, List.getElem_toArray, List.getElem_cons_succ, List.getElem_cons_zero, List.setIfInBounds_toArray, List.set_cons_zero, List.set_cons_succ]
    refine wpAny_ready (rs := [9]) (by kernel_rfl) (by simp) (AllReady.cons rfl (fun K hK => ?_) AllReady.nil)
    go_simp
    refine hK _ _ ?_
    clear hK K
    try simp only [Act.put, List.getElem_toArray, List.getElem_cons_succ, List.getElem_cons_zero, List.setIfInBounds_toArray, List.set_cons_zero, List.set_cons_succ]
    refine wpAny_take (i := 10) (v := ?_) rfl (by kernel_rfl) (by kernel_rfl) (by kernel_rfl) (fun _ _ _ h => h) (Or.inl ⟨by rfl, ?_⟩) ?_
    rotate_left
    · intro w; go_simp; with_reducible rfl
    try simp only [Act.put, List.getElem_toArray, List.getElem_cons_succ, List.getElem_cons_zero, List.setIfInBounds_toArray, List.set_cons_zero, List.set_cons_succ]
    refine wpAny_take (i := 12) (v := ?_) rfl (by kernel_rfl) (by kernel_rfl) (by kernel_rfl) (fun _ _ _ h => h) (Or.inl ⟨by rfl, ?_⟩) ?_
    rotate_left
    · intro w; go_simp; with_reducible rfl
    try simp only [Act.put, List.getElem_toArray, List.getElem_cons_succ, List.getElem_cons_zero, List.setIfInBounds_toArray, List.set_cons_zero, List.set_cons_succ]
    refine wpAny_ready (rs := [11]) (by kernel_rfl) (by simp) (AllReady.cons rfl (fun K hK => ?_) AllReady.nil)
    go_simp
    refine (up_back r m w9 hm HC9.out.1).mono ?_
    rintro e w10 ⟨rfl, hr10, ht10⟩
    have HC10 : Hid (ReelAt w10 r r [] 0 ∧ Below r w6 w10) := ⟨hr10, HC9.out.2.1.trans (ht10.below (Nat.le_refl _) (by have := HC9.out.2.2; omega))⟩
    clear hr10 ht10 HC9
    refine hK _ _ ?_
    clear hK K
    try simp only [Act.put, List.getElem_toArray, List.getElem_cons_succ, List.getElem_cons_zero, List.setIfInBounds_toArray, List.set_cons_zero, List.set_cons_succ]
    refine wpAny_ready (rs := [13]) (by kernel_rfl) (by simp) (AllReady.cons rfl (fun K hK => ?_) AllReady.nil)
    go_simp
    refine hK _ _ ?_
    clear hK K
    try simp only [Act.put, List.getElem_toArray, List.getElem_cons_succ, List.getElem_cons_zero, List.setIfInBounds_toArray, List.set_cons_zero, List.set_cons_succ]
    refine wpAny_ready (rs := [14]) (by kernel_rfl) (by simp) (AllReady.cons rfl (fun K hK => ?_) AllReady.nil)
    go_simp
    refine hK _ _ ?_
    clear hK K
    try simp only [Act.put, List.getElem_toArray, List.getElem_cons_succ, List.getElem_cons_zero, List.setIfInBounds_toArray, List.set_cons_zero, List.set_cons_succ]
    refine wpAny_ready (rs := [15]) (by kernel_rfl) (by simp) (AllReady.cons rfl (fun K hK => ?_) AllReady.nil)
    go_simp
    refine hK _ _ ?_
    clear hK K
    try simp only [Act.put, List.getElem_toArray, List.getElem_cons_succ, List.getElem_cons_zero, List.setIfInBounds_toArray, List.set_cons_zero, List.set_cons_succ]
    refine wpAny_ready (rs := [16]) (by kernel_rfl) (by simp) (AllReady.cons rfl (fun K hK => ?_) AllReady.nil)
    go_simp
    refine hK _ _ ?_
    clear hK K
    try simp only [Act.put, List.getElem_toArray, List.getElem_cons_succ, List.getElem_cons_zero, List.setIfInBounds_toArray, List.set_cons_zero, List.set_cons_succ]
    refine wpAny_ready (rs := [17]) (by kernel_rfl) (by simp) (AllReady.cons rfl (fun K hK => ?_) AllReady.nil)
    go_simp
    refine (end_back r r w10 HC10.out.1).mono ?_
    rintro e w11 ⟨rfl, rfl⟩
    refine hK _ _ ?_
    clear hK K
    try simp only [Act.put, List.getElem_toArray, List.getElem_cons_succ, List.getElem_cons_zero, List.setIfInBounds_toArray, List.set_cons_zero, List.set_cons_succ]
    refine wpAny_ready (rs := [18]) (by kernel_rfl) (by simp) (AllReady.cons rfl (fun K hK => ?_) AllReady.nil)
    go_simp
    refine hK _ _ ?_
    clear hK K
    try simp only [Act.put, List.getElem_toArray, List.getElem_cons_succ, List.getElem_cons_zero, List.setIfInBounds_toArray, List.set_cons_zero, List.set_cons_succ]
    refine wpAny_ready (rs := [19]) (by kernel_rfl) (by simp) (AllReady.cons rfl (fun K hK => ?_) AllReady.nil)
    go_simp
    refine hK _ _ ?_
    clear hK K
    try simp only [Act.put, List.getElem_toArray, List.getElem_cons_succ, List.getElem_cons_zero, List.setIfInBounds_toArray, List.set_cons_zero, List.set_cons_succ]
    refine wpAny_done (by kernel_rfl) ?_ _
    have HCE : Hid (CoilAt w11 Bd (t + 1) (up (fold (m : Int))) ∧ Below w.heap.size w w11 ∧ Bd ≤ w11.heap.size) := (by
      have hb := HC10.out.2
      rw [← HR.out] at hb
      exact ⟨coil_below HC6.out.2.1 hb, HC6.out.2.2.1.trans (hb.mono HC6.out.2.2.1.size), Nat.le_trans HC6.out.2.2.2.2 hb.size⟩)
    clear HC10 HC6 HR k9
    go_wp2_with fail
    refine (bytes_any (t + 1) Bd _ w11 HCE.out.1 (by omega)).mono ?_
    rintro e x1 ⟨y1, rfl, ho1, hb1⟩
    have HO1 := Lib.hid (⟨ho1, hb1.size⟩ : _ ∧ _)
    have HX1 := Lib.hid (HCE.out.2.1.trans (hb1.mono HCE.out.2.1.size))
    clear ho1 hb1 HCE
    go_wp2_with fail
    refine (open_own y1 _ _ x1 HO1.out.1 HO1.out.2).mono ?_
    rintro e x2 ⟨rfl, hr2, hb2⟩
    obtain ⟨q, hq⟩ : ∃ q, x1.heap.size = q := ⟨_, rfl⟩
    have HX2 := Lib.hid (⟨hr2, HX1.out.trans (hb2.mono HX1.out.size), HX1.out.size⟩ : _ ∧ _ ∧ _)
    rw [hq] at HX2 ⊢
    have hql : q < x2.heap.size := by obtain ⟨_, _, h, _⟩ := HX2.out.1.ex; exact (Array.getElem?_eq_some_iff.1 h).1
    clear hr2 hb2 hq HX1 HO1
    go_wp2_with fail
    refine (int_back q (m : Int) x2 HF.out HX2.out.1).mono ?_
    rintro e x3 ⟨rfl, hr3, ht3⟩
    have HX3 := Lib.hid (⟨hr3, HX2.out.2.1.trans (ht3.below HX2.out.2.2 HX2.out.2.1.size)⟩ : _ ∧ _)
    clear hr3 ht3 HX2
    go_wp2_with fail
    refine (end_back q q x3 HX3.out.1).mono ?_
    rintro e x4 ⟨rfl, rfl⟩
    go_wp2
    go_ret
    exact ⟨rfl, HX3.out.2⟩
set_option maxHeartbeats 8000000 in
theorem ints_pn (n : Int) (hr1 : -9223372036854775808 ≤ n) (hr2 : n < 9223372036854775808) (w : World) (h0 : 0 ≤ n) (hf : ¬ fits n) :
    Calls Try.prog 3 #[.int .i64 n] w fun e w' => e = .returned (.bool true) ∧ Below w.heap.size w w' := by
  obtain ⟨m, rfl⟩ : ∃ m : Nat, n = (m : Int) := ⟨n.toNat, by omega⟩
  have hm : m < 9223372036854775808 := by omega
  have hu9 := up_len9 m hm
  have HF := Lib.hid hf
  clear hf
  have hmx : Try.prog.follows .mixedOrders = true := by kernel_rfl
  go_enter Try.func3, Try.ntmps3
  go_wp2_with fail
  refine (awake_any w).mono ?_
  rintro e w1 ⟨rfl, hb1⟩
  have HB1 := Lib.hid hb1
  clear hb1
  obtain ⟨t, ht⟩ : ∃ t, w1.heap.size = t := ⟨_, rfl⟩
  have HC0 : Hid (((w1.alloc (.cells #[.slice none 0 0] 25)).alloc (.cells #[.slice none 0 0] 25)).heap[t]? = some (.cells #[.slice none 0 0] 25 (0, 0)) ∧ ((w1.alloc (.cells #[.slice none 0 0] 25)).alloc (.cells #[.slice none 0 0] 25)).heap[t + 1]? = some (.cells #[.slice none 0 0] 25 (0, 0)) ∧ Below t w1 ((w1.alloc (.cells #[.slice none 0 0] 25)).alloc (.cells #[.slice none 0 0] 25)) ∧ ((w1.alloc (.cells #[.slice none 0 0] 25)).alloc (.cells #[.slice none 0 0] 25)).heap.size = t + 2) := by
    subst ht
    refine ⟨(Below.heap_alloc _ _ _ (by simp)).trans (heap_alloc_new w1 _), ?_, ((Below.refl _ w1).alloc (Nat.le_refl _) _).alloc (by simp) _, by simp⟩
    have := heap_alloc_new (w1.alloc (.cells #[.slice none 0 0] 25)) (.cells #[.slice none 0 0] 25)
    simpa using this
  have HT := Lib.hid ht
  go_wp2_with fail
  clear ht
  generalize hwa : (w1.alloc (.cells #[.slice none 0 0] 25)).alloc (.cells #[.slice none 0 0] 25) = wa at *
  clear hwa
  refine (up_any t (t + 2) [] m wa hm (coil_nil_base (B := 0) HC0.out.1) (by omega) (by rw [HC0.out.2.2.2]; exact Nat.le_refl _) (by simp)).mono ?_
  rintro e w2 ⟨rfl, hc2, ht2⟩
  rw [List.nil_append] at hc2
  have HC2 : Hid (CoilAt w2 (t + 2) t (up m) ∧ w2.heap[t + 1]? = some (.cells #[.slice none 0 0] 25 (0, 0)) ∧ Below t wa w2 ∧ t + 2 ≤ w2.heap.size) := ⟨hc2, (ht2.block (t + 1) (by omega) (by omega)).trans HC0.out.2.1, ht2.below (by omega) (by omega), by have := ht2.size; have := HC0.out.2.2.2; omega⟩
  clear hc2 ht2
  go_wp2_with fail
  refine (int_none (t + 1) (m : Int) w2 HF.out).mono ?_
  rintro e w3 ⟨rfl, rfl⟩
  have HC3 : Hid (CoilAt w3 (t + 2) t (up m) ∧ CoilAt w3 w3.heap.size (t + 1) ([]) ∧ Below t w3 w3 ∧ t + 2 ≤ w3.heap.size) := ⟨HC2.out.1, coil_nil_base (B := 0) HC2.out.2.1, Below.refl _ _, HC2.out.2.2.2⟩
  have HBA : Hid (Below w.heap.size w w3) := HB1.out.trans (((HC0.out.2.2.1.trans HC2.out.2.2.1).trans HC3.out.2.2.1).mono (by rw [← HT.out]; exact HB1.out.size))
  obtain ⟨Bd, hBd, HD3⟩ : ∃ Bd, Bd ≤ w3.heap.size ∧ Hid (CoilAt w3 Bd (t + 1) ([])) := ⟨_, Nat.le_refl _, HC3.out.2.1⟩
  have HCC : Hid (CoilAt w3 (t + 2) t (up m) ∧ t + 2 ≤ w3.heap.size) := ⟨HC3.out.1, HC3.out.2.2.2⟩
  clear HC2 HC3 HC0 HB1 HT
  go_wp2_with fail
  refine (refint_no (m : Int) w3 HF.out).mono ?_
  rintro e w4 ⟨rfl, rfl⟩
  have hb4 : Below w4.heap.size w4 w4 := Below.refl _ _
  have HC4 : Hid (CoilAt w4 (t + 2) t (up m) ∧ CoilAt w4 Bd (t + 1) ([]) ∧ Below w.heap.size w w4 ∧ t + 2 ≤ w4.heap.size ∧ Bd ≤ w4.heap.size) := ⟨coil_below HCC.out.1 hb4, coil_below HD3.out hb4, HBA.out.trans (hb4.mono HBA.out.size), Nat.le_trans HCC.out.2 hb4.size, Nat.le_trans hBd hb4.size⟩
  clear hb4 hBd HCC HD3 HBA
  go_wp2_with fail
  refine (bytes_any (t + 1) Bd _ w4 HC4.out.2.1 (by simp)).mono ?_
  rintro e w5 ⟨v5, rfl, ho5, hb5⟩
  have k5 := (cut_own ho5 hb5.size).string (by exact Oct.nil)
  rw [show strOf [] = ⟨#[]⟩ from rfl] at k5
  have HC5 : Hid (CoilAt w5 (t + 2) t (up m) ∧ CoilAt w5 Bd (t + 1) ([]) ∧ Below w.heap.size w w5 ∧ t + 2 ≤ w5.heap.size ∧ Bd ≤ w5.heap.size) := ⟨coil_below HC4.out.1 hb5, coil_below HC4.out.2.1 hb5, HC4.out.2.2.1.trans (hb5.mono HC4.out.2.2.1.size), Nat.le_trans HC4.out.2.2.2.1 hb5.size, Nat.le_trans HC4.out.2.2.2.2 hb5.size⟩
  clear hb5 ho5 HC4
  go_wp2_with fail
  refine (bytes_any t (t + 2) _ w5 HC5.out.1 (by omega)).mono ?_
  rintro e w6 ⟨v6, rfl, ho6, hb6⟩
  have HC6 : Hid (CoilAt w6 (t + 2) t (up m) ∧ CoilAt w6 Bd (t + 1) ([]) ∧ Below w.heap.size w w6 ∧ t + 2 ≤ w6.heap.size ∧ Bd ≤ w6.heap.size) := ⟨coil_below HC5.out.1 hb6, coil_below HC5.out.2.1 hb6, HC5.out.2.2.1.trans (hb6.mono HC5.out.2.2.1.size), Nat.le_trans HC5.out.2.2.2.1 hb6.size, Nat.le_trans HC5.out.2.2.2.2 hb6.size⟩
  have HO6 := Lib.hid (⟨ho6, hb6.size⟩ : _ ∧ _)
  clear hb6 ho6 HC5 k5
  go_wp2_with fail
  refine (open_own v6 _ _ w6 HO6.out.1 HO6.out.2).mono ?_
  rintro e w7 ⟨rfl, hr7, hb7⟩
  obtain ⟨r, hr⟩ : ∃ r, w6.heap.size = r := ⟨_, rfl⟩
  rw [hr] at hr7 hb7 ⊢
  have HR := Lib.hid hr
  have HC7 : Hid (ReelAt w7 r r (up m) 0 ∧ Below r w6 w7 ∧ r < w7.heap.size) := ⟨hr7, hb7, by obtain ⟨_, _, h, _⟩ := hr7.ex; exact (Array.getElem?_eq_some_iff.1 h).1⟩
  clear hr7 hb7 hr HO6 hr1 hr2
  go_wp2_with fail
  refine region_plain hmx ?_
  refine wpAny_take (i := 2) (v := ?_) rfl (by kernel_rfl) (by kernel_rfl) (by kernel_rfl) (fun _ _ _ h => h) (Or.inl ⟨by rfl, ?_⟩) ?_
  rotate_left
  · intro w; go_simp; with_reducible rfl
  try simp only [Act.put, List.getElem_toArray, List.getElem_cons_succ, List.getElem_cons_zero, List.setIfInBounds_toArray, List.set_cons_zero, List.set_cons_succ]
  refine wpAny_ready (rs := [0]) (by kernel_rfl) (by simp) (AllReady.cons rfl (fun K hK => ?_) AllReady.nil)
  go_simp
  refine (bytes_any t (t + 2) (up m) w7.drew (coil_below HC6.out.1 (w' := w7.drew) (by rw [HR.out]; exact HC7.out.2.1.drew)) (by omega)).mono ?_
  rintro e w8 ⟨v8, rfl, ho8, hb8⟩
  have hcut8 := cut_own ho8 hb8.size
  have k8 := hcut8.string (up_oct m)
  have hb8 : Below w7.heap.size w7 w8 := ⟨hb8.os, hb8.tape, hb8.output, hb8.size, hb8.block⟩
  have HC8 : Hid (ReelAt w8 r r (up m) 0 ∧ Below r w6 w8 ∧ r < w8.heap.size ∧ Cut w8 w8.heap.size v8 (up m)) := ⟨reel_below HC7.out.1 (by have := HC7.out.2.2; omega) hb8, HC7.out.2.1.trans (hb8.mono (by have := HC7.out.2.2; omega)), Nat.lt_of_lt_of_le HC7.out.2.2 hb8.size, hcut8⟩
  clear hcut8 hb8 ho8 HC7
  refine hK _ _ ?_
  clear hK K
  try simp only [Act.put, List.getElem_toArray, List.getElem_cons_succ, List.getElem_cons_zero, List.setIfInBounds_toArray, List.set_cons_zero, List.set_cons_succ]
  refine wpAny_ready (rs := [1, 3]) (by kernel_rfl) (by simp) (AllReady.cons rfl (fun K hK => ?_) (AllReady.cons rfl (fun K hK => ?_) AllReady.nil))
  · go_simp
    refine hK _ _ ?_
    clear hK K
    try simp only [Act.put, List.getElem_toArray, List.getElem_cons_succ, List.getElem_cons_zero, List.setIfInBounds_toArray, List.set_cons_zero, List.set_cons_succ]
    refine wpAny_ready (rs := [3]) (by kernel_rfl) (by simp) (AllReady.cons rfl (fun K hK => ?_) AllReady.nil)
    go_simp
    refine (refup_any m w8 hm).mono ?_
    rintro e w9 ⟨rfl, hb9⟩
    have k9 := (cut_below HC8.out.2.2.2 (Nat.le_refl _) hb9).string (up_oct m)
    have HC9 : Hid (ReelAt w9 r r (up m) 0 ∧ Below r w6 w9 ∧ r < w9.heap.size) := ⟨reel_below HC8.out.1 (by have := HC8.out.2.2.1; omega) hb9, HC8.out.2.1.trans (hb9.mono (by have := HC8.out.2.2.1; omega)), Nat.lt_of_lt_of_le HC8.out.2.2.1 hb9.size⟩
    clear hb9 HC8
    refine hK _ _ ?_
    clear hK K
    try simp only [Act.put, List.getElem_toArray, List.getElem_cons_succ, List.getElem_cons_zero, List.setIfInBounds_toArray, List.set_cons_zero, List.set_cons_succ]
    refine wpAny_ready (rs := [4]) (by kernel_rfl) (by simp) (AllReady.cons rfl (fun K hK => ?_) AllReady.nil)
    go_simp
    refine hK _ _ ?_
    clear hK K
    try simp only [Act.put, List.getElem_toArray, List.getElem_cons_succ, List.getElem_cons_zero, List.setIfInBounds_toArray, List.set_cons_zero, List.set_cons_succ]
    refine wpAny_ready (rs := [5]) (by kernel_rfl) (by simp) (AllReady.cons rfl (fun K hK => ?_) AllReady.nil)
    go_simp
    refine hK _ _ ?_
    clear hK K
    try simp only [Act.put, List.getElem_toArray, List.getElem_cons_succ, List.getElem_cons_zero, List.setIfInBounds_toArray, List.set_cons_zero, List.set_cons_succ]
    refine wpAny_ready (rs := [6]) (by kernel_rfl) (by simp) (AllReady.cons rfl (fun K hK => ?_) AllReady.nil)
    go_simp
    refine hK _ _ ?_
    clear hK K
    try simp only [Act.put, List.getElem_toArray, List.getElem_cons_succ, List.getElem_cons_zero, List.setIfInBounds_toArray, List.set_cons_zero, List.set_cons_succ]
    refine wpAny_ready (rs := [7]) (by kernel_rfl) (by simp) (AllReady.cons rfl (fun K hK => ?_) AllReady.nil)
    go_simp
    refine hK _ _ ?_
    clear hK K
    try simp only [Act.put, List.getElem_toArray, List.getElem_cons_succ, List.getElem_cons_zero, List.setIfInBounds_toArray, List.set_cons_zero, List.set_cons_succ]
    refine wpAny_ready (rs := [8]) (by kernel_rfl) (by simp) (AllReady.cons rfl (fun K hK => ?_) AllReady.nil)
    go_simp
    refine hK _ _ ?_
    clear hK K
    try simp only [Act.put, List.getElem_toArray, List.getElem_cons_succ, List.getElem_cons_zero, List.setIfInBounds_toArray, List.set_cons_zero, List.set_cons_succ]
    refine wpAny_ready (rs := [9]) (by kernel_rfl) (by simp) (AllReady.cons rfl (fun K hK => ?_) AllReady.nil)
    go_simp
    refine hK _ _ ?_
    clear hK K
    try simp only [Act.put, List.getElem_toArray, List.getElem_cons_succ, List.getElem_cons_zero, List.setIfInBounds_toArray, List.set_cons_zero, List.set_cons_succ]
    refine wpAny_take (i := 10) (v := ?_) rfl (by kernel_rfl) (by kernel_rfl) (by kernel_rfl) (fun _ _ _ h => h) (Or.inl ⟨by rfl, ?_⟩) ?_
    rotate_left
    · intro w; go_simp; with_reducible rfl
    try simp only [Act.put, List.getElem_toArray, List.getElem_cons_succ, List.getElem_cons_zero, List.setIfInBounds_toArray, List.set_cons_zero, List.set_cons_succ]
    refine wpAny_take (i := 12) (v := ?_) rfl (by kernel_rfl) (by kernel_rfl) (by kernel_rfl) (fun _ _ _ h => h) (Or.inl ⟨by rfl, ?_⟩) ?_
    rotate_left
    · intro w; go_simp; with_reducible rfl
    try simp only [Act.put, List.getElem_toArray, List.getElem_cons_succ, List.getElem_cons_zero, List.setIfInBounds_toArray, List.set_cons_zero, List.set_cons_succ]
    refine wpAny_ready (rs := [11]) (by kernel_rfl) (by simp) (AllReady.cons rfl (fun K hK => ?_) AllReady.nil)
    go_simp
    refine (up_back r m w9 hm HC9.out.1).mono ?_
    rintro e w10 ⟨rfl, hr10, ht10⟩
    have HC10 : Hid (ReelAt w10 r r [] 0 ∧ Below r w6 w10) := ⟨hr10, HC9.out.2.1.trans (ht10.below (Nat.le_refl _) (by have := HC9.out.2.2; omega))⟩
    clear hr10 ht10 HC9
    refine hK _ _ ?_
    clear hK K
    try simp only [Act.put, List.getElem_toArray, List.getElem_cons_succ, List.getElem_cons_zero, List.setIfInBounds_toArray, List.set_cons_zero, List.set_cons_succ]
    refine wpAny_ready (rs := [13]) (by kernel_rfl) (by simp) (AllReady.cons rfl (fun K hK => ?_) AllReady.nil)
    go_simp
    refine hK _ _ ?_
    clear hK K
    try simp only [Act.put, List.getElem_toArray, List.getElem_cons_succ, List.getElem_cons_zero, List.setIfInBounds_toArray, List.set_cons_zero, List.set_cons_succ]
    refine wpAny_ready (rs := [14]) (by kernel_rfl) (by simp) (AllReady.cons rfl (fun K hK => ?_) AllReady.nil)
    go_simp
    refine hK _ _ ?_
    clear hK K
    try simp only [Act.put, List.getElem_toArray, List.getElem_cons_succ, List.getElem_cons_zero, List.setIfInBounds_toArray, List.set_cons_zero, List.set_cons_succ]
    refine wpAny_ready (rs := [15]) (by kernel_rfl) (by simp) (AllReady.cons rfl (fun K hK => ?_) AllReady.nil)
    go_simp
    refine hK _ _ ?_
    clear hK K
    try simp only [Act.put, List.getElem_toArray, List.getElem_cons_succ, List.getElem_cons_zero, List.setIfInBounds_toArray, List.set_cons_zero, List.set_cons_succ]
    refine wpAny_ready (rs := [16]) (by kernel_rfl) (by simp) (AllReady.cons rfl (fun K hK => ?_) AllReady.nil)
    go_simp
    refine hK _ _ ?_
    clear hK K
    try simp only [Act.put, List.getElem_toArray, List.getElem_cons_succ, List.getElem_cons_zero, List.setIfInBounds_toArray, List.set_cons_zero, List.set_cons_succ]
    refine wpAny_ready (rs := [17]) (by kernel_rfl) (by simp) (AllReady.cons rfl (fun K hK => ?_) AllReady.nil)
    go_simp
    refine (end_back r r w10 HC10.out.1).mono ?_
    rintro e w11 ⟨rfl, rfl⟩
    refine hK _ _ ?_
    clear hK K
    try simp only [Act.put, List.getElem_toArray, List.getElem_cons_succ, List.getElem_cons_zero, List.setIfInBounds_toArray, List.set_cons_zero, List.set_cons_succ]
    refine wpAny_ready (rs := [18]) (by kernel_rfl) (by simp) (AllReady.cons rfl (fun K hK => ?_) AllReady.nil)
    go_simp
    refine hK _ _ ?_
    clear hK K
    try simp only [Act.put, List.getElem_toArray, List.getElem_cons_succ, List.getElem_cons_zero, List.setIfInBounds_toArray, List.set_cons_zero, List.set_cons_succ]
    refine wpAny_ready (rs := [19]) (by kernel_rfl) (by simp) (AllReady.cons rfl (fun K hK => ?_) AllReady.nil)
    go_simp
    refine hK _ _ ?_
    clear hK K
    try simp only [Act.put, List.getElem_toArray, List.getElem_cons_succ, List.getElem_cons_zero, List.setIfInBounds_toArray, List.set_cons_zero, List.set_cons_succ]
    refine wpAny_done (by kernel_rfl) ?_ _
    have HCE : Hid (CoilAt w11 Bd (t + 1) ([]) ∧ Below w.heap.size w w11 ∧ Bd ≤ w11.heap.size) := (by
      have hb := HC10.out.2
      rw [← HR.out] at hb
      exact ⟨coil_below HC6.out.2.1 hb, HC6.out.2.2.1.trans (hb.mono HC6.out.2.2.1.size), Nat.le_trans HC6.out.2.2.2.2 hb.size⟩)
    clear HC10 HC6 HR k9
    go_wp2
    go_ret
    exact ⟨rfl, HCE.out.2.1⟩
  · go_simp
    refine (refup_any m w8 hm).mono ?_
    rintro e w9 ⟨rfl, hb9⟩
    have k9 := (cut_below HC8.out.2.2.2 (Nat.le_refl _) hb9).string (up_oct m)
    have HC9 : Hid (ReelAt w9 r r (up m) 0 ∧ Below r w6 w9 ∧ r < w9.heap.size) := ⟨reel_below HC8.out.1 (by have := HC8.out.2.2.1; omega) hb9, HC8.out.2.1.trans (hb9.mono (by have := HC8.out.2.2.1; omega)), Nat.lt_of_lt_of_le HC8.out.2.2.1 hb9.size⟩
    clear hb9 HC8
    refine hK _ _ ?_
    clear hK K
    try simp only [Act.put, List.getElem_toArray, List.getElem_cons_succ, List.getElem_cons_zero, List.setIfInBounds_toArray, List.set_cons_zero, List.set_cons_succ]
    refine wpAny_ready (rs := [1]) (by kernel_rfl) (by simp) (AllReady.cons rfl (fun K hK => ?_) AllReady.nil)
    go_simp
    refine hK _ _ ?_
    clear hK K
    try simp only [Act.put, List.getElem_toArray, List.getElem_cons_succ, List.getElem_cons_zero, List.setIfInBounds_toArray, List.set_cons_zero, List.set_cons_succ]
    refine wpAny_ready (rs := [4]) (by kernel_rfl) (by simp) (AllReady.cons rfl (fun K hK => ?_) AllReady.nil)
    go_simp
    refine hK _ _ ?_
    clear hK K
    try simp only [Act.put, List.getElem_toArray, List.getElem_cons_succ, List.getElem_cons_zero, List.setIfInBounds_toArray, List.set_cons_zero, List.set_cons_succ]
    refine wpAny_ready (rs := [5]) (by kernel_rfl) (by simp) (AllReady.cons rfl (fun K hK => ?_) AllReady.nil)
    go_simp
    refine hK _ _ ?_
    clear hK K
    try simp only [Act.put, List.getElem_toArray, List.getElem_cons_succ, List.getElem_cons_zero, List.setIfInBounds_toArray, List.set_cons_zero, List.set_cons_succ]
    refine wpAny_ready (rs := [6]) (by kernel_rfl) (by simp) (AllReady.cons rfl (fun K hK => ?_) AllReady.nil)
    go_simp
    refine hK _ _ ?_
    clear hK K
    try simp only [Act.put, List.getElem_toArray, List.getElem_cons_succ, List.getElem_cons_zero, List.setIfInBounds_toArray, List.set_cons_zero, List.set_cons_succ]
    refine wpAny_ready (rs := [7]) (by kernel_rfl) (by simp) (AllReady.cons rfl (fun K hK => ?_) AllReady.nil)
    go_simp
    refine hK _ _ ?_
    clear hK K
    try simp only [Act.put, List.getElem_toArray, List.getElem_cons_succ, List.getElem_cons_zero, List.setIfInBounds_toArray, List.set_cons_zero, List.set_cons_succ]
    refine wpAny_ready (rs := [8]) (by kernel_rfl) (by simp) (AllReady.cons rfl (fun K hK => ?_) AllReady.nil)
    go_simp
    refine hK _ _ ?_
    clear hK K
    try simp only [Act.put, List.getElem_toArray, List.getElem_cons_succ, List.getElem_cons_zero, List.setIfInBounds_toArray, List.set_cons_zero, List.set_cons_succ]
    refine wpAny_ready (rs := [9]) (by kernel_rfl) (by simp) (AllReady.cons rfl (fun K hK => ?_) AllReady.nil)
    go_simp
    refine hK _ _ ?_
    clear hK K
    try simp only [Act.put, List.getElem_toArray, List.getElem_cons_succ, List.getElem_cons_zero, List.setIfInBounds_toArray, List.set_cons_zero, List.set_cons_succ]
    refine wpAny_take (i := 10) (v := ?_) rfl (by kernel_rfl) (by kernel_rfl) (by kernel_rfl) (fun _ _ _ h => h) (Or.inl ⟨by rfl, ?_⟩) ?_
    rotate_left
    · intro w; go_simp; with_reducible rfl
    try simp only [Act.put, List.getElem_toArray, List.getElem_cons_succ, List.getElem_cons_zero, List.setIfInBounds_toArray, List.set_cons_zero, List.set_cons_succ]
    refine wpAny_take (i := 12) (v := ?_) rfl (by kernel_rfl) (by kernel_rfl) (by kernel_rfl) (fun _ _ _ h => h) (Or.inl ⟨by rfl, ?_⟩) ?_
    rotate_left
    · intro w; go_simp; with_reducible rfl
    try simp only [Act.put, List.getElem_toArray, List.getElem_cons_succ, List.getElem_cons_zero, List.setIfInBounds_toArray, List.set_cons_zero, List.set_cons_succ]
    refine wpAny_ready (rs := [11]) (by kernel_rfl) (by simp) (AllReady.cons rfl (fun K hK => ?_) AllReady.nil)
    go_simp
    refine (up_back r m w9 hm HC9.out.1).mono ?_
    rintro e w10 ⟨rfl, hr10, ht10⟩
    have HC10 : Hid (ReelAt w10 r r [] 0 ∧ Below r w6 w10) := ⟨hr10, HC9.out.2.1.trans (ht10.below (Nat.le_refl _) (by have := HC9.out.2.2; omega))⟩
    clear hr10 ht10 HC9
    refine hK _ _ ?_
    clear hK K
    try simp only [Act.put, List.getElem_toArray, List.getElem_cons_succ, List.getElem_cons_zero, List.setIfInBounds_toArray, List.set_cons_zero, List.set_cons_succ]
    refine wpAny_ready (rs := [13]) (by kernel_rfl) (by simp) (AllReady.cons rfl (fun K hK => ?_) AllReady.nil)
    go_simp
    refine hK _ _ ?_
    clear hK K
    try simp only [Act.put, List.getElem_toArray, List.getElem_cons_succ, List.getElem_cons_zero, List.setIfInBounds_toArray, List.set_cons_zero, List.set_cons_succ]
    refine wpAny_ready (rs := [14]) (by kernel_rfl) (by simp) (AllReady.cons rfl (fun K hK => ?_) AllReady.nil)
    go_simp
    refine hK _ _ ?_
    clear hK K
    try simp only [Act.put, List.getElem_toArray, List.getElem_cons_succ, List.getElem_cons_zero, List.setIfInBounds_toArray, List.set_cons_zero, List.set_cons_succ]
    refine wpAny_ready (rs := [15]) (by kernel_rfl) (by simp) (AllReady.cons rfl (fun K hK => ?_) AllReady.nil)
    go_simp
    refine hK _ _ ?_
    clear hK K
    try simp only [Act.put, List.getElem_toArray, List.getElem_cons_succ, List.getElem_cons_zero, List.setIfInBounds_toArray, List.set_cons_zero, List.set_cons_succ]
    refine wpAny_ready (rs := [16]) (by kernel_rfl) (by simp) (AllReady.cons rfl (fun K hK => ?_) AllReady.nil)
    go_simp
    refine hK _ _ ?_
    clear hK K
    try simp only [Act.put, List.getElem_toArray, List.getElem_cons_succ, List.getElem_cons_zero, List.setIfInBounds_toArray, List.set_cons_zero, List.set_cons_succ]
    refine wpAny_ready (rs := [17]) (by kernel_rfl) (by simp) (AllReady.cons rfl (fun K hK => ?_) AllReady.nil)
    go_simp
    refine (end_back r r w10 HC10.out.1).mono ?_
    rintro e w11 ⟨rfl, rfl⟩
    refine hK _ _ ?_
    clear hK K
    try simp only [Act.put, List.getElem_toArray, List.getElem_cons_succ, List.getElem_cons_zero, List.setIfInBounds_toArray, List.set_cons_zero, List.set_cons_succ]
    refine wpAny_ready (rs := [18]) (by kernel_rfl) (by simp) (AllReady.cons rfl (fun K hK => ?_) AllReady.nil)
    go_simp
    refine hK _ _ ?_
    clear hK K
    try simp only [Act.put, List.getElem_toArray, List.getElem_cons_succ, List.getElem_cons_zero, List.setIfInBounds_toArray, List.set_cons_zero, List.set_cons_succ]
    refine wpAny_ready (rs := [19]) (by kernel_rfl) (by simp) (AllReady.cons rfl (fun K hK => ?_) AllReady.nil)
    go_simp
    refine hK _ _ ?_
    clear hK K
    try simp only [Act.put, List.getElem_toArray, List.getElem_cons_succ, List.getElem_cons_zero, List.setIfInBounds_toArray, List.set_cons_zero, List.set_cons_succ]
    refine wpAny_done (by kernel_rfl) ?_ _
    have HCE : Hid (CoilAt w11 Bd (t + 1) ([]) ∧ Below w.heap.size w w11 ∧ Bd ≤ w11.heap.size) := (by
      have hb := HC10.out.2
      rw [← HR.out] at hb
      exact ⟨coil_below HC6.out.2.1 hb, HC6.out.2.2.1.trans (hb.mono HC6.out.2.2.1.size), Nat.le_trans HC6.out.2.2.2.2 hb.size⟩)
    clear HC10 HC6 HR k9
    go_wp2
    go_ret
    exact ⟨rfl, HCE.out.2.1⟩
set_option maxHeartbeats 8000000 in
theorem ints_nf (n : Int) (hr1 : -9223372036854775808 ≤ n) (hr2 : n < 9223372036854775808) (w : World) (h0 : ¬ 0 ≤ n) (hf : fits n) :
    Calls Try.prog 3 #[.int .i64 n] w fun e w' => e = .returned (.bool true) ∧ Below w.heap.size w w' := by
  have hfl := fold_lt n hf
  have hf9 := up_len9 _ hfl
  have HF := Lib.hid hf
  clear hf
  have hmx : Try.prog.follows .mixedOrders = true := by kernel_rfl
  go_enter Try.func3, Try.ntmps3
  go_wp2_with fail
  refine (awake_any w).mono ?_
  rintro e w1 ⟨rfl, hb1⟩
  have HB1 := Lib.hid hb1
  clear hb1
  obtain ⟨t, ht⟩ : ∃ t, w1.heap.size = t := ⟨_, rfl⟩
  have HC0 : Hid (((w1.alloc (.cells #[.slice none 0 0] 25)).alloc (.cells #[.slice none 0 0] 25)).heap[t]? = some (.cells #[.slice none 0 0] 25 (0, 0)) ∧ ((w1.alloc (.cells #[.slice none 0 0] 25)).alloc (.cells #[.slice none 0 0] 25)).heap[t + 1]? = some (.cells #[.slice none 0 0] 25 (0, 0)) ∧ Below t w1 ((w1.alloc (.cells #[.slice none 0 0] 25)).alloc (.cells #[.slice none 0 0] 25)) ∧ ((w1.alloc (.cells #[.slice none 0 0] 25)).alloc (.cells #[.slice none 0 0] 25)).heap.size = t + 2) := by
    subst ht
    refine ⟨(Below.heap_alloc _ _ _ (by simp)).trans (heap_alloc_new w1 _), ?_, ((Below.refl _ w1).alloc (Nat.le_refl _) _).alloc (by simp) _, by simp⟩
    have := heap_alloc_new (w1.alloc (.cells #[.slice none 0 0] 25)) (.cells #[.slice none 0 0] 25)
    simpa using this
  have HT := Lib.hid ht
  go_wp2_with fail
  clear ht
  generalize hwa : (w1.alloc (.cells #[.slice none 0 0] 25)).alloc (.cells #[.slice none 0 0] 25) = wa at *
  clear hwa
  refine (up_neg t n wa (by omega)).mono ?_
  rintro e w2 ⟨rfl, rfl⟩
  have HC2 : Hid (CoilAt w2 (t + 2) t ([]) ∧ w2.heap[t + 1]? = some (.cells #[.slice none 0 0] 25 (0, 0)) ∧ Below t w2 w2 ∧ t + 2 ≤ w2.heap.size) := ⟨coil_nil_base (B := 0) HC0.out.1, HC0.out.2.1, Below.refl _ _, by have := HC0.out.2.2.2; omega⟩
  go_wp2_with fail
  refine (int_any (t + 1) w2.heap.size [] n w2 HF.out (coil_nil_base (B := 0) HC2.out.2.1) (by have := HC2.out.2.2.2; omega) (Nat.le_refl _) (by simp)).mono ?_
  rintro e w3 ⟨rfl, hc3, ht3⟩
  rw [List.nil_append] at hc3
  have HC3 : Hid (CoilAt w3 (t + 2) t ([]) ∧ CoilAt w3 w2.heap.size (t + 1) (up (fold n)) ∧ Below t w2 w3 ∧ t + 2 ≤ w3.heap.size) := ⟨coil_other HC2.out.1 ht3 (by omega) (by omega), hc3, ht3.below (by have := HC2.out.2.2.2; omega) (by omega), by have := ht3.size; have := HC2.out.2.2.2; omega⟩
  clear hc3 ht3
  have HBA : Hid (Below w.heap.size w w3) := HB1.out.trans (((HC0.out.2.2.1.trans HC2.out.2.2.1).trans HC3.out.2.2.1).mono (by rw [← HT.out]; exact HB1.out.size))
  obtain ⟨Bd, hBd, HD3⟩ : ∃ Bd, Bd ≤ w3.heap.size ∧ Hid (CoilAt w3 Bd (t + 1) (up (fold n))) := ⟨_, (by have := HC3.out.2.2.1.size; exact this), HC3.out.2.1⟩
  have HCC : Hid (CoilAt w3 (t + 2) t ([]) ∧ t + 2 ≤ w3.heap.size) := ⟨HC3.out.1, HC3.out.2.2.2⟩
  clear HC2 HC3 HC0 HB1 HT
  go_wp2_with fail
  refine (refint_yes n w3 HF.out).mono ?_
  rintro e w4 ⟨rfl, hb4⟩
  have HC4 : Hid (CoilAt w4 (t + 2) t ([]) ∧ CoilAt w4 Bd (t + 1) (up (fold n)) ∧ Below w.heap.size w w4 ∧ t + 2 ≤ w4.heap.size ∧ Bd ≤ w4.heap.size) := ⟨coil_below HCC.out.1 hb4, coil_below HD3.out hb4, HBA.out.trans (hb4.mono HBA.out.size), Nat.le_trans HCC.out.2 hb4.size, Nat.le_trans hBd hb4.size⟩
  clear hb4 hBd HCC HD3 HBA
  go_wp2_with fail
  refine (bytes_any (t + 1) Bd _ w4 HC4.out.2.1 (by omega)).mono ?_
  rintro e w5 ⟨v5, rfl, ho5, hb5⟩
  have k5 := (cut_own ho5 hb5.size).string (by exact up_oct _)
  have HC5 : Hid (CoilAt w5 (t + 2) t ([]) ∧ CoilAt w5 Bd (t + 1) (up (fold n)) ∧ Below w.heap.size w w5 ∧ t + 2 ≤ w5.heap.size ∧ Bd ≤ w5.heap.size) := ⟨coil_below HC4.out.1 hb5, coil_below HC4.out.2.1 hb5, HC4.out.2.2.1.trans (hb5.mono HC4.out.2.2.1.size), Nat.le_trans HC4.out.2.2.2.1 hb5.size, Nat.le_trans HC4.out.2.2.2.2 hb5.size⟩
  clear hb5 ho5 HC4
  go_wp2_with fail
  refine (bytes_any t (t + 2) _ w5 HC5.out.1 (by simp)).mono ?_
  rintro e w6 ⟨v6, rfl, ho6, hb6⟩
  obtain ⟨a6, cap6, rfl⟩ := own_form ho6
  have HC6 : Hid (CoilAt w6 Bd (t + 1) (up (fold n)) ∧ Below w.heap.size w w6 ∧ Bd ≤ w6.heap.size) := ⟨coil_below HC5.out.2.1 hb6, HC5.out.2.2.1.trans (hb6.mono HC5.out.2.2.1.size), Nat.le_trans HC5.out.2.2.2.2 hb6.size⟩
  clear hb6 ho6 HC5
  simp only [List.length_nil]
  go_wp2_with fail
  have HCE := HC6
  clear HC6 k5
  go_wp2_with fail
  refine (bytes_any (t + 1) Bd _ w6 HCE.out.1 (by omega)).mono ?_
  rintro e x1 ⟨y1, rfl, ho1, hb1⟩
  have HO1 := Lib.hid (⟨ho1, hb1.size⟩ : _ ∧ _)
  have HX1 := Lib.hid (HCE.out.2.1.trans (hb1.mono HCE.out.2.1.size))
  clear ho1 hb1 HCE
  go_wp2_with fail
  refine (open_own y1 _ _ x1 HO1.out.1 HO1.out.2).mono ?_
  rintro e x2 ⟨rfl, hr2, hb2⟩
  obtain ⟨q, hq⟩ : ∃ q, x1.heap.size = q := ⟨_, rfl⟩
  have HX2 := Lib.hid (⟨hr2, HX1.out.trans (hb2.mono HX1.out.size), HX1.out.size⟩ : _ ∧ _ ∧ _)
  rw [hq] at HX2 ⊢
  have hql : q < x2.heap.size := by obtain ⟨_, _, h, _⟩ := HX2.out.1.ex; exact (Array.getElem?_eq_some_iff.1 h).1
  clear hr2 hb2 hq HX1 HO1
  go_wp2_with fail
  refine (int_back q n x2 HF.out HX2.out.1).mono ?_
  rintro e x3 ⟨rfl, hr3, ht3⟩
  have HX3 := Lib.hid (⟨hr3, HX2.out.2.1.trans (ht3.below HX2.out.2.2 HX2.out.2.1.size)⟩ : _ ∧ _)
  clear hr3 ht3 HX2
  go_wp2_with fail
  refine (end_back q q x3 HX3.out.1).mono ?_
  rintro e x4 ⟨rfl, rfl⟩
  go_wp2
  go_ret
  exact ⟨rfl, HX3.out.2⟩
set_option maxHeartbeats 8000000 in
theorem ints_nn (n : Int) (hr1 : -9223372036854775808 ≤ n) (hr2 : n < 9223372036854775808) (w : World) (h0 : ¬ 0 ≤ n) (hf : ¬ fits n) :
    Calls Try.prog 3 #[.int .i64 n] w fun e w' => e = .returned (.bool true) ∧ Below w.heap.size w w' := by
  have HF := Lib.hid hf
  clear hf
  have hmx : Try.prog.follows .mixedOrders = true := by kernel_rfl
  go_enter Try.func3, Try.ntmps3
  go_wp2_with fail
  refine (awake_any w).mono ?_
  rintro e w1 ⟨rfl, hb1⟩
  have HB1 := Lib.hid hb1
  clear hb1
  obtain ⟨t, ht⟩ : ∃ t, w1.heap.size = t := ⟨_, rfl⟩
  have HC0 : Hid (((w1.alloc (.cells #[.slice none 0 0] 25)).alloc (.cells #[.slice none 0 0] 25)).heap[t]? = some (.cells #[.slice none 0 0] 25 (0, 0)) ∧ ((w1.alloc (.cells #[.slice none 0 0] 25)).alloc (.cells #[.slice none 0 0] 25)).heap[t + 1]? = some (.cells #[.slice none 0 0] 25 (0, 0)) ∧ Below t w1 ((w1.alloc (.cells #[.slice none 0 0] 25)).alloc (.cells #[.slice none 0 0] 25)) ∧ ((w1.alloc (.cells #[.slice none 0 0] 25)).alloc (.cells #[.slice none 0 0] 25)).heap.size = t + 2) := by
    subst ht
    refine ⟨(Below.heap_alloc _ _ _ (by simp)).trans (heap_alloc_new w1 _), ?_, ((Below.refl _ w1).alloc (Nat.le_refl _) _).alloc (by simp) _, by simp⟩
    have := heap_alloc_new (w1.alloc (.cells #[.slice none 0 0] 25)) (.cells #[.slice none 0 0] 25)
    simpa using this
  have HT := Lib.hid ht
  go_wp2_with fail
  clear ht
  generalize hwa : (w1.alloc (.cells #[.slice none 0 0] 25)).alloc (.cells #[.slice none 0 0] 25) = wa at *
  clear hwa
  refine (up_neg t n wa (by omega)).mono ?_
  rintro e w2 ⟨rfl, rfl⟩
  have HC2 : Hid (CoilAt w2 (t + 2) t ([]) ∧ w2.heap[t + 1]? = some (.cells #[.slice none 0 0] 25 (0, 0)) ∧ Below t w2 w2 ∧ t + 2 ≤ w2.heap.size) := ⟨coil_nil_base (B := 0) HC0.out.1, HC0.out.2.1, Below.refl _ _, by have := HC0.out.2.2.2; omega⟩
  go_wp2_with fail
  refine (int_none (t + 1) n w2 HF.out).mono ?_
  rintro e w3 ⟨rfl, rfl⟩
  have HC3 : Hid (CoilAt w3 (t + 2) t ([]) ∧ CoilAt w3 w3.heap.size (t + 1) ([]) ∧ Below t w3 w3 ∧ t + 2 ≤ w3.heap.size) := ⟨HC2.out.1, coil_nil_base (B := 0) HC2.out.2.1, Below.refl _ _, HC2.out.2.2.2⟩
  have HBA : Hid (Below w.heap.size w w3) := HB1.out.trans (((HC0.out.2.2.1.trans HC2.out.2.2.1).trans HC3.out.2.2.1).mono (by rw [← HT.out]; exact HB1.out.size))
  obtain ⟨Bd, hBd, HD3⟩ : ∃ Bd, Bd ≤ w3.heap.size ∧ Hid (CoilAt w3 Bd (t + 1) ([])) := ⟨_, Nat.le_refl _, HC3.out.2.1⟩
  have HCC : Hid (CoilAt w3 (t + 2) t ([]) ∧ t + 2 ≤ w3.heap.size) := ⟨HC3.out.1, HC3.out.2.2.2⟩
  clear HC2 HC3 HC0 HB1 HT
  go_wp2_with fail
  refine (refint_no n w3 HF.out).mono ?_
  rintro e w4 ⟨rfl, rfl⟩
  have hb4 : Below w4.heap.size w4 w4 := Below.refl _ _
  have HC4 : Hid (CoilAt w4 (t + 2) t ([]) ∧ CoilAt w4 Bd (t + 1) ([]) ∧ Below w.heap.size w w4 ∧ t + 2 ≤ w4.heap.size ∧ Bd ≤ w4.heap.size) := ⟨coil_below HCC.out.1 hb4, coil_below HD3.out hb4, HBA.out.trans (hb4.mono HBA.out.size), Nat.le_trans HCC.out.2 hb4.size, Nat.le_trans hBd hb4.size⟩
  clear hb4 hBd HCC HD3 HBA
  go_wp2_with fail
  refine (bytes_any (t + 1) Bd _ w4 HC4.out.2.1 (by simp)).mono ?_
  rintro e w5 ⟨v5, rfl, ho5, hb5⟩
  have k5 := (cut_own ho5 hb5.size).string (by exact Oct.nil)
  rw [show strOf [] = ⟨#[]⟩ from rfl] at k5
  have HC5 : Hid (CoilAt w5 (t + 2) t ([]) ∧ CoilAt w5 Bd (t + 1) ([]) ∧ Below w.heap.size w w5 ∧ t + 2 ≤ w5.heap.size ∧ Bd ≤ w5.heap.size) := ⟨coil_below HC4.out.1 hb5, coil_below HC4.out.2.1 hb5, HC4.out.2.2.1.trans (hb5.mono HC4.out.2.2.1.size), Nat.le_trans HC4.out.2.2.2.1 hb5.size, Nat.le_trans HC4.out.2.2.2.2 hb5.size⟩
  clear hb5 ho5 HC4
  go_wp2_with fail
  refine (bytes_any t (t + 2) _ w5 HC5.out.1 (by simp)).mono ?_
  rintro e w6 ⟨v6, rfl, ho6, hb6⟩
  obtain ⟨a6, cap6, rfl⟩ := own_form ho6
  have HC6 : Hid (CoilAt w6 Bd (t + 1) ([]) ∧ Below w.heap.size w w6 ∧ Bd ≤ w6.heap.size) := ⟨coil_below HC5.out.2.1 hb6, HC5.out.2.2.1.trans (hb6.mono HC5.out.2.2.1.size), Nat.le_trans HC5.out.2.2.2.2 hb6.size⟩
  clear hb6 ho6 HC5
  simp only [List.length_nil]
  go_wp2_with fail
  have HCE := HC6
  clear HC6 k5
  go_wp2
  go_ret
  exact ⟨rfl, HCE.out.2.1⟩
theorem ints_any (n : Int) (hr1 : -9223372036854775808 ≤ n) (hr2 : n < 9223372036854775808) (w : World) :
    Calls Try.prog 3 #[.int .i64 n] w fun e w' => e = .returned (.bool true) ∧ Below w.heap.size w w' := by
  by_cases h0 : 0 ≤ n
  · by_cases hf : fits n
    · exact ints_pf n hr1 hr2 w h0 hf
    · exact ints_pn n hr1 hr2 w h0 hf
  · by_cases hf : fits n
    · exact ints_nf n hr1 hr2 w h0 hf
    · exact ints_nn n hr1 hr2 w h0 hf
end Go.Proofs.Ytdgcafohfedbhaa
