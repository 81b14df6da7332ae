import Derived.Test.YtdgcafohfedbhaaDoorPO
namespace Go.Proofs.YtdgcafohfedbhaaDoor.K
open Go.RowKit Go.Joins
set_option linter.unusedVariables false
set_option linter.unusedSimpArgs false

theorem dg_rev (n k : Nat) : (dg n (k + 1)).reverse = (nn n k % 128 + (if 0 < k then 128 else 0)) :: (dg n k).reverse := by
  rw [dg, List.reverse_append]; rfl
theorem strOf_cons (x : Nat) (l : List Nat) : strOf (x :: l) = strOf [x] ++ strOf l := strOf_append [x] l

theorem conv_one (x : Nat) (hx : x < 256) (W : World) : (convert 22 9 (.slice (some ⟨W.heap.size, 0, none⟩) 1 1)).run Tryd.prog (W.alloc (.cells #[.int .u8 (x : Int)] 5)) = .ok (.string (strOf [x])) (W.alloc (.cells #[.int .u8 (x : Int)] 5)) := by
  have h := heap_alloc_new W (.cells #[.int .u8 (x : Int)] 5)
  have hc : (W.alloc (.cells #[.int .u8 (x : Int)] 5)).cell? ⟨W.heap.size, 0, none⟩ = some (.int .u8 (x : Int)) := by
    unfold World.cell?
    rw [h]
    rfl
  refine Cut.string (B := W.heap.size + 1) (bs := [x]) ⟨_, _, rfl, fun i y hy => ⟨_, _, rfl, ?_⟩, fun ad e => by cases e; simp⟩ (fun i y hy => ?_)
  · have hi : i = 0 := by have := (List.getElem?_eq_some_iff.1 hy).1; simp at this; omega
    subst hi
    cases hy
    exact hc
  · have hi : i = 0 := by have := (List.getElem?_eq_some_iff.1 hy).1; simp at this; omega
    subst hi
    cases hy
    exact hx

theorem conv_oneZ (x : Nat) (z : Int) (hz : z = (x : Int)) (hx : x < 256) (W : World) : (convert 22 9 (.slice (some ⟨W.heap.size, 0, none⟩) 1 1)).run Tryd.prog (W.alloc (.cells #[.int .u8 z] 5)) = .ok (.string (strOf [x])) (W.alloc (.cells #[.int .u8 z] 5)) := by
  subst hz
  exact conv_one x hx W

set_option maxHeartbeats 4000000 in
theorem refup_any (n : Nat) (w : World) (hn : n < 9223372036854775808) :
    Calls Tryd.prog 28 #[.int .i64 (n : Int)] w fun e w' => e = .returned (.string (strOf (up n))) ∧ Below w.heap.size w w' := by
  have hpos := len_pos n
  have HLEN := Lib.hid (len_pos n)
  obtain ⟨d0, hd0⟩ : ∃ d, d = n % 128 := ⟨_, rfl⟩
  have k0 := fun W => conv_oneZ d0 ((n : Int) % 128) (by omega) (by omega) W
  have e0 : IntKind.u8.wrap ((n : Int) % 128) = (n : Int) % 128 := by rw [IntKind.wrap_u8]; omega
  obtain ⟨n1, hn1⟩ : ∃ d, d = n / 128 := ⟨_, rfl⟩
  have e1 : (n : Int) / 128 = (n1 : Int) := by omega
  have HD0 := Lib.hid hd0
  have HN1 := Lib.hid hn1
  have HB0 := Lib.hid ((Below.refl w.heap.size w).alloc (Nat.le_refl _) (.cells #[.int .u8 ((n : Int) % 128)] 5))
  clear hd0 hn1 hpos
  go_enter Tryd.func28, Tryd.ntmps28
  go_wp2_with fail
  clear k0 e0 e1
  go_loopw [0, 3] (fun a s wr => ∃ k : Nat, k < len n ∧ a = .int .i64 ((nn n (k + 1) : Nat) : Int) ∧ s = .string (strOf (dg n (k + 1)).reverse) ∧ Below w.heap.size w wr) (fun a _ _ => (intOf a).toNat)
  case atStart => exact ⟨0, HLEN.out, by rw [HN1.out]; rfl, by rw [HD0.out]; rfl, HB0.out⟩
  case round =>
    obtain ⟨k, hk, rfl, rfl, hb⟩ := hrel
    have HB := Lib.hid hb
    have hlt := nn_lt n k hk
    have hle := nn_le n (k + 1)
    have hs1 : nn n (k + 1) = nn n k / 128 := rfl
    have hs2 : nn n (k + 2) = nn n (k + 1) / 128 := rfl
    have hr := dg_rev n (k + 1)
    rw [if_pos (by omega)] at hr
    by_cases h0 : 0 < nn n (k + 1)
    · have hk1 : k + 1 < len n := by
        rcases Nat.lt_or_ge (k + 1) (len n) with h | h
        · exact h
        · have := hlt.2 (by omega); omega
      have FIN : Hid (nn n (k + 2) = nn n (k + 1) / 128 ∧ strOf (dg n (k + 1 + 1)).reverse = strOf [nn n (k + 1) % 128 + 128] ++ strOf (dg n (k + 1)).reverse) := ⟨hs2, by rw [hr]; exact strOf_cons _ _⟩
      clear hlt hs1 hs2 hr hb
      have hsz : (strOf (dg n (k + 1)).reverse).size = k + 1 := by rw [strOf_size, List.length_reverse, dg_length]
      generalize strOf (dg n (k + 1)).reverse = S at *
      generalize nn n (k + 1) = m at *
      obtain ⟨d, hd⟩ : ∃ d, d = m % 128 + 128 := ⟨_, rfl⟩
      have k1 := fun W => conv_oneZ d ((m : Int) % 128 + 128) (by omega) (by omega) W
      have e2 : IntKind.u8.wrap ((m : Int) % 128 + 128) = (m : Int) % 128 + 128 := by rw [IntKind.wrap_u8]; omega
      obtain ⟨m2, hm2⟩ : ∃ d, d = m / 128 := ⟨_, rfl⟩
      have e3 : (m : Int) / 128 = (m2 : Int) := by omega
      have HX := Lib.hid (⟨hd, hm2⟩ : _ ∧ _)
      clear hd hm2
      have h01 : (0 : Int) < (m : Int) := by omega
      have hL := len_le 8 n (by simp; omega)
      have hnb : ¬ 9223372036854775807 < (strOf [d]).size + S.size := by rw [strOf_size, hsz]; simp; omega
      clear hsz hL
      go_wp2_with fail
      refine ⟨⟨k + 1, hk1, ?_, ?_, ?_⟩, ?_⟩
      · rw [show nn n (k + 1 + 1) = m / 128 from FIN.out.1, HX.out.2]
      · rw [FIN.out.2, HX.out.1]
      · exact HB.out.alloc HB.out.size _
      · simp [intOf]; have := HX.out.2; omega
    · have h00 : nn n (k + 1) = 0 := by omega
      have hkl : k + 1 = len n := hlt.1 (by omega)
      have HU : Hid (up n = (dg n (k + 1)).reverse) := (by unfold up; rw [hkl] : up n = (dg n (k + 1)).reverse)
      rw [h00]
      clear hlt hs1 hs2 hr hb h00 h0 hkl
      go_wp2
      go_ret
      rw [HU.out]
      exact ⟨rfl, HB.out⟩

theorem reftext_any (s : ByteArray) (w : World) (hs : s.size ≤ 1000000) :
    Calls Tryd.prog 19 #[.string s] w fun e w' => e = .returned (.string (strOf (up s.size) ++ s)) ∧ Below w.heap.size w w' := by
  have HU := Lib.hid (refup_any s.size w (by omega))
  have hnb : ¬ 9223372036854775807 < (strOf (up s.size)).size + s.size := by rw [strOf_size]; have := up_length s.size (by omega); omega
  go_enter Tryd.func19, Tryd.ntmps19
  go_wp2_with fail
  refine HU.out.mono ?_
  rintro e w' ⟨rfl, hb⟩
  have HB := Lib.hid hb
  clear hb
  go_wp2
  go_ret
  exact ⟨rfl, HB.out⟩
end Go.Proofs.YtdgcafohfedbhaaDoor.K
