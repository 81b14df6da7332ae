import Derived.Test.YtdgcafohfedbhaaP
namespace Go.Proofs.Ytdgcafohfedbhaa
open Go.RowKit Go.Joins
set_option linter.unusedVariables false
set_option linter.unusedSimpArgs false

/-! ### the document's takes -/
def takeUp (most : Int) (bs : List Nat) : Nat × Nat × Int :=
  if (scan bs 0 0).1 = 0 then (if most < ((scan bs 0 0).2.1 : Int) then (0, 0, 1) else ((scan bs 0 0).2.1, (scan bs 0 0).2.2, 0)) else (0, 0, (scan bs 0 0).1)

set_option maxRecDepth 100000 in
set_option maxHeartbeats 8000000 in
theorem reftakeup_any (s : ByteArray) (most : Int) (w : World) (hs : s.size ≤ 1000000) :
    Calls Try.prog 18 #[.string s, .int .i64 most] w fun e w' => e = .returned (.tuple #[.int .i64 ((takeUp most (bsOf s)).1 : Nat), .int .i64 ((takeUp most (bsOf s)).2.1 : Nat), .int .i64 (takeUp most (bsOf s)).2.2]) ∧ w' = w := by
  have hlen := bsOf_length s
  go_enter Try.func18, Try.ntmps18
  go_wp2_with fail
  go_loopw [7, 8] (fun acc iv wr => wr = w ∧ ∃ i k : Nat, i ≤ s.size ∧ i ≤ 9 ∧ iv = .int .i64 i ∧ acc = .int .i64 (k : Int) ∧ k < 128 ^ i ∧ scan (bsOf s) 0 0 = scan ((bsOf s).drop i) i k) (fun _ iv _ => s.size - (intOf iv).toNat)
  case atStart => exact ⟨rfl, 0, 0, by omega, by omega, rfl, rfl, by simp, by simp⟩
  case round =>
    obtain ⟨rfl, i, k, hi, hi9, rfl, rfl, hk, hsc⟩ := hrel
    by_cases hlt : i < s.size
    · have hx := bsOf_get hlt
      have hx8 := bsOf_oct s i _ hx
      rw [scan_drop (bsOf s) i k _ hx] at hsc
      obtain ⟨x, hxx⟩ : ∃ x, s[i].toNat = x := ⟨_, rfl⟩
      rw [hxx] at hsc hx hx8
      have i1 : (0 : Int) ≤ (i : Int) := by omega
      have i2 : (i : Int) < (s.size : Int) := by omega
      have HSC := Lib.hid hsc
      clear hsc hx hlen
      by_cases hbad : (i = 0 ∧ x = 128) ∨ i = 9
      · have hsc := HSC.out
        rw [if_pos hbad] at hsc
        have HE : Hid (takeUp most (bsOf s) = (0, 0, 2)) := (by unfold takeUp; rw [hsc]; rfl : takeUp most (bsOf s) = (0, 0, 2))
        clear hsc HSC hk
        rcases hbad with ⟨rfl, rfl⟩ | rfl
        · go_wp2
          go_ret3
          exact ⟨by rw [HE.out]; rfl, rfl⟩
        · go_wp2
          go_ret3
          exact ⟨by rw [HE.out]; rfl, rfl⟩
      · have hsc := HSC.out
        rw [if_neg hbad] at hsc
        have HE := Lib.hid hsc
        clear hsc HSC
        have i9 : i ≤ 8 := by omega
        have hk8 : k < 72057594037927936 := Nat.lt_of_lt_of_le hk (by have := Nat.pow_le_pow_right (n := 128) (by decide) i9; simpa using this)
        have HK := Lib.hid hk
        have b2 : ((i : Int) == 9) = false := by simp; omega
        have HNB : Hid (i = 0 → ¬ x = 128) := fun e1 e2 => hbad (.inl ⟨e1, e2⟩)
        clear hk hbad
        obtain ⟨m, hm⟩ : ∃ m, m = k * 128 + x % 128 := ⟨_, rfl⟩
        have e1 : (k : Int) * 128 + (x : Int) % 128 = (m : Int) := by omega
        have hml : m < 9223372036854775808 := by omega
        have e0 : IntKind.i64.wrap ((k : Int) * 128) = (k : Int) * 128 := by rw [IntKind.wrap_i64]; omega
        have e2 : IntKind.i64.wrap ((m : Int)) = (m : Int) := by rw [IntKind.wrap_i64]; omega
        have HM := Lib.hid hm
        clear hm
        by_cases hlow : x < 128
        · have hl1 : (x : Int) < 128 := by omega
          have he2 : scan (bsOf s) 0 0 = (0, m, i + 1) := by rw [HE.out, if_pos hlow, HM.out]
          clear HE
          have hi0 : i = 0 ∨ ((i : Int) == 0) = false := by
            rcases Nat.eq_zero_or_pos i with h | h
            · exact .inl h
            · exact .inr (by simp; omega)
          by_cases hmo : most < (m : Int)
          · have HE3 : Hid (takeUp most (bsOf s) = (0, 0, 1)) := (by unfold takeUp; rw [he2]; simp [hmo] : takeUp most (bsOf s) = (0, 0, 1))
            clear he2
            rcases hi0 with rfl | hi0
            · have hx128 : ((x : Int) == 128) = false := by simp; omega
              go_wp2
              go_ret3
              exact ⟨by rw [HE3.out]; rfl, rfl⟩
            · go_wp2
              go_ret3
              exact ⟨by rw [HE3.out]; rfl, rfl⟩
          · have HE3 : Hid (takeUp most (bsOf s) = (m, i + 1, 0)) := (by unfold takeUp; rw [he2]; simp [hmo] : takeUp most (bsOf s) = (m, i + 1, 0))
            clear he2
            rcases hi0 with rfl | hi0
            · have hx128 : ((x : Int) == 128) = false := by simp; omega
              go_wp2
              go_ret3
              exact ⟨by rw [HE3.out]; rfl, rfl⟩
            · go_wp2
              go_ret3
              exact ⟨by rw [HE3.out]; rfl, rfl⟩
        · have hl1 : ¬ (x : Int) < 128 := by omega
          have FIN : Hid (m < 128 ^ (i + 1) ∧ scan (bsOf s) 0 0 = scan ((bsOf s).drop (i + 1)) (i + 1) m) := ⟨by have h1 := HK.out; rw [HM.out, Nat.pow_succ]; omega, by rw [HE.out, if_neg hlow, HM.out]⟩
          clear HE
          by_cases hi0 : i = 0
          · subst hi0
            have hx128 : ((x : Int) == 128) = false := by have := HNB.out rfl; simp; omega
            go_wp2
            exact ⟨⟨trivial, 1, m, by omega, by omega, by go_num, by simp, FIN.out.1, FIN.out.2⟩, by simp [intOf]; omega⟩
          · have hi1 : ((i : Int) == 0) = false := by simp; omega
            go_wp2
            exact ⟨⟨trivial, i + 1, m, by omega, by omega, by go_num, by simp, FIN.out.1, FIN.out.2⟩, by simp [intOf]; omega⟩
    · have he : scan (bsOf s) 0 0 = (17, 0, 0) := by rw [hsc, List.drop_of_length_le (by omega)]; rfl
      have HE : Hid (takeUp most (bsOf s) = (0, 0, 17)) := (by unfold takeUp; rw [he]; rfl : takeUp most (bsOf s) = (0, 0, 17))
      have hin : i = s.size := by omega
      clear hsc he hlen hk
      go_wp2
      go_ret3
      exact ⟨by rw [HE.out]; rfl, rfl⟩

theorem scan_cnt (l : List Nat) (i acc : Nat) (h : (scan l i acc).1 = 0) : i < (scan l i acc).2.2 ∧ (scan l i acc).2.2 ≤ i + l.length := by
  induction l generalizing i acc with
  | nil => simp [scan] at h
  | cons b r ih =>
    rw [scan] at h ⊢
    split at h
    · simp at h
    · rename_i hn
      rw [if_neg hn]
      split at h
      · rename_i hb
        rw [if_pos hb]
        simp
      · rename_i hb
        rw [if_neg hb]
        have := ih (i + 1) _ h
        simp only [List.length_cons]
        omega
theorem takeUp_lt (most : Int) (bs : List Nat) : (takeUp most bs).1 < 9223372036854775808 := by
  unfold takeUp
  split
  · split
    · simp
    · exact scan_lt bs 0 0 (by omega) (by simp)
  · simp
theorem takeUp_cnt (most : Int) (bs : List Nat) : (takeUp most bs).2.1 ≤ bs.length := by
  unfold takeUp
  split
  · rename_i h
    split
    · simp
    · have := (scan_cnt bs 0 0 h).2
      simp only; omega
  · simp
theorem extract_strOf (s : ByteArray) (a n : Nat) (h : a + n ≤ s.size) : s.extract a (a + n) = strOf (((bsOf s).drop a).take n) := by
  have e : bsOf (s.extract a (a + n)) = ((bsOf s).drop a).take n := by
    simp only [bsOf, ByteArray.data_extract, Array.toList_extract, List.extract_eq_take_drop]
    rw [List.map_take, List.map_drop]
    congr 1
    omega
  rw [← e, strOf_bsOf]

def takeInt (bs : List Nat) : Int × Nat × Int := (intV (takeUp 9223372036854775807 bs).1, (takeUp 9223372036854775807 bs).2)
def takeText (most : Int) (bs : List Nat) : List Nat × Nat × Int :=
  if (takeUp most bs).2.2 ≠ 0 then ([], 0, (takeUp most bs).2.2) else if bs.length < (takeUp most bs).2.1 + (takeUp most bs).1 then ([], 0, 17) else ((bs.drop (takeUp most bs).2.1).take (takeUp most bs).1, (takeUp most bs).2.1 + (takeUp most bs).1, 0)
def takeMark (bs : List Nat) : Bool × Nat × Int := match bs with | [] => (false, 0, 17) | b :: _ => if 1 < b then (false, 0, 2) else (b == 1, 1, 0)

set_option maxHeartbeats 4000000 in
theorem reftakeint_any (s : ByteArray) (w : World) (hs : s.size ≤ 1000000) :
    Calls Try.prog 19 #[.string s] w fun e w' => e = .returned (.tuple #[.int .i64 (takeInt (bsOf s)).1, .int .i64 ((takeInt (bsOf s)).2.1 : Nat), .int .i64 (takeInt (bsOf s)).2.2]) ∧ w' = w := by
  have HN := Lib.hid (reftakeup_any s 9223372036854775807 w hs)
  have hlt := takeUp_lt 9223372036854775807 (bsOf s)
  unfold takeInt
  generalize takeUp 9223372036854775807 (bsOf s) = q at *
  obtain ⟨v, c, f⟩ := q
  simp only at hlt HN ⊢
  unfold intV
  have hq : (v : Int) / 2 = ((v / 2 : Nat) : Int) := by omega
  by_cases hp : v % 2 = 1
  · have h1 : ((v : Int) % 2 == 1) = true := by simp; omega
    rw [if_pos hp]
    have e2 : IntKind.i64.wrap (-((v : Int) / 2)) = -((v : Int) / 2) := by rw [IntKind.wrap_i64]; omega
    have e3 : IntKind.i64.wrap (-((v : Int) / 2) - 1) = -((v : Int) / 2) - 1 := by rw [IntKind.wrap_i64]; omega
    have HQ := Lib.hid hq
    clear hq hp
    have hv0 : (0 : Int) ≤ (v : Int) := by omega
    go_enter Try.func19, Try.ntmps19
    go_wp2_with fail
    refine HN.out.mono ?_
    rintro e w' ⟨rfl, rfl⟩
    go_wp2
    go_ret3
    exact ⟨by rw [← HQ.out]; rfl, rfl⟩
  · have h1 : ((v : Int) % 2 == 1) = false := by simp; omega
    rw [if_neg hp]
    have HQ := Lib.hid hq
    clear hq hp
    have hv0 : (0 : Int) ≤ (v : Int) := by omega
    go_enter Try.func19, Try.ntmps19
    go_wp2_with fail
    refine HN.out.mono ?_
    rintro e w' ⟨rfl, rfl⟩
    go_wp2
    go_ret3
    exact ⟨by rw [← HQ.out]; rfl, rfl⟩

set_option maxHeartbeats 4000000 in
theorem reftaketext_any (s : ByteArray) (most : Int) (w : World) (hs : s.size ≤ 1000000) :
    Calls Try.prog 20 #[.string s, .int .i64 most] w fun e w' => e = .returned (.tuple #[.string (strOf (takeText most (bsOf s)).1), .int .i64 ((takeText most (bsOf s)).2.1 : Nat), .int .i64 (takeText most (bsOf s)).2.2]) ∧ w' = w := by
  have HN := Lib.hid (reftakeup_any s most w hs)
  have hlt := takeUp_lt most (bsOf s)
  have hct := takeUp_cnt most (bsOf s)
  unfold takeText
  rw [bsOf_length] at hct ⊢
  generalize takeUp most (bsOf s) = q at *
  obtain ⟨v, c, f⟩ := q
  simp only at hlt hct HN ⊢
  by_cases hf : f = 0
  · subst hf
    rw [if_neg (by simp)]
    by_cases hn : s.size < c + v
    · rw [if_pos hn]
      have hd : (s.size : Int) - (c : Int) < (v : Int) := by omega
      have hd0 : (0 : Int) ≤ (s.size : Int) - (c : Int) := by omega
      go_enter Try.func20, Try.ntmps20
      go_wp2_with fail
      refine HN.out.mono ?_
      rintro e w' ⟨rfl, rfl⟩
      go_wp2
      go_ret3
      exact ⟨rfl, rfl⟩
    · rw [if_neg hn]
      have HX := Lib.hid (extract_strOf s c v (by omega))
      have hd : ¬ (s.size : Int) - (c : Int) < (v : Int) := by omega
      have hd0 : (0 : Int) ≤ (s.size : Int) - (c : Int) := by omega
      have hd1 : (c : Int) + (v : Int) ≤ (s.size : Int) := by omega
      go_enter Try.func20, Try.ntmps20
      go_wp2_with fail
      refine HN.out.mono ?_
      rintro e w' ⟨rfl, rfl⟩
      go_wp2
      go_ret3
      exact ⟨by rw [← HX.out]; rfl, rfl⟩
  · have hf2 : (f != 0) = true := by simpa using hf
    rw [if_pos hf]
    go_enter Try.func20, Try.ntmps20
    go_wp2_with fail
    refine HN.out.mono ?_
    rintro e w' ⟨rfl, rfl⟩
    go_wp2
    go_ret3
    exact ⟨rfl, rfl⟩

set_option maxHeartbeats 4000000 in
theorem reftakemark_any (s : ByteArray) (w : World) (hs : s.size ≤ 1000000) :
    Calls Try.prog 22 #[.string s] w fun e w' => e = .returned (.tuple #[.bool (takeMark (bsOf s)).1, .int .i64 ((takeMark (bsOf s)).2.1 : Nat), .int .i64 (takeMark (bsOf s)).2.2]) ∧ w' = w := by
  rcases Nat.eq_zero_or_pos s.size with h0 | h0
  · have he : s = ⟨#[]⟩ := by
      apply ByteArray.ext
      exact Array.eq_empty_of_size_eq_zero h0
    subst he
    go_enter Try.func22, Try.ntmps22
    go_wp2
    go_ret3
    exact ⟨rfl, rfl⟩
  · have hx := bsOf_get h0
    have hl : bsOf s = s[0].toNat :: (bsOf s).drop 1 := by
      rcases hb : bsOf s with _ | ⟨b, l⟩
      · rw [hb] at hx; simp at hx
      · rw [hb] at hx; simp at hx; rw [hx]; rfl
    rw [hl]
    unfold takeMark
    simp only
    obtain ⟨x, hxx⟩ : ∃ x, s[0].toNat = x := ⟨_, rfl⟩
    rw [hxx]
    have i2 : (0 : Int) < (s.size : Int) := by omega
    have hne : s.toList.isEmpty = false := by
      rw [Bool.eq_false_iff]
      intro h
      have h1 : s.toList = [] := by simpa using h
      have h2 : s.data.toList = [] := by rw [ByteArray.toList_eq] at h1; exact h1
      have h3 : s.data.toList.length = s.size := by simp
      rw [h2, List.length_nil] at h3
      omega
    clear hx hl
    by_cases hb : 1 < x
    · have hb1 : (1 : Int) < (x : Int) := by omega
      rw [if_pos hb]
      go_enter Try.func22, Try.ntmps22
      go_wp2
      go_ret3
      exact ⟨rfl, rfl⟩
    · have hb1 : ¬ (1 : Int) < (x : Int) := by omega
      rw [if_neg hb]
      have h1 : (((x : Int) == 1) : Bool) = (x == 1) := by
        rw [Bool.eq_iff_iff]; simp; omega
      go_enter Try.func22, Try.ntmps22
      go_wp2
      go_ret3
      exact ⟨rfl, rfl⟩
end Go.Proofs.Ytdgcafohfedbhaa
