import Derived.Test.YtdgcafohfedbhaaDoorPK
namespace Go.Proofs.YtdgcafohfedbhaaDoor.K
open Go.RowKit Go.Joins
set_option linter.unusedVariables false

/-! ### the reel's words: what each takes, and what is left -/
def Oct (bs : List Nat) : Prop := ∀ (i x : Nat), bs[i]? = some x → x < 256
theorem Oct.drop {bs : List Nat} (h : Oct bs) (n : Nat) : Oct (bs.drop n) := fun i x hx => by rw [List.getElem?_drop] at hx; exact h _ x hx
theorem scan_lt (l : List Nat) (i acc : Nat) (hi : i ≤ 9) (ha : acc < 128 ^ i) : (scan l i acc).2.1 < 9223372036854775808 := by
  induction l generalizing i acc with
  | nil => simp [scan]
  | cons b r ih =>
    rw [scan]
    split
    · simp
    · rename_i hn
      have hi8 : i ≤ 8 := by omega
      have hm : b % 128 < 128 := Nat.mod_lt _ (by decide)
      have h1 : acc * 128 + b % 128 < 128 ^ (i + 1) := by rw [Nat.pow_succ]; omega
      split
      · have := Nat.pow_le_pow_right (n := 128) (by decide) (show i + 1 ≤ 9 by omega)
        have e : (128 : Nat) ^ 9 = 9223372036854775808 := by decide
        rw [e] at this
        simp only
        omega
      · exact ih (i + 1) _ (by omega) h1
def numS (bs : List Nat) (f : Int) : Nat × List Nat × Int := if f = 0 then ((scan bs 0 0).2.1, rest bs, (scan bs 0 0).1) else (0, bs, f)
theorem numS_lt (bs : List Nat) (f : Int) : (numS bs f).1 < 9223372036854775808 := by
  unfold numS
  split
  · exact scan_lt bs 0 0 (by omega) (by simp)
  · simp
theorem scan_code (l : List Nat) (i acc : Nat) : (scan l i acc).1 = 0 ∨ (scan l i acc).2.1 = 0 := by
  induction l generalizing i acc with
  | nil => simp [scan]
  | cons b r ih =>
    rw [scan]
    split
    · simp
    · split
      · simp
      · exact ih _ _
theorem numS_code (bs : List Nat) (f : Int) : (numS bs f).2.2 = 0 ∨ (numS bs f).1 = 0 := by
  unfold numS
  split
  · exact scan_code bs 0 0
  · simp
theorem rest_oct {bs : List Nat} (h : Oct bs) : Oct (rest bs) := by
  unfold rest
  split
  · exact h.drop _
  · exact h
theorem rest_len (bs : List Nat) : (rest bs).length ≤ bs.length := by
  unfold rest
  split <;> simp
theorem numS_oct {bs : List Nat} {f : Int} (h : Oct bs) : Oct (numS bs f).2.1 := by
  unfold numS
  split
  · exact rest_oct h
  · exact h
theorem numS_len (bs : List Nat) (f : Int) : (numS bs f).2.1.length ≤ bs.length := by
  unfold numS
  split
  · exact rest_len bs
  · exact Nat.le_refl _
def upS (most : Int) (bs : List Nat) (f : Int) : Nat × List Nat × Int := if (numS bs f).2.2 = 0 ∧ most < ((numS bs f).1 : Int) then (0, (numS bs f).2.1, 1) else numS bs f
theorem upS_oct {most : Int} {bs : List Nat} {f : Int} (h : Oct bs) : Oct (upS most bs f).2.1 := by
  unfold upS
  split <;> exact numS_oct h
theorem upS_len (most : Int) (bs : List Nat) (f : Int) : (upS most bs f).2.1.length ≤ bs.length := by
  unfold upS
  split <;> exact numS_len bs f
theorem upS_lt (most : Int) (bs : List Nat) (f : Int) : (upS most bs f).1 < 9223372036854775808 := by
  unfold upS
  split
  · simp
  · exact numS_lt bs f
def intV (n : Nat) : Int := if n % 2 = 1 then -((n / 2 : Nat) : Int) - 1 else ((n / 2 : Nat) : Int)
def intS (bs : List Nat) (f : Int) : Int × List Nat × Int := (intV (numS bs f).1, (numS bs f).2.1, (numS bs f).2.2)
def bytesS (n : Nat) (bs : List Nat) (f : Int) : List Nat × List Nat × Int := if f = 0 then (if n ≤ bs.length then (bs.take n, bs.drop n, 0) else ([], bs, 17)) else ([], bs, f)

theorem lose_again (B r : Nat) (bs : List Nat) (f k : Int) (w : World) (h : ReelAt w B r bs f) (hf : f ≠ 0) :
    Calls Tryd.prog 34 #[.pointer (some ⟨r, 0, none⟩), .int .i64 k] w fun e w' => e = .returned (.tuple #[]) ∧ w' = w := by
  obtain ⟨a, cap, hb, _⟩ := h.ex
  have c1 : w.cell? ⟨r, 1, none⟩ = some (.int .i64 f) := by simp [World.cell?, hb]
  have hf2 : (f == 0) = false := by simpa using hf
  clear hb h
  go_enter Tryd.func34, Tryd.ntmps34
  go_wp2
  go_end0
  exact ⟨rfl, rfl⟩

theorem number_lost (B r : Nat) (bs : List Nat) (f : Int) (w : World) (hlen : bs.length ≤ 1000000) (h : ReelAt w B r bs f) (hf : f ≠ 0) :
    Calls Tryd.prog 35 #[.pointer (some ⟨r, 0, none⟩)] w fun e w' => e = .returned (.int .u64 0) ∧ w' = w := by
  have H := Lib.hid h
  obtain ⟨a, cap, hb, h1, h2, h3, h4⟩ := h.ex
  have c0 : w.cell? ⟨r, 0, none⟩ = some (.slice a bs.length cap) := by simp [World.cell?, hb]
  have c1 : w.cell? ⟨r, 1, none⟩ = some (.int .i64 f) := by simp [World.cell?, hb]
  have HS := Lib.hid h3
  have hf2 : (f == 0) = false := by simpa using hf
  have hf3 : (f != 0) = true := by simpa using hf
  clear hb h1 h2 h3 h4 h
  go_enter Tryd.func35, Tryd.ntmps35
  go_wp2_with fail
  go_loopw [11] (fun iv wr => wr = w ∧ iv = .int .i64 0) (fun _ _ => 0)
  case atStart => exact ⟨rfl, rfl⟩
  case round =>
    obtain ⟨rfl, rfl⟩ := hrel
    rcases Nat.eq_zero_or_pos bs.length with h0 | h0
    · rw [h0]
      have HL := Lib.hid (lose_again B r bs f 17 wr H.out hf)
      clear c0
      go_wp2_with fail
      refine HL.out.mono ?_
      rintro e w' ⟨rfl, rfl⟩
      go_wp2
      go_ret
      exact ⟨rfl, rfl⟩
    · obtain ⟨g, o, rfl, hc⟩ := HS.out 0 bs[0] (by simp [h0])
      simp only [Nat.add_zero] at hc
      have h1 : (0 : Int) < (bs.length : Int) := by omega
      go_wp2
      go_ret
      exact ⟨rfl, rfl⟩

/-- a number, whatever was -/
theorem number_take (B r : Nat) (bs : List Nat) (f : Int) (w : World) (hb8 : Oct bs) (hlen : bs.length ≤ 1000000) (h : ReelAt w B r bs f) (hr : B ≤ r) :
    Calls Tryd.prog 35 #[.pointer (some ⟨r, 0, none⟩)] w fun e w' => e = .returned (.int .u64 ((numS bs f).1 : Nat)) ∧ ReelAt w' B r (numS bs f).2.1 (numS bs f).2.2 ∧ Touch r w w' := by
  by_cases hf : f = 0
  · subst hf
    rw [show numS bs 0 = ((scan bs 0 0).2.1, rest bs, (scan bs 0 0).1) from if_pos rfl]
    exact take_number B r bs w hb8 hlen h hr
  · rw [show numS bs f = (0, bs, f) from if_neg hf]
    refine (number_lost B r bs f w hlen h hf).mono ?_
    rintro e w' ⟨rfl, rfl⟩
    exact ⟨rfl, h, Touch.refl _ _⟩

theorem reel_cell {w : World} {B r : Nat} {bs : List Nat} {f : Int} (h : ReelAt w B r bs f) : w.cell? ⟨r, 1, none⟩ = some (.int .i64 f) := by
  obtain ⟨a, cap, hb, _⟩ := h.ex
  simp [World.cell?, hb]
theorem Touch.of_eq {r : Nat} {w w' : World} (h : w' = w) : Touch r w w' := by subst h; exact Touch.refl _ _

theorem fail_any (B r : Nat) (bs : List Nat) (f : Int) (w : World) (h : ReelAt w B r bs f) :
    Calls Tryd.prog 25 #[.pointer (some ⟨r, 0, none⟩)] w fun e w' => e = .returned (.int .i64 f) ∧ w' = w := by
  have c1 := reel_cell h
  clear h
  go_enter Tryd.func25, Tryd.ntmps25
  go_wp2
  go_ret
  exact ⟨rfl, rfl⟩
theorem left_any (B r : Nat) (bs : List Nat) (f : Int) (w : World) (h : ReelAt w B r bs f) :
    Calls Tryd.prog 26 #[.pointer (some ⟨r, 0, none⟩)] w fun e w' => e = .returned (.int .i64 (bs.length : Int)) ∧ w' = w := by
  obtain ⟨a, cap, hb, _⟩ := h.ex
  have c1 : w.cell? ⟨r, 0, none⟩ = some (.slice a bs.length cap) := by simp [World.cell?, hb]
  clear h hb
  go_enter Tryd.func26, Tryd.ntmps26
  go_wp2
  go_ret
  exact ⟨rfl, rfl⟩

set_option maxHeartbeats 4000000 in
theorem up_take (B r : Nat) (bs : List Nat) (f most : Int) (w : World) (hb8 : Oct bs) (hlen : bs.length ≤ 1000000) (h : ReelAt w B r bs f) (hr : B ≤ r) :
    Calls Tryd.prog 31 #[.pointer (some ⟨r, 0, none⟩), .int .i64 most] w fun e w' => e = .returned (.int .i64 ((upS most bs f).1 : Nat)) ∧ ReelAt w' B r (upS most bs f).2.1 (upS most bs f).2.2 ∧ Touch r w w' := by
  have H := Lib.hid h
  clear h
  have HB8 := Lib.hid hb8
  clear hb8
  have hlt := numS_lt bs f
  have hcode := numS_code bs f
  have HU : Hid (upS most bs f = if (numS bs f).2.2 = 0 ∧ most < ((numS bs f).1 : Int) then (0, (numS bs f).2.1, 1) else numS bs f) := rfl
  have HN := Lib.hid (number_take B r bs f w HB8.out hlen H.out hr)
  generalize numS bs f = q at *
  obtain ⟨v, bs', f'⟩ := q
  simp only at hlt hcode HU HN
  have hw : IntKind.i64.wrap (v : Int) = (v : Int) := by rw [IntKind.wrap_i64]; omega
  have HW := Lib.hid hw
  by_cases hf : f' = 0
  · subst hf
    clear hcode
    by_cases hm : most < (v : Int)
    · rw [HU.out, if_pos ⟨rfl, hm⟩]
      clear HU
      go_enter Tryd.func31, Tryd.ntmps31
      go_wp2_with fail
      refine HN.out.mono ?_
      rintro e w1 ⟨rfl, hr1, ht1⟩
      have c1 := reel_cell hr1
      have H1 := Lib.hid (⟨hr1, ht1⟩ : _ ∧ _)
      clear hr1 ht1
      go_wp2_with fail
      refine (lose_first B r bs' 1 w1 H1.out.1 hr).mono ?_
      rintro e w2 ⟨rfl, hr2, ht2⟩
      have c2 := reel_cell hr2
      have H2 := Lib.hid (⟨hr2, ht2⟩ : _ ∧ _)
      clear hr2 ht2 c1
      go_wp2
      go_ret
      exact ⟨rfl, H2.out.1, H1.out.2.trans H2.out.2⟩
    · rw [HU.out, if_neg (fun h => hm h.2)]
      clear HU
      go_enter Tryd.func31, Tryd.ntmps31
      go_wp2_with fail
      refine HN.out.mono ?_
      rintro e w1 ⟨rfl, hr1, ht1⟩
      have c1 := reel_cell hr1
      have H1 := Lib.hid (⟨hr1, ht1⟩ : _ ∧ _)
      clear hr1 ht1
      go_wp2
      go_ret
      exact ⟨rfl, H1.out.1, H1.out.2⟩
  · have hv : v = 0 := hcode.resolve_left hf
    subst hv
    rw [HU.out, if_neg (fun h => hf h.1)]
    have hf2 : (f' == 0) = false := by simpa using hf
    have hf3 : (f' != 0) = true := by simpa using hf
    clear HU hcode hw
    go_enter Tryd.func31, Tryd.ntmps31
    go_wp2_with fail
    refine HN.out.mono ?_
    rintro e w1 ⟨rfl, hr1, ht1⟩
    have c1 := reel_cell hr1
    have H1 := Lib.hid (⟨hr1, ht1⟩ : _ ∧ _)
    clear hr1 ht1
    go_wp2
    go_ret
    exact ⟨rfl, H1.out.1, H1.out.2⟩

/-- the bytes' slice: what it shows, in memory below B -/
def Cut (w : World) (B : Nat) (v : Value) (bs : List Nat) : Prop := ∃ a cap, v = .slice a bs.length cap ∧ Shows w a bs ∧ ∀ ad, a = some ad → ad.block < B
theorem cut_none (w : World) (B : Nat) : Cut w B (.slice none 0 0) [] := ⟨none, 0, rfl, fun i x hx => by simp at hx, fun _ h => by cases h⟩
theorem Shows.take {w : World} {a : Option Addr} {bs : List Nat} (h : Shows w a bs) (n : Nat) : Shows w a (bs.take n) := fun i x hx => by
  rw [List.getElem?_take] at hx
  split at hx
  · exact h i x hx
  · cases hx
theorem Shows.drop {w : World} {g o : Nat} {bs : List Nat} (h : Shows w (some ⟨g, o, none⟩) bs) (n : Nat) : Shows w (some ⟨g, o + n, none⟩) (bs.drop n) := fun i x hx => by
  rw [List.getElem?_drop] at hx
  obtain ⟨g', o', e, hc'⟩ := h _ x hx
  simp only [Option.some.injEq, Addr.mk.injEq, and_true] at e
  obtain ⟨rfl, rfl⟩ := e
  exact ⟨g, o + n, rfl, by rw [show o + n + i = o + (n + i) by omega]; exact hc'⟩
theorem Shows.nil (w : World) (a : Option Addr) : Shows w a [] := fun i x hx => by simp at hx

set_option maxHeartbeats 4000000 in
theorem bytes_fail (B r n : Nat) (bs : List Nat) (f : Int) (w : World) (h : ReelAt w B r bs f) (hr : B ≤ r) (hf : f ≠ 0) :
    Calls Tryd.prog 30 #[.pointer (some ⟨r, 0, none⟩), .int .i64 (n : Int)] w fun e w' => e = .returned (.slice none 0 0) ∧ w' = w := by
  have c1 := reel_cell h
  obtain ⟨a, cap, hb, _⟩ := h.ex
  have c0 : w.cell? ⟨r, 0, none⟩ = some (.slice a bs.length cap) := by simp [World.cell?, hb]
  have hf2 : (f == 0) = false := by simpa using hf
  have hf3 : (f != 0) = true := by simpa using hf
  clear hb h
  go_enter Tryd.func30, Tryd.ntmps30
  go_wp2
  go_ret
  exact ⟨rfl, rfl⟩
set_option maxHeartbeats 4000000 in
theorem bytes_torn (B r n : Nat) (bs : List Nat) (w : World) (h : ReelAt w B r bs 0) (hr : B ≤ r) (hn : bs.length < n) :
    Calls Tryd.prog 30 #[.pointer (some ⟨r, 0, none⟩), .int .i64 (n : Int)] w fun e w' => e = .returned (.slice none 0 0) ∧ ReelAt w' B r bs 17 ∧ Touch r w w' := by
  have H := Lib.hid h
  have c1 := reel_cell h
  obtain ⟨a, cap, hb, _⟩ := h.ex
  have c0 : w.cell? ⟨r, 0, none⟩ = some (.slice a bs.length cap) := by simp [World.cell?, hb]
  have hd : (bs.length : Int) < (n : Int) := by omega
  clear hb h
  go_enter Tryd.func30, Tryd.ntmps30
  go_wp2_with fail
  refine (lose_first B r bs 17 w H.out hr).mono ?_
  rintro e w1 ⟨rfl, hr1, ht1⟩
  have c1' := reel_cell hr1
  have H1 := Lib.hid (⟨hr1, ht1⟩ : _ ∧ _)
  clear hr1 ht1 c0 c1
  go_wp2
  go_ret
  exact ⟨rfl, H1.out.1, H1.out.2⟩

theorem add_block (ad : Addr) (n : Nat) : (ad.add n).block = ad.block := by
  unfold Addr.add
  split <;> rfl
theorem Shows.dropa {w : World} {ad : Addr} {bs : List Nat} (h : Shows w (some ad) bs) (n : Nat) : Shows w (some (ad.add n)) (bs.drop n) := fun i x hx => by
  rw [List.getElem?_drop] at hx
  obtain ⟨g', o', e, hc'⟩ := h _ x hx
  cases e
  exact ⟨g', o' + n, by rw [Addr.add_lit], by rw [show o' + n + i = o' + (n + i) by omega]; exact hc'⟩
set_option maxHeartbeats 4000000 in
theorem bytes_ok (B r n : Nat) (bs : List Nat) (w : World) (h : ReelAt w B r bs 0) (hr : B ≤ r) (hn : n ≤ bs.length) :
    Calls Tryd.prog 30 #[.pointer (some ⟨r, 0, none⟩), .int .i64 (n : Int)] w fun e w' => ∃ v, e = .returned v ∧ Cut w' B v (bs.take n) ∧ ReelAt w' B r (bs.drop n) 0 ∧ Touch r w w' := by
  have c1 := reel_cell h
  obtain ⟨a, cap, hb, h1, h2, h3, h4⟩ := h.ex
  have c0 : w.cell? ⟨r, 0, none⟩ = some (.slice a bs.length cap) := by simp [World.cell?, hb]
  have f0 : w.frozen? ⟨r, 0, none⟩ = false := by simp [World.frozen?, hb]
  have FIN : Hid (∀ a' cap', bs.length - n ≤ cap' → cap' ≤ maxLen → Shows w a' (bs.drop n) → (∀ ad, a' = some ad → ad.block < B) →
      Cut (w.setCell ⟨r, 0, none⟩ (.slice a' (bs.length - n) cap')) B (.slice a n n) (bs.take n) ∧ ReelAt (w.setCell ⟨r, 0, none⟩ (.slice a' (bs.length - n) cap')) B r (bs.drop n) 0 ∧ Touch r w (w.setCell ⟨r, 0, none⟩ (.slice a' (bs.length - n) cap'))) := fun a' cap' q1 q2 q3 q4 => by
    have hbk := block_setCell (i := 0) hb (.slice a' (bs.length - n) cap')
    refine ⟨⟨a, n, by rw [List.length_take, Nat.min_eq_left hn], (h3.take n).set h4 hr 0 _, h4⟩, ⟨a', cap', ?_, by rw [List.length_drop]; exact q1, q2, q3.set q4 hr 0 _, q4⟩, (Touch.refl r w).set_ 0 _⟩
    rw [List.length_drop]
    simpa using hbk
  have HX := Lib.hid (⟨h1, h2, h3, h4⟩ : _ ∧ _ ∧ _ ∧ _)
  have hd : ¬ (bs.length : Int) < (n : Int) := by omega
  have n0 : (0 : Int) ≤ (n : Int) := by omega
  have n1 : (n : Int) ≤ (cap : Int) := by omega
  clear hb h h3 h4 h2
  cases a with
  | none =>
    go_enter Tryd.func30, Tryd.ntmps30
    go_wp2
    go_ret
    have hl0 : bs = [] := by
      rcases bs with _ | ⟨x, l⟩
      · rfl
      · obtain ⟨g, o, e, _⟩ := HX.out.2.2.1 0 x rfl
        cases e
    refine ⟨_, rfl, FIN.out none (cap - n) (by omega) (by have := HX.out.2.1; omega) (by rw [hl0]; simp; exact Shows.nil _ _) (fun _ e => by cases e)⟩
  | some ad =>
    obtain ⟨g, o, p⟩ := ad
    have hgB : g < B := HX.out.2.2.2 _ rfl
    go_enter Tryd.func30, Tryd.ntmps30
    go_wp2
    · go_ret
      refine ⟨_, rfl, FIN.out (some ⟨g, o, p⟩) _ (by have := HX.out.1; omega) (by have := HX.out.2.1; omega) ?_ (fun _ e => by cases e; exact hgB)⟩
      have he : bs.drop n = [] := List.drop_eq_nil_of_le (by have := HX.out.1; omega)
      rw [he]; exact Shows.nil _ _
    · go_ret
      exact ⟨_, rfl, FIN.out (some ((⟨g, o, p⟩ : Addr).add n)) (cap - n) (by have := HX.out.1; omega) (by have := HX.out.2.1; omega) (HX.out.2.2.1.dropa n) (fun _ e => by cases e; rw [add_block]; exact hgB)⟩
/-- so many bytes, whatever was -/
theorem bytes_take (B r n : Nat) (bs : List Nat) (f : Int) (w : World) (h : ReelAt w B r bs f) (hr : B ≤ r) :
    Calls Tryd.prog 30 #[.pointer (some ⟨r, 0, none⟩), .int .i64 (n : Int)] w fun e w' => ∃ v, e = .returned v ∧ Cut w' B v (bytesS n bs f).1 ∧ ReelAt w' B r (bytesS n bs f).2.1 (bytesS n bs f).2.2 ∧ Touch r w w' := by
  unfold bytesS
  by_cases hf : f = 0
  · subst hf
    rw [if_pos rfl]
    by_cases hn : n ≤ bs.length
    · rw [if_pos hn]
      exact bytes_ok B r n bs w h hr hn
    · rw [if_neg hn]
      refine (bytes_torn B r n bs w h hr (by omega)).mono ?_
      rintro e w' ⟨rfl, h1, h2⟩
      exact ⟨_, rfl, cut_none _ _, h1, h2⟩
  · rw [if_neg hf]
    refine (bytes_fail B r n bs f w h hr hf).mono ?_
    rintro e w' ⟨rfl, rfl⟩
    exact ⟨_, rfl, cut_none _ _, h, Touch.refl _ _⟩
end Go.Proofs.YtdgcafohfedbhaaDoor.K
