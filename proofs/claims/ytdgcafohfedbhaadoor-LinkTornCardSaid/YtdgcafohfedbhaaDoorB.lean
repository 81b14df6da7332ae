import Derived.Test.YtdgcafohfedbhaaDoorA
namespace Go.Proofs.YtdgcafohfedbhaaDoor
open Go.RowKit

def bstep (p : Nat × Nat) : Nat × Nat := (if ((p.1 % 2 == 1) != (p.2 % 2 == 1)) = true then (p.1 / 2) ^^^ 3988292384 else p.1 / 2, p.2 / 2)
def bsteps : Nat → Nat × Nat → Nat × Nat
  | 0, p => p
  | j + 1, p => bstep (bsteps j p)
theorem bstep_lt (p : Nat × Nat) (h : p.1 < 2 ^ 32 ∧ p.2 < 256) : (bstep p).1 < 2 ^ 32 ∧ (bstep p).2 < 256 := by
  unfold bstep
  constructor
  · simp only
    split
    · exact Nat.xor_lt_two_pow (by omega) (by omega)
    · omega
  · simp only; omega
theorem bsteps_lt (j : Nat) (p : Nat × Nat) (h : p.1 < 2 ^ 32 ∧ p.2 < 256) : (bsteps j p).1 < 2 ^ 32 ∧ (bsteps j p).2 < 256 := by
  induction j with
  | zero => exact h
  | succ j ih => exact bstep_lt _ ih
def sumR (z : Nat → Nat) : Nat → Nat
  | 0 => 4294967295
  | k + 1 => (bsteps 8 (sumR z k, z k)).1
theorem sumR_lt (z : Nat → Nat) (hz : ∀ k, z k < 256) (k : Nat) : sumR z k < 2 ^ 32 := by
  induction k with
  | zero => simp [sumR]
  | succ k ih => exact (bsteps_lt 8 _ ⟨ih, hz k⟩).1

def zS (s : ByteArray) (k : Nat) : Nat := if h : k < s.size then s[k].toNat else 0
theorem zS_lt (s : ByteArray) (k : Nat) : zS s k < 256 := by
  unfold zS
  split
  · exact UInt8.toNat_lt _
  · omega

set_option maxHeartbeats 4000000 in
theorem sumR_any (s : ByteArray) (w : World) (hn : s.size ≤ maxLen) :
    Calls Tryd.prog 8 #[.string s] w fun e w' => e = .returned (.int .u32 ((4294967295 - sumR (zS s) s.size : Nat) : Int)) ∧ w = w' := by
  unfold maxLen at hn
  go_enter Tryd.func8, Tryd.ntmps8
  go_wp2
  go_loop [3, 4] (fun n i => ∃ k : Nat, k ≤ s.size ∧ i = .int .i64 k ∧ n = .int .u32 (sumR (zS s) k : Nat)) (fun _ i => s.size - (intOf i).toNat)
  case atStart => exact ⟨0, by omega, rfl, rfl⟩
  case round =>
    obtain ⟨k, hk, rfl, rfl⟩ := hrel
    have hx := sumR_lt (zS s) (zS_lt s) k
    have hxz : Hid ((bsteps 8 (sumR (zS s) k, zS s k)).1 = sumR (zS s) (k + 1)) := rfl
    generalize hxx : sumR (zS s) k = x at hx hxz ⊢
    have HXX := Lib.hid hxx
    clear hxx
    by_cases hlt : k < s.size
    · have hz0 := zS_lt s k
      have hzk : s[k].toNat = zS s k := by unfold zS; rw [dif_pos hlt]
      generalize zS s k = c at hz0 hzk hxz
      go_wp2
      clear hzk
      go_loop [3, 5, 6] (fun n b i => ∃ j : Nat, j ≤ 8 ∧ i = .int .i64 j ∧ n = .int .u32 ((bsteps j (x, c)).1 : Nat) ∧ b = .int .u8 ((bsteps j (x, c)).2 : Nat)) (fun _ _ i => 8 - (intOf i).toNat)
      case atStart => exact ⟨0, by omega, rfl, rfl, rfl⟩
      case round =>
        obtain ⟨j, hj, rfl, rfl, rfl⟩ := hrel
        have hs := bsteps_lt j (x, c) ⟨hx, hz0⟩
        have hstep : Hid (bsteps (j + 1) (x, c) = bstep (bsteps j (x, c))) := rfl
        have h8 : Hid (j = 8 → (bsteps j (x, c)).1 = sumR (zS s) (k + 1)) := fun h => by subst h; exact hxz.out
        generalize bsteps j (x, c) = p at hs hstep h8 ⊢
        obtain ⟨n1, c1⟩ := p
        simp only at hs
        obtain ⟨hs1, hs2⟩ := hs
        by_cases hjl : j < 8
        · have hsum (m : Nat) (e : (bstep (n1, c1)) = (m, c1 / 2)) : ((bsteps (j + 1) (x, c)).1 = m ∧ (bsteps (j + 1) (x, c)).2 = c1 / 2) := by rw [hstep.out, e]; exact ⟨rfl, rfl⟩
          have HS := Lib.hid hsum
          clear hsum hstep
          by_cases e1 : n1 % 2 = 1
          · by_cases e2 : c1 % 2 = 1
            · have q1 : ((n1 : Int) % 2 == 1) = true := by simp; omega
              have q2 : ((c1 : Int) % 2 == 1) = true := by simp; omega
              have f := HS.out (n1 / 2) (by
                have z1 : n1 % 2 = 1 ∨ n1 % 2 = 0 := by omega
                have z2 : c1 % 2 = 1 ∨ c1 % 2 = 0 := by omega
                rcases z1 with z1 | z1 <;> rcases z2 with z2 | z2 <;> first | (exfalso; omega) | simp [bstep, z1, z2])
              clear HS
              have F1 := Lib.hid f
              clear f
              go_wp2
              refine ⟨⟨j + 1, by omega, by go_num, ?_, ?_⟩, by simp [intOf]; omega⟩
              · rw [F1.out.1]; refine congrArg (Value.int .u32) ?_; go_num
              · rw [F1.out.2]; go_num
            · have q1 : ((n1 : Int) % 2 == 1) = true := by simp; omega
              have q2 : ((c1 : Int) % 2 == 1) = false := by simp; omega
              have f := HS.out ((n1 / 2) ^^^ 3988292384) (by
                have z1 : n1 % 2 = 1 ∨ n1 % 2 = 0 := by omega
                have z2 : c1 % 2 = 1 ∨ c1 % 2 = 0 := by omega
                rcases z1 with z1 | z1 <;> rcases z2 with z2 | z2 <;> first | (exfalso; omega) | simp [bstep, z1, z2])
              clear HS
              have F1 := Lib.hid f
              clear f
              go_wp2
              refine ⟨⟨j + 1, by omega, by go_num, ?_, ?_⟩, by simp [intOf]; omega⟩
              · rw [F1.out.1]; refine congrArg (Value.int .u32) ?_; exact (bits_xor32 (n1 / 2) 3988292384 (by omega) (by omega))
              · rw [F1.out.2]; go_num
          · by_cases e2 : c1 % 2 = 1
            · have q1 : ((n1 : Int) % 2 == 1) = false := by simp; omega
              have q2 : ((c1 : Int) % 2 == 1) = true := by simp; omega
              have f := HS.out ((n1 / 2) ^^^ 3988292384) (by
                have z1 : n1 % 2 = 1 ∨ n1 % 2 = 0 := by omega
                have z2 : c1 % 2 = 1 ∨ c1 % 2 = 0 := by omega
                rcases z1 with z1 | z1 <;> rcases z2 with z2 | z2 <;> first | (exfalso; omega) | simp [bstep, z1, z2])
              clear HS
              have F1 := Lib.hid f
              clear f
              go_wp2
              refine ⟨⟨j + 1, by omega, by go_num, ?_, ?_⟩, by simp [intOf]; omega⟩
              · rw [F1.out.1]; refine congrArg (Value.int .u32) ?_; exact (bits_xor32 (n1 / 2) 3988292384 (by omega) (by omega))
              · rw [F1.out.2]; go_num
            · have q1 : ((n1 : Int) % 2 == 1) = false := by simp; omega
              have q2 : ((c1 : Int) % 2 == 1) = false := by simp; omega
              have f := HS.out (n1 / 2) (by
                have z1 : n1 % 2 = 1 ∨ n1 % 2 = 0 := by omega
                have z2 : c1 % 2 = 1 ∨ c1 % 2 = 0 := by omega
                rcases z1 with z1 | z1 <;> rcases z2 with z2 | z2 <;> first | (exfalso; omega) | simp [bstep, z1, z2])
              clear HS
              have F1 := Lib.hid f
              clear f
              go_wp2
              refine ⟨⟨j + 1, by omega, by go_num, ?_, ?_⟩, by simp [intOf]; omega⟩
              · rw [F1.out.1]; refine congrArg (Value.int .u32) ?_; go_num
              · rw [F1.out.2]; go_num
        · have hj8 : j = 8 := by omega
          have hfin := h8.out hj8
          simp only at hfin
          clear h8 hstep
          subst hj8
          have HF := Lib.hid hfin
          clear hfin
          go_wp2
          exact ⟨⟨k + 1, by omega, by go_num, by rw [HF.out]⟩, by simp [intOf]; omega⟩
    · have hkn : k = s.size := by omega
      subst hkn
      go_wp2
      go_ret
      exact ⟨ret_u32 (by rw [HXX.out]; omega), rfl⟩

/-! ### plain: the two sums are one -/
def cstep (s : Nat) : Nat := if s % 2 = 1 then (s / 2) ^^^ 3988292384 else s / 2
theorem xor_div2 (a b : Nat) : (a ^^^ b) / 2 = a / 2 ^^^ b / 2 := Nat.xor_div_two
theorem xor_mod2 (a b : Nat) : (a ^^^ b) % 2 = (a + b) % 2 := by
  have h := Nat.xor_mod_two_pow (a := a) (b := b) (n := 1)
  have z1 : a % 2 = 1 ∨ a % 2 = 0 := by omega
  have z2 : b % 2 = 1 ∨ b % 2 = 0 := by omega
  rw [show 2 ^ 1 = 2 from rfl] at h
  rw [h]
  rcases z1 with z1 | z1 <;> rcases z2 with z2 | z2 <;> rw [z1, z2] <;> simp <;> omega
theorem cstep_xor (a b : Nat) : cstep (a ^^^ b) = cstep a ^^^ cstep b := by
  unfold cstep
  have h := xor_mod2 a b
  rw [xor_div2]
  by_cases ha : a % 2 = 1 <;> by_cases hb : b % 2 = 1
  · rw [if_pos ha, if_pos hb, if_neg (by omega)]
    rw [show a / 2 ^^^ 3988292384 ^^^ (b / 2 ^^^ 3988292384) = a / 2 ^^^ b / 2 ^^^ (3988292384 ^^^ 3988292384) by ac_rfl]
    rw [Nat.xor_self, Nat.xor_zero]
  · rw [if_pos ha, if_neg hb, if_pos (by omega)]; ac_rfl
  · rw [if_neg ha, if_pos hb, if_pos (by omega)]; ac_rfl
  · rw [if_neg ha, if_neg hb, if_neg (by omega)]
theorem cstep_even (a : Nat) : cstep (2 * a) = a := by
  unfold cstep; rw [if_neg (by omega)]; omega
theorem nib_four (s : Nat) : cstep (cstep (cstep (cstep s))) = nib s := by
  have hs : s = (2 * (2 * (2 * (2 * (s / 16))))) ^^^ (s % 16) := by
    have d := Nat.xor_div_two_pow (a := 2 * (2 * (2 * (2 * (s / 16))))) (b := s % 16) (n := 4)
    have m := Nat.xor_mod_two_pow (a := 2 * (2 * (2 * (2 * (s / 16))))) (b := s % 16) (n := 4)
    rw [show 2 * (2 * (2 * (2 * (s / 16)))) / 2 ^ 4 = s / 16 by omega, show s % 16 / 2 ^ 4 = 0 by omega, Nat.xor_zero] at d
    rw [show 2 * (2 * (2 * (2 * (s / 16)))) % 2 ^ 4 = 0 by omega, show s % 16 % 2 ^ 4 = s % 16 by omega, Nat.zero_xor] at m
    omega
  have hr : ∀ r : Fin 16, cstep (cstep (cstep (cstep r.val))) = nibN.getD r.val 0 := by decide
  have hr' := hr ⟨s % 16, Nat.mod_lt _ (by decide)⟩
  simp only at hr'
  unfold nib
  generalize s % 16 = r at hs hr' ⊢
  generalize s / 16 = q at hs ⊢
  subst hs
  rw [cstep_xor, cstep_even, cstep_xor, cstep_even, cstep_xor, cstep_even, cstep_xor, cstep_even, hr']
theorem bstep_xor (p : Nat × Nat) : (bstep p).1 ^^^ (bstep p).2 = cstep (p.1 ^^^ p.2) := by
  obtain ⟨x, c⟩ := p
  have h := xor_mod2 x c
  unfold bstep cstep
  simp only
  rw [xor_div2]
  have z1 : x % 2 = 1 ∨ x % 2 = 0 := by omega
  have z2 : c % 2 = 1 ∨ c % 2 = 0 := by omega
  rcases z1 with z1 | z1 <;> rcases z2 with z2 | z2
  · rw [if_neg (by simp [z1, z2]), if_neg (by omega)]
  · rw [if_pos (by simp [z1, z2]), if_pos (by omega)]; ac_rfl
  · rw [if_pos (by simp [z1, z2]), if_pos (by omega)]; ac_rfl
  · rw [if_neg (by simp [z1, z2]), if_neg (by omega)]
theorem bsteps_snd (j : Nat) (p : Nat × Nat) : (bsteps j p).2 = p.2 / 2 ^ j := by
  induction j with
  | zero => simp [bsteps]
  | succ j ih => rw [bsteps]; show (bsteps j p).2 / 2 = _; rw [ih, Nat.div_div_eq_div_mul, Nat.pow_succ]
theorem bsteps_eight (x c : Nat) (hc : c < 256) : (bsteps 8 (x, c)).1 = nib (nib (x ^^^ c)) := by
  have h2 := bsteps_snd 8 (x, c)
  have h0 : (bsteps 8 (x, c)).2 = 0 := by rw [h2]; simp only; omega
  have e : (bsteps 8 (x, c)).1 = (bsteps 8 (x, c)).1 ^^^ (bsteps 8 (x, c)).2 := by rw [h0, Nat.xor_zero]
  rw [e]
  rw [← nib_four, ← nib_four]
  simp only [bsteps, bstep_xor]
theorem sums_one (z : Nat → Nat) (hz : ∀ k, z k < 256) (n : Nat) : sumTo z n = sumR z n := by
  induction n with
  | zero => rfl
  | succ n ih => rw [sumTo, sumR, ih, bsteps_eight _ _ (hz n)]
end Go.Proofs.YtdgcafohfedbhaaDoor
