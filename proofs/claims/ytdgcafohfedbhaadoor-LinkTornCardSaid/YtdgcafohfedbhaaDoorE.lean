import Derived.Test.YtdgcafohfedbhaaDoorC
import Derived.Test.YtdgcafohfedbhaaDoorPZ
namespace Go.Proofs.YtdgcafohfedbhaaDoor.T
open Go.RowKit Go.Joins
open Go.Proofs.YtdgcafohfedbhaaDoor.K
attribute [local go_sem] Oper.semAt_some
set_option linter.unusedVariables false
set_option linter.unusedSimpArgs false

/-! ### a frame's bytes -/
/-- the sum of bytes -/
def csN (bs : List Nat) : Nat := 4294967295 - sumR (zS (strOf bs)) (strOf bs).size
theorem csN_lt (bs : List Nat) : csN bs < 4294967296 := by unfold csN; omega
/-- a sum's four bytes -/
def hd4 (n : Nat) : List Nat := [n / 16777216, n / 65536 % 256, n / 256 % 256, n % 256]
def encN (bs : List Nat) : List Nat := up bs.length ++ bs
def frm (bs : List Nat) : List Nat := hd4 (csN (encN bs)) ++ encN bs
/-- the sum that four bytes tell -/
def tld (bs : List Nat) : Nat := bs.getD 0 0 * 16777216 + bs.getD 1 0 * 65536 + bs.getD 2 0 * 256 + bs.getD 3 0
theorem hd4_oct (n : Nat) (h : n < 4294967296) : Oct (hd4 n) := by
  intro i x hx
  have hm : x ∈ hd4 n := List.mem_of_getElem? hx
  simp only [hd4, List.mem_cons, List.not_mem_nil, or_false] at hm
  rcases hm with rfl | rfl | rfl | rfl <;> omega
theorem encN_oct {bs : List Nat} (h : Oct bs) : Oct (encN bs) := (up_oct _).append h
theorem frm_oct {bs : List Nat} (h : Oct bs) : Oct (frm bs) := (hd4_oct _ (csN_lt _)).append (encN_oct h)
theorem tld_hd (n : Nat) (t : List Nat) (h : n < 4294967296) : tld (hd4 n ++ t) = n := by
  simp [tld, hd4]
  omega
theorem frm_len (bs : List Nat) : (frm bs).length = 4 + (up bs.length).length + bs.length := by
  simp [frm, hd4, encN]; omega

theorem sum_shows (a : Option Addr) (c : Nat) (bs : List Nat) (w : World) (h : Shows w a bs) (ho : Oct bs) (hl : bs.length ≤ maxLen) (hN : NibAt w) :
    Calls Tryd.prog 7 #[.slice a bs.length c] w fun e w' => e = .returned (.int .u32 (csN bs : Int)) ∧ w' = w := by
  have hsz := strOf_size bs
  have hB : BytesAt w a bs.length (zS (strOf bs)) := fun i hi => by
    obtain ⟨g, o, e, hc⟩ := h i _ (List.getElem?_eq_getElem hi)
    refine ⟨zS_lt _ i, ⟨g, o, none⟩, e, ?_⟩
    rw [Addr.add_lit, hc]
    have hg := bsOf_get (s := strOf bs) (i := i) (by rw [hsz]; exact hi)
    rw [bsOf_strOf ho, List.getElem?_eq_getElem hi] at hg
    unfold zS
    rw [dif_pos (by rw [hsz]; exact hi)]
    simp only [Option.some.injEq] at hg
    rw [hg]
  refine (sum_any a bs.length c (zS (strOf bs)) w hB (zS_lt _) hl hN).mono fun e w' ⟨he, hw⟩ => ⟨?_, hw.symm⟩
  rw [he, sums_one _ (zS_lt _)]
  unfold csN
  rw [hsz]
theorem refsum (bs : List Nat) (w : World) (hl : bs.length ≤ maxLen) :
    Calls Tryd.prog 8 #[.string (strOf bs)] w fun e w' => e = .returned (.int .u32 (csN bs : Int)) ∧ w' = w := cs_ref (strOf bs) w (by rw [strOf_size]; exact hl)

theorem or_u32 (a d k : Nat) (ha : a < 2 ^ 32) (hd : d < 2 ^ k) (h : a = 2 ^ k * (a / 2 ^ k)) (hk : a + d < 2 ^ 32) : bits .or .u32 (a : Int) (d : Int) = ((a + d : Nat) : Int) := by
  have h1 : (BitVec.ofInt 32 (a : Int)).toNat = a := by
    rw [BitVec.ofInt_natCast, BitVec.toNat_ofNat]; exact Nat.mod_eq_of_lt ha
  have h2 : (BitVec.ofInt 32 (d : Int)).toNat = d := by
    rw [BitVec.ofInt_natCast, BitVec.toNat_ofNat]; exact Nat.mod_eq_of_lt (by omega)
  have h3 : a ||| d = a + d := by
    have := Nat.two_pow_add_eq_or_of_lt hd (a / 2 ^ k)
    rw [← h] at this
    exact this.symm
  show IntKind.u32.wrap ((BitVec.ofInt 32 (a : Int) ||| BitVec.ofInt 32 (d : Int)).toNat : Int) = _
  rw [BitVec.toNat_or, h1, h2, h3, IntKind.wrap_u32]
  omega

set_option maxHeartbeats 4000000 in
theorem told_any (a : Option Addr) (n c b0 b1 b2 b3 : Nat) (t : List Nat) (w : World) (hn : n = (b0 :: b1 :: b2 :: b3 :: t).length) (h : Shows w a (b0 :: b1 :: b2 :: b3 :: t)) (ho : Oct (b0 :: b1 :: b2 :: b3 :: t)) (hl : n ≤ maxLen) :
    Calls Tryd.prog 27 #[.slice a n c] w fun e w' => e = .returned (.int .u32 (tld (b0 :: b1 :: b2 :: b3 :: t) : Int)) ∧ ∃ q, w' = w.drewN q := by
  have h0 := ho 0 b0 rfl
  have h1 := ho 1 b1 rfl
  have h2 := ho 2 b2 rfl
  have h3 := ho 3 b3 rfl
  obtain ⟨g, o, rfl, c0⟩ := h 0 b0 rfl
  obtain ⟨_, _, e, c1⟩ := h 1 b1 rfl
  cases e
  obtain ⟨_, _, e, c2⟩ := h 2 b2 rfl
  cases e
  obtain ⟨_, _, e, c3⟩ := h 3 b3 rfl
  cases e
  simp only [Nat.add_zero] at c0
  have hl4 : 4 ≤ n := by rw [hn]; simp
  have HT : Hid (tld (b0 :: b1 :: b2 :: b3 :: t) = b0 * 16777216 + b1 * 65536 + b2 * 256 + b3) := (rfl : tld (b0 :: b1 :: b2 :: b3 :: t) = b0 * 16777216 + b1 * 65536 + b2 * 256 + b3)
  unfold maxLen at hl
  clear h ho hn
  have e0 : IntKind.u32.wrap ((b0 : Int) * 16777216) = (b0 : Int) * 16777216 := by rw [IntKind.wrap_u32]; omega
  have e1 : IntKind.u32.wrap ((b1 : Int) * 65536) = (b1 : Int) * 65536 := by rw [IntKind.wrap_u32]; omega
  have e2 : IntKind.u32.wrap ((b2 : Int) * 256) = (b2 : Int) * 256 := by rw [IntKind.wrap_u32]; omega
  have f0 : IntKind.u32.wrap (b0 : Int) = b0 := by rw [IntKind.wrap_u32]; omega
  have f1 : IntKind.u32.wrap (b1 : Int) = b1 := by rw [IntKind.wrap_u32]; omega
  have f2 : IntKind.u32.wrap (b2 : Int) = b2 := by rw [IntKind.wrap_u32]; omega
  have f3 : IntKind.u32.wrap (b3 : Int) = b3 := by rw [IntKind.wrap_u32]; omega
  have o1 : bits .or .u32 ((b0 : Int) * 16777216) ((b1 : Int) * 65536) = (b0 : Int) * 16777216 + (b1 : Int) * 65536 := by
    have := or_u32 (b0 * 16777216) (b1 * 65536) 24 (by omega) (by omega) (by omega) (by omega)
    simpa using this
  have o2 : bits .or .u32 ((b0 : Int) * 16777216 + (b1 : Int) * 65536) ((b2 : Int) * 256) = (b0 : Int) * 16777216 + (b1 : Int) * 65536 + (b2 : Int) * 256 := by
    have := or_u32 (b0 * 16777216 + b1 * 65536) (b2 * 256) 16 (by omega) (by omega) (by omega) (by omega)
    simpa using this
  have o3 : bits .or .u32 ((b0 : Int) * 16777216 + (b1 : Int) * 65536 + (b2 : Int) * 256) (b3 : Int) = (b0 : Int) * 16777216 + (b1 : Int) * 65536 + (b2 : Int) * 256 + (b3 : Int) := by
    have := or_u32 (b0 * 16777216 + b1 * 65536 + b2 * 256) b3 8 (by omega) (by omega) (by omega) (by omega)
    simpa using this
  have i0 : (0 : Int) < (n : Int) := by omega
  have i1 : (1 : Int) < (n : Int) := by omega
  have i2 : (2 : Int) < (n : Int) := by omega
  have i3 : (3 : Int) < (n : Int) := by omega
  go_enter Tryd.func27, Tryd.ntmps27
  go_wp2_with fail
  go_quiet (fail)
  go_wp2
  go_ret
  refine ⟨?_, _, rfl⟩
  rw [HT.out]
  simp
end Go.Proofs.YtdgcafohfedbhaaDoor.T
