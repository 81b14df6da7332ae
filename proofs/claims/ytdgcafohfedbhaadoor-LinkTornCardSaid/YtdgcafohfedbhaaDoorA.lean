import Derived.Test.YtdgcafohfedbhaaDoorRows
import Derived.WalkKit
import Derived.WalkSpells
import Derived.WalkLawsBesides
import Derived.Lib.Hide
import Derived.Deep.LoopGhost
namespace Go.Proofs.YtdgcafohfedbhaaDoor
open Go.RowKit

/-! ### plain: the sums of four bits -/
def nibN : List Nat := [0, 498536548, 997073096, 651767980, 1994146192, 1802195444, 1303535960, 1342533948, 3988292384, 4027552580, 3604390888, 3412177804, 2607071920, 2262029012, 2685067896, 3183342108]
def nib (s : Nat) : Nat := (s / 16) ^^^ (nibN.getD (s % 16) 0)
theorem nibN_lt (i : Nat) : nibN.getD i 0 < 2 ^ 32 := by
  rcases Nat.lt_or_ge i 16 with h | h
  · have : ∀ i : Fin 16, nibN.getD i.val 0 < 2 ^ 32 := by decide
    exact this ⟨i, h⟩
  · have h' : nibN.length ≤ i := h
    simp [List.getD, List.getElem?_eq_none h']
theorem nib_lt (s : Nat) (h : s < 2 ^ 32) : nib s < 2 ^ 32 := Nat.xor_lt_two_pow (by omega) (nibN_lt _)

theorem bits_xor32 (a b : Nat) (ha : a < 2 ^ 32) (hb : b < 2 ^ 32) : bits .xor .u32 (a : Int) (b : Int) = ((a ^^^ b : Nat) : Int) := by
  have hx : a ^^^ b < 2 ^ 32 := Nat.xor_lt_two_pow ha hb
  have h1 : (BitVec.ofInt 32 (a : Int)).toNat = a := by
    rw [BitVec.ofInt_natCast, BitVec.toNat_ofNat]; exact Nat.mod_eq_of_lt (by omega)
  have h2 : (BitVec.ofInt 32 (b : Int)).toNat = b := by
    rw [BitVec.ofInt_natCast, BitVec.toNat_ofNat]; exact Nat.mod_eq_of_lt (by omega)
  show IntKind.u32.wrap ((BitVec.ofInt 32 (a : Int) ^^^ BitVec.ofInt 32 (b : Int)).toNat : Int) = _
  rw [BitVec.toNat_xor, h1, h2, IntKind.wrap_u32]
  omega
theorem bits_and15 (a : Nat) (ha : a < 2 ^ 32) : bits .and .u32 (a : Int) 15 = ((a % 16 : Nat) : Int) := by
  have h1 : (BitVec.ofInt 32 (a : Int)).toNat = a := by
    rw [BitVec.ofInt_natCast, BitVec.toNat_ofNat]; exact Nat.mod_eq_of_lt (by omega)
  have h2 : (BitVec.ofInt 32 15).toNat = 15 := by decide
  show IntKind.u32.wrap ((BitVec.ofInt 32 (a : Int) &&& BitVec.ofInt 32 15).toNat : Int) = _
  rw [BitVec.toNat_and, h1, h2, IntKind.wrap_u32, show a &&& 15 = a % 16 from Nat.and_two_pow_sub_one_eq_mod a 4]
  omega

theorem flip32 (x : Nat) (h : x < 2 ^ 32) : bits .xor .u32 IntKind.u32.max (x : Int) = ((4294967295 - x : Nat) : Int) := by
  have e := bits_xor32 4294967295 x (by omega) h
  have m : IntKind.u32.max = ((4294967295 : Nat) : Int) := by decide
  rw [m, e]
  have b : (BitVec.allOnes 32 ^^^ BitVec.ofNat 32 x).toNat = 4294967295 - x := by
    rw [BitVec.allOnes_xor, BitVec.toNat_not, BitVec.toNat_ofNat, Nat.mod_eq_of_lt h]
  rw [BitVec.toNat_xor, BitVec.toNat_ofNat, Nat.mod_eq_of_lt h, BitVec.toNat_allOnes] at b
  exact_mod_cast b
theorem ret_u32 {a b : Int} (h : a = b) : Ending.returned (.int .u32 a) = .returned (.int .u32 b) := by rw [h]

def BytesAt (w : World) (a : Option Addr) (n : Nat) (z : Nat → Nat) : Prop :=
  ∀ i, i < n → z i < 256 ∧ ∃ ad, a = some ad ∧ w.cell? (ad.add i) = some (.int .u8 (z i))
def NibAt (w : World) : Prop := ∀ i : Nat, i < 16 → w.cell? ⟨0, i, none⟩ = some (.int .u32 ((nibN.getD i 0 : Nat) : Int))

/-- the sum so far -/
def sumTo (z : Nat → Nat) : Nat → Nat
  | 0 => 4294967295
  | k + 1 => nib (nib (sumTo z k ^^^ z k))
theorem sumTo_lt (z : Nat → Nat) (hz : ∀ k, z k < 256) (k : Nat) : sumTo z k < 2 ^ 32 := by
  induction k with
  | zero => simp [sumTo]
  | succ k ih => exact nib_lt _ (nib_lt _ (Nat.xor_lt_two_pow ih (by have := hz k; omega)))
def nibs : Nat → Nat → Nat
  | 0, s => s
  | j + 1, s => nib (nibs j s)
theorem nibs_lt (j s : Nat) (h : s < 2 ^ 32) : nibs j s < 2 ^ 32 := by
  induction j with
  | zero => exact h
  | succ j ih => exact nib_lt _ ih

set_option maxHeartbeats 4000000 in
theorem sum_any (a : Option Addr) (n c : Nat) (z : Nat → Nat) (w : World) (hz : BytesAt w a n z) (hz' : ∀ k, z k < 256) (hn : n ≤ maxLen) (hN : NibAt w) :
    Calls Tryd.prog 7 #[.slice a n c] w fun e w' => e = .returned (.int .u32 ((4294967295 - sumTo z n : Nat) : Int)) ∧ w = w' := by
  unfold maxLen at hn
  have HZ := Lib.hid hz
  have HN := Lib.hid hN
  have HZ' := Lib.hid hz'
  clear hz hN hz'
  go_enter Tryd.func7, Tryd.ntmps7
  go_wp2
  go_loop [3, 8] (fun s i => ∃ k : Nat, k ≤ n ∧ i = .int .i64 k ∧ s = .int .u32 (sumTo z k : Nat)) (fun _ i => n - (intOf i).toNat)
  case atStart => exact ⟨0, by omega, rfl, rfl⟩
  case round =>
    obtain ⟨k, hk, rfl, rfl⟩ := hrel
    have hx := sumTo_lt z HZ'.out k
    have hxz : Hid (nib (nib (sumTo z k ^^^ z k)) = sumTo z (k + 1)) := rfl
    generalize hxx : sumTo z k = x at hx hxz ⊢
    have HXX := Lib.hid hxx
    clear hxx
    by_cases hlt : k < n
    · obtain ⟨hz0, ad, rfl, hc⟩ := HZ.out k hlt
      have hX := bits_xor32 x (z k) hx (by omega)
      have hX2 : x ^^^ z k < 2 ^ 32 := Nat.xor_lt_two_pow hx (by omega)
      go_wp2
      clear hX
      have HX := Lib.hid hxz
      generalize x ^^^ z k = y at hX2 HX ⊢
      go_loop [3, 16] (fun s i => ∃ j : Nat, j ≤ 2 ∧ i = .int .i64 j ∧ s = .int .u32 (nibs j y : Nat)) (fun _ i => 2 - (intOf i).toNat)
      case atStart => exact ⟨0, by omega, rfl, rfl⟩
      case round =>
        obtain ⟨j, hj, rfl, rfl⟩ := hrel
        have hs := nibs_lt j y hX2
        generalize hgs : nibs j y = s at hs ⊢
        have hgs' := Lib.hid hgs
        clear hgs
        by_cases hjl : j < 2
        · have hA := bits_and15 s hs
          have h16 : s % 16 < 16 := Nat.mod_lt _ (by omega)
          have hcell := HN.out (s % 16) h16
          go_wp2
          have e := bits_xor32 (s / 16) (nibN.getD (s % 16) 0) (by omega) (nibN_lt _)
          have e2 : nibs (j + 1) y = nib s := by rw [nibs, hgs'.out]
          refine ⟨⟨j + 1, by omega, by go_num, ?_⟩, by simp [intOf]; omega⟩
          rw [e2]
          unfold nib
          rw [← e]
          simp
        · have hj2 : j = 2 := by omega
          subst hj2
          have hfin : s = sumTo z (k + 1) := by rw [← hgs'.out]; exact HX.out.out
          clear hjl hgs'
          go_wp2
          exact ⟨⟨k + 1, by omega, by go_num, by rw [hfin]⟩, by simp [intOf]; omega⟩
    · have hkn : k = n := by omega
      subst hkn
      go_wp2
      go_ret
      exact ⟨ret_u32 (by rw [HXX.out]; exact flip32 x hx), rfl⟩
end Go.Proofs.YtdgcafohfedbhaaDoor
