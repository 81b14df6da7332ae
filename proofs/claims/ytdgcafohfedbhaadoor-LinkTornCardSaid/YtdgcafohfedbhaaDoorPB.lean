import Derived.Test.YtdgcafohfedbhaaDoorPQ
import Derived.Laws.Bits64b
namespace Go.Proofs.YtdgcafohfedbhaaDoor.K
open Go.RowKit Go.Joins
attribute [local go_sem] Oper.semAt_some

theorem or_more (d : Nat) (h : d < 128) : d ||| 128 = d + 128 := by
  rw [Nat.or_comm]
  have := Nat.two_pow_add_eq_or_of_lt (i := 7) h 1
  simpa [Nat.add_comm] using this.symm

theorem bits_and127 (a : Nat) (ha : a < 18446744073709551616) : bits .and .u64 (a : Int) 127 = ((a % 128 : Nat) : Int) := by
  have := bits_and_u64_nat a 127 ha (by decide)
  rw [show ((127 : Nat) : Int) = 127 from rfl] at this
  rw [this, Nat.and_two_pow_sub_one_eq_mod a 7]
theorem nn_le (n k : Nat) : nn n k ≤ n := by rw [nn_div]; exact Nat.div_le_self _ _
set_option maxRecDepth 100000 in
set_option maxHeartbeats 4000000 in
/-- the digits, one by one, the lowest first -/
theorem groups_any (l m n : Nat) (hn : n < 9223372036854775808) (b : Nat) (J Jm : Nat → World → Prop)
    (hs : ∀ i W, J i W → W.heap[b]? = some (.cells #[.int .u64 (nn n i : Int)] 63 (0, 0)))
    (hm : ∀ i W, Jm i W → W.heap[b]? = some (.cells #[.int .u64 (nn n i : Int)] 63 (0, 0)))
    (hY : ∀ i W, i < len n → J i W → YieldAt Fence.wide m Tryd.prog l #[.int .i64 (i : Int), .int .u8 ((nn n i % 128 : Nat) : Int)] W fun e W' => e = .returned (.bool true) ∧ Jm i W')
    (hN : ∀ i W, i + 1 < len n → Jm i W → J (i + 1) (W.setCell ⟨b, 0, none⟩ (.int .u64 (nn n (i + 1) : Int))))
    (w : World) (h0 : J 0 w) :
    Calls Tryd.prog 36 #[.func (.yield l) #[] #[], .pointer (some ⟨b, 0, none⟩)] w fun e W' => e = .returned (.tuple #[]) ∧ Jm (len n - 1) W' := by
  refine (callsIn_wide (n := m + 1)).1 ?_
  refine callsIn_of_wp Tryd.func36 rfl trivial ?_ rfl
  simp only [Tryd.ntmps36, List.size_toArray, List.length_cons, List.length_nil, Nat.reduceAdd, Nat.reduceSub, Array.replicate_succ, Array.replicate_zero, List.push_toArray, List.append_toArray, List.nil_append, List.cons_append]
  have HS := Lib.hid hs
  have HM := Lib.hid hm
  have HY := Lib.hid hY
  have HNX := Lib.hid hN
  have hpos := len_pos n
  have hle := len_le 8 n (by simp; omega)
  clear hs hm hY hN
  gi_wp2
  gi_loopw [3] (fun i wr => ∃ k : Nat, k < len n ∧ i = .int .i64 k ∧ J k wr) (fun i _ => len n - (intOf i).toNat)
  case atStart => exact ⟨0, hpos, rfl, h0⟩
  case round =>
    obtain ⟨k, hk, rfl, hJ⟩ := hrel
    have c0 := HS.out k wr hJ
    have c1 : wr.cell? ⟨b, 0, none⟩ = some (.int .u64 (nn n k : Int)) := by simp [World.cell?, c0]
    have HJ := Lib.hid hJ
    clear hJ c0
    obtain ⟨fn, tmps, assign, body, hy, hR⟩ := HY.out k wr hk HJ.out
    have hlt := nn_lt n k hk
    have hnl := nn_le n k
    have hb := bits_and127 (nn n k) (by omega)
    have hb2 : ((nn n k % 128 : Nat) : Int) % 256 = ((nn n k % 128 : Nat) : Int) := by omega
    have hsucc : nn n (k + 1) = nn n k / 128 := rfl
    generalize nn n k % 128 = dg at *
    gi_wp2_with fail
    refine hR.mono ?_
    rintro e W' ⟨rfl, h⟩
    have d0 := HM.out k W' h
    have d1 : W'.cell? ⟨b, 0, none⟩ = some (.int .u64 (nn n k : Int)) := by simp [World.cell?, d0]
    have d2 : W'.frozen? ⟨b, 0, none⟩ = false := by simp [World.frozen?, d0]
    have H := Lib.hid h
    clear h hy hR d0 c1
    by_cases hl : nn n k < 128
    · have hl1 : (nn n k : Int) < 128 := by omega
      have he : Hid (k = len n - 1) := (by have := hlt.1 hl; omega : k = len n - 1)
      clear hlt hsucc hnl hb hb2
      gi_wp2
      refine bodyPost_ret (results_none rfl _ _ _) rfl ⟨rfl, ?_⟩
      rw [← he.out]; exact H.out
    · have hl1 : ¬ (nn n k : Int) < 128 := by omega
      have hk2 : k + 1 < len n := by
        rcases Nat.lt_or_ge (k + 1) (len n) with h | h
        · exact h
        · exact absurd (hlt.2 (by omega)) hl
      have HN2 := Lib.hid (HNX.out k W' hk2 H.out)
      rw [hsucc] at HN2
      clear hlt hsucc hb hb2 hl
      generalize nn n k = x at *
      gi_wp2
      exact ⟨⟨k + 1, hk2, by go_num, HN2.out⟩, by simp [intOf]; omega⟩
end Go.Proofs.YtdgcafohfedbhaaDoor.K
