import Derived.Test.YtdgcafohfedbhaaDoorPN
namespace Go.Proofs.YtdgcafohfedbhaaDoor.K
open Go.RowKit Go.Joins
attribute [local go_sem] Oper.semAt_some
set_option linter.unusedVariables false
set_option linter.unusedSimpArgs false

theorem TouchB.trans {g B : Nat} {w w1 w2 : World} (h : TouchB g B w w1) (k : TouchB g B w1 w2) : TouchB g B w w2 :=
  ⟨k.os.trans h.os, k.tape.trans h.tape, k.output.trans h.output, Nat.le_trans h.size k.size, fun i hi hg => (k.block i hi hg).trans (h.block i hi hg)⟩
theorem up_length (n : Nat) (hn : n < 9223372036854775808) : (up n).length ≤ 9 := by
  unfold up
  rw [List.length_reverse, dg_length]
  exact len_le 8 n (by simp; omega)

/-- behind an append onto the coil's row and the store of the new slice -/
theorem coil_grow {c B n : Nat} {b2 b3 : List Nat} {ao ao' : Option Addr} {cap cap' : Nat} {w0 w1 w2 w3 : World} (hv : w1.heap[c]? = some (.cells #[.slice ao b2.length cap] 45 (0, 0))) (ho : w1.ownsRow B 5 1 (.slice ao b2.length cap) b2.length (byts b2)) (ht : TouchB c B w0 w1) (hB : B ≤ w0.heap.size) (hcB : c < B)
    (h12 : Below w1.heap.size w1 w2)
    (hn : b3.length = n) (ho3 : w3.ownsRow B 5 1 (.slice ao' n cap') n (byts b3)) (hg : w2.grownBy w3 (Value.slice ao b2.length cap).ownBlock) :
    w3.cell? ⟨c, 0, none⟩ = some (.slice ao b2.length cap) ∧ w3.frozen? ⟨c, 0, none⟩ = false ∧ CoilAt (w3.setCell ⟨c, 0, none⟩ (.slice ao' n cap')) B c b3 ∧ TouchB c B w0 (w3.setCell ⟨c, 0, none⟩ (.slice ao' n cap')) := by
  have hcl : c < w1.heap.size := (Array.getElem?_eq_some_iff.1 hv).1
  have hcl2 : w1.heap.size ≤ w2.heap.size := h12.size
  have hne : ∀ k, k < B → some k ≠ (Value.slice ao b2.length cap).ownBlock := fun k hk e => by have := (ho.lt k e.symm).1; omega
  have p3 : w3.heap[c]? = some (.cells #[.slice ao b2.length cap] 45 (0, 0)) := by
    rw [hg.block c (by omega) (hne c hcB), below_blk h12 hv]
  subst hn
  refine ⟨by simp [World.cell?, p3], by simp [World.frozen?, p3], ⟨.slice ao' b3.length cap', ?_, ownsRow_setCell_below ho3 hcB _⟩, ⟨?_, ?_, ?_, ?_, fun k hk hkc => ?_⟩⟩
  · have := block_setCell (i := 0) p3 (.slice ao' b3.length cap')
    simpa using this
  · exact hg.os.trans (h12.os.trans ht.os)
  · exact hg.tape.trans (h12.tape.trans ht.tape)
  · exact hg.output.trans (h12.output.trans ht.output)
  · have h1 := hg.size
    have h2 := ht.size
    simp [World.setCell]; omega
  · have h2 := ht.size
    rw [Below.heap_setCell _ _ _ _ hkc, hg.block k (by omega) (hne k hk), h12.block k (by omega), ht.block k hk hkc]

set_option maxHeartbeats 8000000 in
theorem text_any (c B : Nat) (bs : List Nat) (s : ByteArray) (w : World) (hc : CoilAt w B c bs) (hcB : c < B) (hB : B ≤ w.heap.size) (hl : bs.length ≤ 900000) (hs : s.size ≤ 300000) :
    Calls Tryd.prog 14 #[.pointer (some ⟨c, 0, none⟩), .string s] w fun e w' => e = .returned (.tuple #[]) ∧ CoilAt w' B c (bs ++ up s.size ++ bsOf s) ∧ TouchB c B w w' := by
  obtain ⟨i5, hi5, hz5⟩ := Option.map_eq_some_iff.1 info5
  simp only [Prod.mk.injEq] at hz5
  have HC := Lib.hid hc
  have hul := up_length s.size (by omega)
  clear hc
  go_enter Tryd.func14, Tryd.ntmps14
  go_wp2_with fail
  refine (up_any c B bs s.size w (by omega) HC.out hcB hB (by omega)).mono ?_
  rintro e w1 ⟨rfl, hc1, ht1⟩
  obtain ⟨v, hv, hvo⟩ := hc1
  have HT1 := Lib.hid ht1
  have hs1 : w.heap.size ≤ w1.heap.size := ht1.size
  have hbl : (bs ++ up s.size).length ≤ 900009 := by simp; omega
  clear ht1
  generalize hb2 : bs ++ up s.size = b2 at *
  have HB2 := Lib.hid hb2
  clear hb2
  obtain ⟨ao, cap, rfl⟩ := own_form hvo
  have HO := Lib.hid hvo
  have c0 : w1.cell? ⟨c, 0, none⟩ = some (.slice ao b2.length cap) := by simp [World.cell?, hv]
  have HV := Lib.hid hv
  clear hv hvo
  go_wp2_with (first
    | (at_builtin
       refine Lib.wpList_append_own_string _ rfl _ _ 22 9 rfl B 5 i5 Tryd.underlying22 Tryd.underlying9 hi5 hz5.1 hz5.2.1 hz5.2.2 _ _ _ rfl HO.out s rfl (by unfold maxLen; omega) (by omega) (by omega) ?_)
    | fail)
  intro v' w2 hown hg _
  obtain ⟨ao', cap', rfl⟩ := own_form hown
  rw [strCells_byts, ← byts_append] at hown
  obtain ⟨q1, q2, q3, q4⟩ := coil_grow HV.out HO.out HT1.out hB hcB (Below.refl _ _) (by rw [List.length_append, bsOf_length]) hown hg
  have HQ := Lib.hid (⟨q3, q4⟩ : _ ∧ _)
  clear q3 q4 hown hg c0
  go_wp2
  go_end0
  rw [HB2.out]
  exact ⟨rfl, HQ.out.1, HQ.out.2⟩

/-- a mark's byte -/
def markB (y : Bool) : List Nat := if y then [1] else [0]
end Go.Proofs.YtdgcafohfedbhaaDoor.K
