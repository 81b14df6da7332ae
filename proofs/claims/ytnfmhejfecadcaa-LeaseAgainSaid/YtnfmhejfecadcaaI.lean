import Derived.Test.YtnfmhejfecadcaaE
namespace Go.Proofs.Ytnfmhejfecadcaa
open Go.RowKit

/-- what one act answers -/
def oneS (s : LS) (t : Int) (x : AC) : LS × Int × Int × Int :=
  if x.K = 1 then askS s t x.W x.N
  else if x.K = 2 then ((renewS s t x.W x.E x.N).1, (renewS s t x.W x.E x.N).2.1, 0, (renewS s t x.W x.E x.N).2.2)
  else ((leaveS s x.W x.E).1, (leaveS s x.W x.E).2, 0, 0)

def RetOne (g : Nat) (t : Int) (r : LS × Int × Int × Int) (w : World) (e : Ending) (w' : World) : Prop :=
  e = .returned (.agg #[.int .i64 r.2.1, .int .i64 r.2.2.1, .int .i64 r.2.2.2]) ∧ LeaseAt w' g r.1 t ∧ Touch g w w'

def ResAt (w : World) (b : Nat) : Prop := w.heap[b]? = some (.cells #[.int .i64 0, .int .i64 0, .int .i64 0] 45 (0, 0))
theorem ResAt.cell {w : World} {b : Nat} (h : ResAt w b) :
    (w.cell? ⟨b, 0, none⟩ = some (.int .i64 0) ∧ w.cell? ⟨b, 1, none⟩ = some (.int .i64 0) ∧ w.cell? ⟨b, 2, none⟩ = some (.int .i64 0)) ∧ ∀ o, w.frozen? ⟨b, o, none⟩ = false := by
  unfold ResAt at h
  refine ⟨⟨?_, ?_, ?_⟩, ?_⟩
  all_goals first | (intro o; simp [World.frozen?, h]) | simp [World.cell?, h]
theorem ResAt.new (w : World) : ResAt (w.alloc (.cells #[.int .i64 0, .int .i64 0, .int .i64 0] 45)) w.heap.size := heap_alloc_new w _
theorem far3 {w : World} {b b' : Nat} {o : Obj} (h : w.heap[b]? = some o) (hne : b ≠ b') (v0 v1 v2 : Value) :
    (((w.setCell ⟨b', 0, none⟩ v0).setCell ⟨b', 1, none⟩ v1).setCell ⟨b', 2, none⟩ v2).heap[b]? = some o := by
  rw [Below.heap_setCell _ _ _ _ hne, Below.heap_setCell _ _ _ _ hne, Below.heap_setCell _ _ _ _ hne]
  exact h
theorem Touch.set3 {g b : Nat} {w w1 : World} (h : Touch g w w1) (hb : w.heap.size ≤ b) (v0 v1 v2 : Value) :
    Touch g w (((w1.setCell ⟨b, 0, none⟩ v0).setCell ⟨b, 1, none⟩ v1).setCell ⟨b, 2, none⟩ v2) := by
  refine ⟨h.os, h.tape, h.output, by simpa [World.setCell] using h.size, fun k hk hg => ?_⟩
  have hne : k ≠ b := by omega
  rw [Below.heap_setCell _ _ _ _ hne, Below.heap_setCell _ _ _ _ hne, Below.heap_setCell _ _ _ _ hne]
  exact h.block k hk hg

set_option maxRecDepth 100000 in
set_option maxHeartbeats 4000000 in
theorem act_any (g : Nat) (s : LS) (t K W E N : Int) (w : World) (hL : LeaseAt w g s t) :
    Calls Try.prog 16 #[.pointer (some ⟨g, 0, none⟩), .agg #[.int .i64 K, .int .i64 W, .int .i64 E, .int .i64 N]] w (RetOne g t (oneS s t ⟨K, W, E, N⟩) w) := by
  have hgl := hL.lt
  have hA := (ActAt.new w ⟨K, W, E, N⟩)
  have hA1 : ActAt ((w.alloc (.cells #[.int .i64 K, .int .i64 W, .int .i64 E, .int .i64 N] 33)).alloc (.cells #[.int .i64 0, .int .i64 0, .int .i64 0] 45)) w.heap.size ⟨K, W, E, N⟩ := below_blk ((Below.refl _ _).alloc (Nat.le_refl _) _) hA
  have hR1 := ResAt.new (w.alloc (.cells #[.int .i64 K, .int .i64 W, .int .i64 E, .int .i64 N] 33))
  rw [World.size_alloc] at hR1
  have hL1 := (hL.alloc (.cells #[.int .i64 K, .int .i64 W, .int .i64 E, .int .i64 N] 33)).alloc (.cells #[.int .i64 0, .int .i64 0, .int .i64 0] 45)
  have hT1 : Touch g w _ := ((Touch.refl g w).alloc (.cells #[.int .i64 K, .int .i64 W, .int .i64 E, .int .i64 N] 33)).alloc (.cells #[.int .i64 0, .int .i64 0, .int .i64 0] 45)
  by_cases k1 : K = 1
  · subst k1
    rw [show oneS s t ⟨1, W, E, N⟩ = askS s t W N from by simp [oneS]]
    clear hA hL
    have hc := ask_any g s t W N _ hL1
    generalize hq : askS s t W N = r at hc ⊢
    clear hq
    obtain ⟨s', u, v, cd⟩ := r
    have HC := Lib.hid hc
    clear hc
    go_enter Try.func16, Try.ntmps16
    go_wp2_with fail
    refine HC.out.mono ?_
    rintro e w1 ⟨rfl, hL2, hT2⟩
    have hR2 : ResAt w1 (w.heap.size + 1) := hT2.blk hR1 (by omega)
    have hT3 : Touch g w w1 := hT1.trans hT2
    clear hA1 hR1 hL1 hT1 hT2 HC
    have HL2 := Lib.hid hL2
    have HR2 := Lib.hid hR2
    obtain ⟨⟨b0, b1, b2⟩, bf⟩ := hR2.cell
    have _hlt1 : w.heap.size + 1 < w1.heap.size := cell_lt b0
    clear hL2 hR2
    go_wp2
    refine bodyPost_ret (v := .agg #[.int .i64 u, .int .i64 v, .int .i64 cd]) (by simp [results, Try.results16, go_sem, b0, b1, b2]) rfl ⟨rfl, far3 HL2.out (by omega) _ _ _, hT3.set3 (by omega) _ _ _⟩
  · by_cases k2 : K = 2
    · subst k2
      rw [show oneS s t ⟨2, W, E, N⟩ = ((renewS s t W E N).1, (renewS s t W E N).2.1, 0, (renewS s t W E N).2.2) from by simp [oneS]]
      clear hA hL
      have hc := renew_any g s t W E N _ hL1
      generalize hq : renewS s t W E N = r at hc ⊢
      clear hq
      obtain ⟨s', u, cd⟩ := r
      have HC := Lib.hid hc
      clear hc
      go_enter Try.func16, Try.ntmps16
      go_wp2_with fail
      refine HC.out.mono ?_
      rintro e w1 ⟨rfl, hL2, hT2⟩
      have hR2 : ResAt w1 (w.heap.size + 1) := hT2.blk hR1 (by omega)
      have hT3 : Touch g w w1 := hT1.trans hT2
      clear hA1 hR1 hL1 hT1 hT2 HC
      have HL2 := Lib.hid hL2
      have HR2 := Lib.hid hR2
      obtain ⟨⟨b0, b1, b2⟩, bf⟩ := hR2.cell
      have _hlt1 : w.heap.size + 1 < w1.heap.size := cell_lt b0
      clear hL2 hR2
      go_wp2
      refine bodyPost_ret (v := .agg #[.int .i64 u, .int .i64 0, .int .i64 cd]) (by simp [results, Try.results16, go_sem, b0, b1, b2]) rfl ⟨rfl, far3 HL2.out (by omega) _ _ _, hT3.set3 (by omega) _ _ _⟩
    ·
      rw [show oneS s t ⟨K, W, E, N⟩ = ((leaveS s W E).1, (leaveS s W E).2, 0, 0) from by simp [oneS, k1, k2]]
      have q1 : (K == 1) = false := by simpa using k1
      have q2 : (K == 2) = false := by simpa using k2
      clear hA hL k1 k2
      have hc := leave_any g s t W E _ hL1
      generalize hq : leaveS s W E = r at hc ⊢
      clear hq
      obtain ⟨s', cd⟩ := r
      have HC := Lib.hid hc
      clear hc
      go_enter Try.func16, Try.ntmps16
      go_wp2_with fail
      refine HC.out.mono ?_
      rintro e w1 ⟨rfl, hL2, hT2⟩
      have hR2 : ResAt w1 (w.heap.size + 1) := hT2.blk hR1 (by omega)
      have hT3 : Touch g w w1 := hT1.trans hT2
      clear hA1 hR1 hL1 hT1 hT2 HC
      have HL2 := Lib.hid hL2
      have HR2 := Lib.hid hR2
      obtain ⟨⟨b0, b1, b2⟩, bf⟩ := hR2.cell
      have _hlt1 : w.heap.size + 1 < w1.heap.size := cell_lt b0
      clear hL2 hR2
      go_wp2
      refine bodyPost_ret (v := .agg #[.int .i64 cd, .int .i64 0, .int .i64 0]) (by simp [results, Try.results16, go_sem, b0, b1, b2]) rfl ⟨rfl, far3 HL2.out (by omega) _ _ _, hT3.set3 (by omega) _ _ _⟩
end Go.Proofs.Ytnfmhejfecadcaa
