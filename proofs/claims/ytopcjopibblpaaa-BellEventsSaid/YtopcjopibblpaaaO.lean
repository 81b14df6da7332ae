import Derived.Test.YtopcjopibblpaaaN
import Derived.StillTailTactics
import Derived.Deep.AppendLies
import Derived.Deep.RegionLaw
import Derived.Lib.SmallJoins
namespace Go.Proofs.Ytopcjopibblpaaa
open Go.RowKit Go.Joins

theorem setCell_self {w : World} {g i : Nat} {cs : Array Value} {t : TypeId} {fr : Nat × Nat} {v : Value} (h : w.heap[g]? = some (.cells cs t fr)) (hv : cs[i]? = some v) : w.setCell ⟨g, i, none⟩ v = w := by
  have hh : (w.setCell ⟨g, i, none⟩ v).heap = w.heap := by
    apply Array.ext_getElem?
    intro j
    by_cases e : j = g
    · subst e
      rw [block_setCell h v, h]
      have : cs.setIfInBounds i v = cs := by
        apply Array.ext_getElem?
        intro k
        rw [Array.getElem?_setIfInBounds]
        split
        · rename_i e; subst e
          rw [hv]; split
          · rfl
          · rename_i hn
            rw [Array.getElem?_eq_none (by omega)] at hv; cases hv
        · rfl
      rw [this]
    · exact Below.heap_setCell _ _ _ _ e
  have : w.setCell ⟨g, i, none⟩ v = { w with heap := (w.setCell ⟨g, i, none⟩ v).heap } := rfl
  rw [this, hh]

/-- the cells of the first k events -/
def evs (T : List Nat) : Nat → List Value
  | 0 => []
  | k + 1 => evs T k ++ [.int .i64 (10 * ((T.getD k 0 : Nat) : Int)), .int .i64 (2 - ((k % 2 : Nat) : Int))]
theorem evs_length (T : List Nat) (k : Nat) : (evs T k).length = k * 2 := by
  induction k with
  | zero => rfl
  | succ k ih => simp [evs, ih]; omega
theorem info53 : (Try.prog.info? 53).map (fun i => (i.zero, i.size, i.bytes)) = some (some (.agg #[.int .i64 0, .int .i64 0]), 2, 16) := by kernel_rfl

/-- below B, block g alone may have turned -/
structure TouchB (g B : Nat) (w w' : World) : Prop where
  os : w'.os = w.os
  tape : w'.tape = w.tape
  output : w'.output = w.output
  size : w.heap.size ≤ w'.heap.size
  block : ∀ k, k < B → k ≠ g → w'.heap[k]? = w.heap[k]?
namespace TouchB
variable {g B : Nat} {w w1 w2 : World}
theorem of_below (h : Below B w w1) (g : Nat) : TouchB g B w w1 := ⟨h.os, h.tape, h.output, h.size, fun k hk _ => h.block k hk⟩
theorem trans (h : TouchB g B w w1) (k : TouchB g B w1 w2) : TouchB g B w w2 :=
  ⟨k.os.trans h.os, k.tape.trans h.tape, k.output.trans h.output, Nat.le_trans h.size k.size, fun i hi hg => (k.block i hi hg).trans (h.block i hi hg)⟩
theorem set_ (h : TouchB g B w w1) (j : Nat) (u : Value) : TouchB g B w (w1.setCell ⟨g, j, none⟩ u) :=
  h.trans ⟨rfl, rfl, rfl, by simp [World.setCell], fun k _ hk => Below.heap_setCell _ _ _ _ hk⟩
theorem below (h : TouchB g B w w1) {n : Nat} (hg : n ≤ g) (hB : n ≤ B) : Below n w w1 := ⟨h.os, h.tape, h.output, h.size, fun k hk => h.block k (by omega) (by omega)⟩
theorem blk (h : TouchB g B w w1) {b : Nat} {o : Obj} (hb : w.heap[b]? = some o) (h1 : b < B) (h2 : b ≠ g) : w1.heap[b]? = some o := (h.block b h1 h2).trans hb
end TouchB

def HCb (bok bt g tn cap k x s : Nat) (w W : World) : Prop :=
  W.cell? ⟨bok, 0, none⟩ = some (.bool true) ∧ W.cell? ⟨bt, 0, none⟩ = some (.slice (some ⟨g, 0, none⟩) tn cap) ∧ W.cell? ⟨g, k, none⟩ = some (.int .i64 (x : Int)) ∧ W.cell? ⟨w.heap.size, 0, none⟩ = some (.int .i64 (10 * (x : Int))) ∧ W.cell? ⟨w.heap.size, 1, none⟩ = some (.int .i64 (2 - (s : Int)))

set_option maxHeartbeats 4000000 in
theorem cb_any (bl bok bt bm g cap : Nat) (vl : Value) (k tn x B : Nat) (xs : List Value) (m : Int) (w : World) (hk : k < tn) (hk1 : k ≤ 100) (hx : x ≤ 100)
    (hl : w.heap[bl]? = some (.cells #[vl] 44 (0, 0))) (hlo : w.ownsRow B 53 2 vl k xs) (hB : B ≤ w.heap.size) (hblB : bl < B)
    (hok : w.heap[bok]? = some (.cells #[.bool true] 4 (0, 0))) (hokB : bok < B) (hne : bok ≠ bl)
    (ht : w.cell? ⟨bt, 0, none⟩ = some (.slice (some ⟨g, 0, none⟩) tn cap)) (htx : w.cell? ⟨g, k, none⟩ = some (.int .i64 (x : Int)))
    (hm : w.cell? ⟨bm, 0, none⟩ = some (.int .i64 m)) (hmB : bm < B) (hml : bm ≠ bl) :
    Calls Try.prog 17 #[.agg #[.int .i64 (10 * (x : Int)), .int .i64 (2 - ((k % 2 : Nat) : Int))], .pointer (some ⟨bl, 0, none⟩), .pointer (some ⟨bok, 0, none⟩), .pointer (some ⟨bt, 0, none⟩), .pointer (some ⟨bm, 0, none⟩)] w fun e w' =>
      e = .returned (.bool (decide (((k : Int) + 1) < m))) ∧ (∃ v, w'.heap[bl]? = some (.cells #[v] 44 (0, 0)) ∧ w'.ownsRow B 53 2 v (k + 1) (xs ++ [.int .i64 (10 * (x : Int)), .int .i64 (2 - ((k % 2 : Nat) : Int))])) ∧ TouchB bl B w w' := by
  obtain ⟨ao, capl, rfl⟩ : ∃ ao cap, vl = .slice ao k cap := by
    rcases hlo.2 with ⟨rfl, rfl⟩ | ⟨g, cap, cur, rfl, _⟩
    · exact ⟨none, 0, rfl⟩
    · exact ⟨_, cap, rfl⟩
  have HA := Lib.hid ((Below.refl w.heap.size w).alloc (Nat.le_refl _) (.cells #[.int .i64 (10 * (x : Int)), .int .i64 (2 - ((k % 2 : Nat) : Int))] 53))
  have l0 : w.cell? ⟨bl, 0, none⟩ = some (.slice ao k capl) := by simp [World.cell?, hl]
  have o0 : w.cell? ⟨bok, 0, none⟩ = some (.bool true) := by simp [World.cell?, hok]
  have o1 : w.frozen? ⟨bok, 0, none⟩ = false := by simp [World.frozen?, hok]
  have l1 := below_cell HA.out l0
  have o2 := below_cell HA.out o0
  have t1 := below_cell HA.out ht
  have t2 := below_cell HA.out htx
  have m1 := below_cell HA.out hm
  have hbok : bok < w.heap.size := by omega
  have o3 : (w.alloc (.cells #[.int .i64 (10 * (x : Int)), .int .i64 (2 - ((k % 2 : Nat) : Int))] 53)).frozen? ⟨bok, 0, none⟩ = false := by rw [HA.out.frozen hbok]; exact o1
  have HL := Lib.hid (⟨hl, hlo, hok⟩ : _ ∧ _ ∧ _)
  have HS := Lib.hid (setCell_self (i := 0) (v := .bool true) hok rfl)
  have i1 : (0 : Int) ≤ (k : Int) := by omega
  have i2 : (k : Int) < (tn : Int) := by omega
  have q2 : Int.tmod (k : Int) 2 = ((k % 2 : Nat) : Int) := by rw [Int.tmod_eq_emod_of_nonneg (by omega)]; omega
  have q3 : (k : Int) % 2 = ((k % 2 : Nat) : Int) := by omega
  have q4 : (k % 2 : Nat) ≤ 1 := by omega
  clear hl hlo hok ht htx hm
  generalize (k % 2 : Nat) = s at *
  have hbl : bl < w.heap.size := by omega
  have e1 : (w.alloc (.cells #[.int .i64 (10 * (x : Int)), .int .i64 (2 - (s : Int))] 53)).cell? ⟨w.heap.size, 0, none⟩ = some (.int .i64 (10 * (x : Int))) := by simp
  have e2 : (w.alloc (.cells #[.int .i64 (10 * (x : Int)), .int .i64 (2 - (s : Int))] 53)).cell? ⟨w.heap.size, 1, none⟩ = some (.int .i64 (2 - (s : Int))) := by simp
  have HK0 : Hid (HCb bok bt g tn cap k x s w (w.alloc (.cells #[.int .i64 (10 * (x : Int)), .int .i64 (2 - (s : Int))] 53)).drew) := ⟨o2, t1, t2, e1, e2⟩
  have HK2 : Hid (HCb bok bt g tn cap k x s w ((w.setCell ⟨bok, 0, none⟩ (.bool true)).alloc (.cells #[.int .i64 (10 * (x : Int)), .int .i64 (2 - (s : Int))] 53)).drew) := by rw [HS.out]; exact HK0.out
  clear e1 e2
  go_enter Try.func17, Try.ntmps17
  go_wp2_with fail
  have r1 : IntKind.i64.wrap (10 * (x : Int)) = 10 * (x : Int) := by rw [IntKind.wrap_i64]; omega
  have r2 : IntKind.i64.wrap (2 - (s : Int)) = 2 - (s : Int) := by rw [IntKind.wrap_i64]; omega
  have r3 : IntKind.i64.wrap (s : Int) = (s : Int) := by rw [IntKind.wrap_i64]; omega
  go_region_held3 (fun w' => w'.cell? ⟨bok, 0, none⟩ = some (.bool true) ∧ w'.cell? ⟨bt, 0, none⟩ = some (.slice (some ⟨g, 0, none⟩) tn cap) ∧ w'.cell? ⟨g, k, none⟩ = some (.int .i64 (x : Int)) ∧ w'.cell? ⟨w.heap.size, 0, none⟩ = some (.int .i64 (10 * (x : Int))) ∧ w'.cell? ⟨w.heap.size, 1, none⟩ = some (.int .i64 (2 - (s : Int)))) (first | exact HK0.out | exact HK2.out) (fail)
  rw [HS.out]
  clear r1 r2 r3
  have HB2 := Lib.hid HA.out.drew
  obtain ⟨w2, hw2⟩ : ∃ w2, w2 = (w.alloc (.cells #[.int .i64 (10 * (x : Int)), .int .i64 (2 - (s : Int))] 53)).drew := ⟨_, rfl⟩
  have hb2 : w2.heap[bl]? = some (.cells #[.slice ao k capl] 44 (0, 0)) := by rw [hw2]; exact below_blk HB2.out HL.out.1
  have ho2 : w2.ownsRow B 53 2 (.slice ao k capl) k xs := by rw [hw2]; exact own_below HL.out.2.1 HB2.out
  have hk2 : w2.heap[bok]? = some (.cells #[.bool true] 4 (0, 0)) := by rw [hw2]; exact below_blk HB2.out HL.out.2.2
  have HBw : Hid (Below w.heap.size w w2) := by rw [hw2]; exact HB2.out
  have hsz : w2.heap.size = w.heap.size + 1 := by rw [hw2]; show (w.alloc _).heap.size = _; simp
  have hev : w2.heap[w.heap.size]? = some (.cells #[.int .i64 (10 * (x : Int)), .int .i64 (2 - (s : Int))] 53 (0, 0)) := by rw [hw2]; exact heap_alloc_new w _
  have hm2 : w2.cell? ⟨bm, 0, none⟩ = some (.int .i64 m) := by rw [hw2]; exact m1
  have hsz := Lib.hid hsz
  rw [← hw2]
  clear hw2 HB2 l0 o0 o1 l1 o2 t1 t2 m1 o3 HK0 HK2 HL HS HA
  rename_i hh
  clear hh
  have e1 : w2.cell? ⟨w.heap.size, 0, none⟩ = some (.int .i64 (10 * (x : Int))) := by simp [World.cell?, hev]
  have e2 : w2.cell? ⟨w.heap.size, 1, none⟩ = some (.int .i64 (2 - (s : Int))) := by simp [World.cell?, hev]
  have l1 : w2.cell? ⟨bl, 0, none⟩ = some (.slice ao k capl) := by simp [World.cell?, hb2]
  obtain ⟨i53, hi53, hz53⟩ := Option.map_eq_some_iff.1 info53
  simp only [Prod.mk.injEq] at hz53
  have HB3 := Lib.hid ((Below.refl w2.heap.size w2).alloc (Nat.le_refl _) (.cells #[.int .i64 (10 * (x : Int)), .int .i64 (2 - (s : Int))] 53))
  have HO := Lib.hid (own_below ho2 HB3.out)
  have HX := Lib.hid (⟨hb2, hk2, hm2⟩ : _ ∧ _ ∧ _)
  clear hb2 hk2 hm2 ho2 hev
  go_wp2_with (first
    | (at_builtin
       refine wpList_append_lies _ rfl _ _ 44 rfl B 53 i53 _ 2 16 Try.underlying44 hi53 hz53.1 hz53.2.1 hz53.2.2 rfl (by omega) _ _ _ rfl HO.out _ 1 1 [.int .i64 (10 * (x : Int)), .int .i64 (2 - (s : Int))] rfl rfl (World.news_of_block (heap_alloc_new w2 _)) (by intro u hu; simp at hu; rcases hu with rfl | rfl <;> rfl) (by omega) (by unfold maxLen; omega) (by omega) (by have := hsz.out; simp; omega) _ rfl ?_)
    | fail)
  intro g5 cap5 w5 hown5 hg5 hat5 hlt5
  have hB5 : Below B (w2.alloc (.cells #[.int .i64 (10 * (x : Int)), .int .i64 (2 - (s : Int))] 53)) w5 := (Below.refl _ _).grown hg5 (by have := hsz.out; simp; omega) (fun k hk => (HO.out.lt k hk).1)
  have HB5 := Lib.hid ((HBw.out.mono hB).trans ((HB3.out.mono (by have := hsz.out; omega)).trans hB5))
  have p5 : w5.heap[bl]? = some (.cells #[.slice ao k capl] 44 (0, 0)) := (hB5.block bl hblB).trans (below_blk HB3.out HX.out.1)
  have k5 : w5.heap[bok]? = some (.cells #[.bool true] 4 (0, 0)) := (hB5.block bok hokB).trans (below_blk HB3.out HX.out.2.1)
  have m5 : w5.cell? ⟨bm, 0, none⟩ = some (.int .i64 m) := (hB5.cell (p := ⟨bm, 0, none⟩) hmB).trans (below_cell HB3.out HX.out.2.2)
  have c5 : w5.cell? ⟨bl, 0, none⟩ = some (.slice ao k capl) := by simp [World.cell?, p5]
  have f5 : w5.frozen? ⟨bl, 0, none⟩ = false := by simp [World.frozen?, p5]
  have c6 : w5.cell? ⟨bok, 0, none⟩ = some (.bool true) := by simp [World.cell?, k5]
  have HH := Lib.hid (⟨hown5, p5⟩ : _ ∧ _)
  have n1 : ¬ bl = bok := fun e => hne e.symm
  have n2 : ¬ bl = bm := fun e => hml e.symm
  clear hown5 hg5 hat5 hlt5 hB5 p5 k5 HO HB3 HX e1 e2 l1
  go_wp2
  go_ret
  refine ⟨rfl, ⟨.slice (some ⟨g5, 0, none⟩) (k + 1) cap5, ?_, ownsRow_setCell_below HH.out.1 hblB _⟩, (TouchB.of_below HB5.out bl).set_ 0 _⟩
  have := block_setCell (i := 0) HH.out.2 (.slice (some ⟨g5, 0, none⟩) (k + 1) cap5)
  simpa using this
end Go.Proofs.Ytopcjopibblpaaa
