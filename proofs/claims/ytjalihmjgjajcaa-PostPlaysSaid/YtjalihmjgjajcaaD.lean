import Derived.Test.YtjalihmjgjajcaaC
import Derived.Lib.SliceRun
import Derived.Laws.IdiomCopy
namespace Go.Proofs.Ytjalihmjgjajcaa
open Go.RowKit Go.Joins

/-! ### what a block holds behind a run of stores -/
theorem block_setCells {g : Nat} {t : TypeId} {fr : Nat × Nat} : ∀ (vs : List Value) (o : Nat) (w : World) (cs : Array Value), w.heap[g]? = some (.cells cs t fr) →
    ∃ cs', (w.setCells g o vs).heap[g]? = some (.cells cs' t fr) ∧ cs'.size = cs.size ∧ (∀ j, (j < o ∨ o + vs.length ≤ j) → cs'[j]? = cs[j]?) ∧ (∀ j, j < vs.length → o + j < cs.size → cs'[o + j]? = vs[j]?)
  | [], o, w, cs, h => ⟨cs, h, rfl, fun _ _ => rfl, fun j hj => by simp at hj⟩
  | v :: r, o, w, cs, h => by
    obtain ⟨cs', h1, h2, h3, h4⟩ := block_setCells r (o + 1) (w.setCell ⟨g, o, none⟩ v) _ (block_setCell h v)
    refine ⟨cs', h1, by simpa using h2, fun j hj => ?_, fun j hj _ => ?_⟩
    · rw [h3 j (by simp at hj; omega), Array.getElem?_setIfInBounds_ne (by simp at hj; omega)]
    · cases j with
      | zero =>
        rw [Nat.add_zero, h3 o (by omega), Array.getElem?_setIfInBounds_self_of_lt (by omega)]
        rfl
      | succ j =>
        have := h4 j (by simpa using hj) (by simp; omega)
        rw [show o + (j + 1) = o + 1 + j by omega, this]
        rfl

theorem below_cells {B : Nat} {a : World} (b : Nat) (hb : B ≤ b) : ∀ (vs : List Value) (o : Nat) {w : World}, Below B a w → Below B a (w.setCells b o vs)
  | [], _, _, h => h
  | _ :: r, o, _, h => below_cells b hb r (o + 1) (h.setCell hb _)

theorem take_of_get {cs : Array Value} {n : Nat} {xs : List Value} (hl : xs.length = n) (h : ∀ j, j < n → cs[j]? = xs[j]?) : cs.toList.take n = xs := by
  apply List.ext_getElem?
  intro j
  rw [List.getElem?_take]
  by_cases hj : j < n
  · rw [if_pos hj, ← h j hj]; simp
  · rw [if_neg hj, List.getElem?_eq_none (by omega)]

theorem zero31 (w : World) : (zeroValue 31).run Try.prog w = .ok (.agg #[.int .i64 0, .int .i64 0, .int .i64 0]) w := by kernel_rfl
def zs3 : List Value := [.int .i64 0, .int .i64 0, .int .i64 0]
theorem clear_one (w : World) (ty : TypeId) (b o c : Nat)
    (hc : ∀ j, j < 3 → (w.cell? ⟨b, o + j, none⟩).isSome = true) (hf : ∀ j, j < 3 → w.frozen? ⟨b, o + j, none⟩ = false) :
    (Builtin.clear_ #[59] ty #[.slice (some ⟨b, o, none⟩) 1 c]).run Try.prog w = .ok (.tuple #[]) (w.setCells b o zs3) := by
  have hzc : (Builtin.zeroCells (Value.agg #[.int .i64 0, .int .i64 0, .int .i64 0]).cells 1).toList = zs3 := by simp [Builtin.zeroCells, Value.cells, zs3, List.range_succ]
  have hst := run_storeCells_cells (P := Try.prog) b o zs3 0 w (by simpa [zs3] using hc) (by simpa [zs3] using hf) (by intro v hv; simp [zs3] at hv; first | (subst hv; rfl) | (rcases hv with rfl | rfl <;> rfl))
  simp only [Nat.add_zero] at hst
  simp [Builtin.clear_, run_underlying Try.underlying59, hzc, hst]

set_option maxHeartbeats 4000000 in
set_option maxRecDepth 1000000 in
theorem delete_any (B k q : Nat) (v : Value) (X Y Z : List Value) (w : World) (h : w.ownsRow B 31 3 v (k + 1 + q) (X ++ Y ++ Z)) (hX : X.length = k * 3) (hY : Y.length = 3) (h1 : ∀ u ∈ Z, u.oneCell' = true) :
    Calls Try.prog 26 #[v, .int .i64 k, .int .i64 (k + 1 : Int)] w fun e w' => ∃ v', e = .returned v' ∧ w'.ownsRow B 31 3 v' (k + q) (X ++ Z) ∧ Below B w w' := by
  obtain ⟨i0, hi, hzz⟩ := Option.map_eq_some_iff.1 info31
  simp only [Prod.mk.injEq] at hzz
  have hl := h.1
  have hZ : Z.length = q * 3 := by simp at hl; omega
  rcases h.2 with ⟨_, e0⟩ | ⟨g, cap, cur, rfl, hB, hg, hcap, hcm, hcs, htk⟩
  · omega
  -- the cells
  have hcur : ∀ j, j < (k + 1 + q) * 3 → cur[j]? = (X ++ Y ++ Z)[j]? := fun j hj => by
    rw [← htk, List.getElem?_take, if_pos hj]; simp
  have hgd : w.drew.heap[g]? = some (.cells cur 31 (0, 0)) := hg
  have hcell : ∀ j, w.drew.cell? ⟨g, j, none⟩ = cur[j]? := fun j => by simp [World.cell?, hgd]
  have hfree : ∀ j, w.drew.frozen? ⟨g, j, none⟩ = false := fun j => by simp [World.frozen?, hgd]
  obtain ⟨A, hA, hsrc⟩ : ∃ A : Addr, (if cap = k + 1 then some (⟨g, 0, none⟩ : Addr) else some ⟨g, (k + 1) * 3, none⟩) = some A ∧ Hid (∀ t u, Z[t]? = some u → w.drew.cell? (A.add t) = some u) := by
    by_cases hck : cap = k + 1
    · refine ⟨⟨g, 0, none⟩, by simp [hck], fun t u hu => ?_⟩
      have h0 : Z.length = 0 := by omega
      rw [List.length_eq_zero_iff.1 h0] at hu
      simp at hu
    · refine ⟨⟨g, (k + 1) * 3, none⟩, by simp [hck], fun t u hu => ?_⟩
      have ht := (List.getElem?_eq_some_iff.1 hu).1
      rw [Addr.add_lit, hcell, hcur _ (by omega), List.getElem?_append_right (by simp; omega)]
      rw [← hu]; congr 1; simp; omega
  have s1 : Hid (Z.length = q * 3) := hZ
  have s2 : Hid (∀ u ∈ Z, u.oneCell' = true) := h1
  have s3 : Hid (∀ t, t < Z.length → (w.drew.cell? ⟨g, 0 + k * 3 + t, none⟩).isSome = true ∧ w.drew.frozen? ⟨g, 0 + k * 3 + t, none⟩ = false) := by
    intro t ht
    refine ⟨?_, hfree _⟩
    rw [hcell, Array.getElem?_eq_getElem (by omega)]; rfl
  obtain ⟨cs1, a1, a2, a3, a4⟩ := block_setCells (g := g) (t := 31) (fr := (0, 0)) Z (0 + k * 3) w.drew cur hg
  obtain ⟨W1, hW1⟩ : ∃ W1, W1 = w.drew.setCells g (0 + k * 3) Z := ⟨_, rfl⟩
  rw [← hW1] at a1
  have hcl : ∀ ty, (Builtin.clear_ #[59] ty #[.slice (some ⟨g, (k + q) * 3, none⟩) 1 (cap - (k + q))]).run Try.prog W1 = .ok (.tuple #[]) (W1.setCells g ((k + q) * 3) zs3) :=
    fun ty => clear_one W1 ty g _ _ (fun j hj => by simp [World.cell?, a1]; omega) (fun j hj => by simp [World.frozen?, a1])
  obtain ⟨cs2, b1, b2, b3, b4⟩ := block_setCells (g := g) (t := 31) (fr := (0, 0)) zs3 ((k + q) * 3) W1 cs1 a1
  have HE : Hid ((W1.setCells g ((k + q) * 3) zs3).ownsRow B 31 3 (.slice (some ⟨g, 0, none⟩) (k + q) cap) (k + q) (X ++ Z)) := by
    refine ⟨by simp [hX, hZ]; omega, .inr ⟨g, cap, cs2, rfl, hB, b1, by omega, hcm, by omega, ?_⟩⟩
    refine take_of_get (by simp [hX, hZ]; omega) (fun j hj => ?_)
    rw [b3 j (.inl hj)]
    by_cases hjk : j < k * 3
    · rw [a3 j (.inl (by omega)), hcur j (by omega), List.getElem?_append_left (by simp; omega), List.getElem?_append_left (by omega), List.getElem?_append_left (by omega)]
    · have := a4 (j - k * 3) (by omega) (by omega)
      rw [show 0 + k * 3 + (j - k * 3) = j by omega] at this
      rw [this, List.getElem?_append_right (by omega), hX]
  have HB : Hid (Below B w (W1.setCells g ((k + q) * 3) zs3)) := by
    rw [hW1]
    exact below_cells g hB zs3 _ (below_cells g hB Z _ (Below.refl B w).drew)
  have HW : Hid (W1 = w.drew.setCells g (0 + k * 3) Z) := hW1
  have j1 : (0 : Int) ≤ (k : Int) := by omega
  have j2 : (k : Int) + 1 ≤ (cap : Int) := by omega
  have j3 : ((k : Int) + 1).toNat = k + 1 := by omega
  have j4 : (k : Int) ≤ (k : Int) + 1 := by omega
  have j5 : k + 1 + q - (k + 1) = q := by omega
  have j6 : ((k : Int) == (k : Int) + 1) = false := by simp; omega
  have j7 : (k : Int) + 1 ≤ ((k + 1 + q : Nat) : Int) := by omega
  have j8 : k + 1 + q - (k + q) = 1 := by omega
  have j0 : k ≤ cap := by omega
  have j10 : k + 1 ≤ cap := by omega
  have j11 : (0 : Int) ≤ (k : Int) + 1 ∧ (k : Int) + 1 ≤ (k : Int) + 1 + (q : Int) := by omega
  have j9 : ¬ cap = k + q := by omega
  clear hgd h hl hX hY h1 hcur hcell hfree a1 a2 a3 a4 b1 b2 b3 b4 hW1 hg htk hcs hZ
  go_enter Try.func26, Try.ntmps26
  go_wp2_with fail
  go_region_law (refine step_append_room rfl (.tmp 22) (.tmp 25) 59 rfl 31 i0 3 Try.underlying59 hi hzz.2.1 g 0 k cap (by simp [Act.eval, Act.put]) A q (cap - (k + 1)) Z (by simp [Act.eval, Act.put]) s1.out hsrc.out s2.out (by omega) s3.out ?_; rw [← HW.out])
  go_wp2
  go_ret
  exact ⟨_, rfl, HE.out, HB.out⟩
end Go.Proofs.Ytjalihmjgjajcaa
