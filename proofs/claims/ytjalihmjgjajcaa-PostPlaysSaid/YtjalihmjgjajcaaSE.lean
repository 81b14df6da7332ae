import Derived.Test.YtjalihmjgjajcaaSC
namespace Go.Proofs.Ytjalihmjgjajcaa.S
open Go.RowKit Go.Joins
open Go.Proofs.Ytjalihmjgjajcaa (Touch below_blk own_below plN plN_lt plN_eq ret_ib block_setCells below_cells take_of_get cell_block)
theorem zero48 (w : World) : (zeroValue 48).run Try.prog w = .ok (.agg #[.int .i64 0, .int .i64 0, .string ⟨#[]⟩]) w := by kernel_rfl
def zs3 : List Value := [.int .i64 0, .int .i64 0, .string ⟨#[]⟩]
theorem clear_one (w : World) (ty : TypeId) (b o c : Nat)
    (hc : ∀ j, j < 3 → (w.cell? ⟨b, o + j, none⟩).isSome = true) (hf : ∀ j, j < 3 → w.frozen? ⟨b, o + j, none⟩ = false) :
    (Builtin.clear_ #[46] ty #[.slice (some ⟨b, o, none⟩) 1 c]).run Try.prog w = .ok (.tuple #[]) (w.setCells b o zs3) := by
  have hzc : (Builtin.zeroCells (Value.agg #[.int .i64 0, .int .i64 0, .string ⟨#[]⟩]).cells 1).toList = zs3 := by simp [Builtin.zeroCells, Value.cells, zs3, List.range_succ]
  have hst := run_storeCells_cells (P := Try.prog) b o zs3 0 w (by simpa [zs3] using hc) (by simpa [zs3] using hf) (by intro v hv; simp [zs3] at hv; first | (subst hv; rfl) | (rcases hv with rfl | rfl <;> rfl))
  simp only [Nat.add_zero] at hst
  simp [Builtin.clear_, run_underlying Try.underlying46, hzc, hst]

set_option maxHeartbeats 4000000 in
set_option maxRecDepth 1000000 in
theorem delete_any (B k q : Nat) (v : Value) (X Y Z : List Value) (w : World) (h : w.ownsRow B 48 3 v (k + 1 + q) (X ++ Y ++ Z)) (hX : X.length = k * 3) (hY : Y.length = 3) (h1 : ∀ u ∈ Z, u.oneCell' = true) :
    Calls Try.prog 31 #[v, .int .i64 k, .int .i64 (k + 1 : Int)] w fun e w' => ∃ v', e = .returned v' ∧ w'.ownsRow B 48 3 v' (k + q) (X ++ Z) ∧ Below B w w' := by
  obtain ⟨i0, hi, hzz⟩ := Option.map_eq_some_iff.1 info48
  simp only [Prod.mk.injEq] at hzz
  have hl := h.1
  have hZ : Z.length = q * 3 := by simp at hl; omega
  rcases h.2 with ⟨_, e0⟩ | ⟨g, cap, cur, rfl, hB, hg, hcap, hcm, hcs, htk⟩
  · omega
  -- the cells
  have hcur : ∀ j, j < (k + 1 + q) * 3 → cur[j]? = (X ++ Y ++ Z)[j]? := fun j hj => by
    rw [← htk, List.getElem?_take, if_pos hj]; simp
  have hgd : w.drew.heap[g]? = some (.cells cur 48 (0, 0)) := hg
  have hcell : ∀ j, w.drew.cell? ⟨g, j, none⟩ = cur[j]? := fun j => by simp [World.cell?, hgd]
  have hfree : ∀ j, w.drew.frozen? ⟨g, j, none⟩ = false := fun j => by simp [World.frozen?, hgd]
  obtain ⟨A, hA, hsrc⟩ : ∃ A : Addr, (if cap = k + 1 then some (⟨g, 0, none⟩ : Addr) else some ⟨g, (k + 1) * 3, none⟩) = some A ∧ Hid (∀ t u, Z[t]? = some u → w.drew.cell? (A.add t) = some u) := by
    by_cases hck : cap = k + 1
    · refine ⟨⟨g, 0, none⟩, by simp [hck], fun t u hu => ?_⟩
      have h0 : Z.length = 0 := by omega
      rw [List.length_eq_zero_iff.1 h0] at hu
      simp at hu
    · refine ⟨⟨g, (k + 1) * 3, none⟩, by simp [hck], fun t u hu => ?_⟩
      have ht := (List.getElem?_eq_some_iff.1 hu).1
      rw [Addr.add_lit, hcell, hcur _ (by omega), List.getElem?_append_right (by simp; omega)]
      rw [← hu]; congr 1; simp; omega
  have s1 : Hid (Z.length = q * 3) := hZ
  have s2 : Hid (∀ u ∈ Z, u.oneCell' = true) := h1
  have s3 : Hid (∀ t, t < Z.length → (w.drew.cell? ⟨g, 0 + k * 3 + t, none⟩).isSome = true ∧ w.drew.frozen? ⟨g, 0 + k * 3 + t, none⟩ = false) := by
    intro t ht
    refine ⟨?_, hfree _⟩
    rw [hcell, Array.getElem?_eq_getElem (by omega)]; rfl
  obtain ⟨cs1, a1, a2, a3, a4⟩ := block_setCells (g := g) (t := 48) (fr := (0, 0)) Z (0 + k * 3) w.drew cur hg
  obtain ⟨W1, hW1⟩ : ∃ W1, W1 = w.drew.setCells g (0 + k * 3) Z := ⟨_, rfl⟩
  rw [← hW1] at a1
  have hcl : ∀ ty, (Builtin.clear_ #[46] ty #[.slice (some ⟨g, (k + q) * 3, none⟩) 1 (cap - (k + q))]).run Try.prog W1 = .ok (.tuple #[]) (W1.setCells g ((k + q) * 3) zs3) :=
    fun ty => clear_one W1 ty g _ _ (fun j hj => by simp [World.cell?, a1]; omega) (fun j hj => by simp [World.frozen?, a1])
  obtain ⟨cs2, b1, b2, b3, b4⟩ := block_setCells (g := g) (t := 48) (fr := (0, 0)) zs3 ((k + q) * 3) W1 cs1 a1
  have HE : Hid ((W1.setCells g ((k + q) * 3) zs3).ownsRow B 48 3 (.slice (some ⟨g, 0, none⟩) (k + q) cap) (k + q) (X ++ Z)) := by
    refine ⟨by simp [hX, hZ]; omega, .inr ⟨g, cap, cs2, rfl, hB, b1, by omega, hcm, by omega, ?_⟩⟩
    refine take_of_get (by simp [hX, hZ]; omega) (fun j hj => ?_)
    rw [b3 j (.inl hj)]
    by_cases hjk : j < k * 3
    · rw [a3 j (.inl (by omega)), hcur j (by omega), List.getElem?_append_left (by simp; omega), List.getElem?_append_left (by omega), List.getElem?_append_left (by omega)]
    · have := a4 (j - k * 3) (by omega) (by omega)
      rw [show 0 + k * 3 + (j - k * 3) = j by omega] at this
      rw [this, List.getElem?_append_right (by omega), hX]
  have HB : Hid (Below B w (W1.setCells g ((k + q) * 3) zs3)) := by
    rw [hW1]
    exact below_cells g hB zs3 _ (below_cells g hB Z _ (Below.refl B w).drew)
  have HW : Hid (W1 = w.drew.setCells g (0 + k * 3) Z) := hW1
  have j1 : (0 : Int) ≤ (k : Int) := by omega
  have j2 : (k : Int) + 1 ≤ (cap : Int) := by omega
  have j3 : ((k : Int) + 1).toNat = k + 1 := by omega
  have j4 : (k : Int) ≤ (k : Int) + 1 := by omega
  have j5 : k + 1 + q - (k + 1) = q := by omega
  have j6 : ((k : Int) == (k : Int) + 1) = false := by simp; omega
  have j7 : (k : Int) + 1 ≤ ((k + 1 + q : Nat) : Int) := by omega
  have j8 : k + 1 + q - (k + q) = 1 := by omega
  have j0 : k ≤ cap := by omega
  have j10 : k + 1 ≤ cap := by omega
  have j11 : (0 : Int) ≤ (k : Int) + 1 ∧ (k : Int) + 1 ≤ (k : Int) + 1 + (q : Int) := by omega
  have j9 : ¬ cap = k + q := by omega
  clear hgd h hl hX hY h1 hcur hcell hfree a1 a2 a3 a4 b1 b2 b3 b4 hW1 hg htk hcs hZ
  go_enter Try.func31, Try.ntmps31
  go_wp2_with fail
  go_region_law (refine step_append_room rfl (.tmp 22) (.tmp 25) 46 rfl 48 i0 3 Try.underlying46 hi hzz.2.1 g 0 k cap (by simp [Act.eval, Act.put]) A q (cap - (k + 1)) Z (by simp [Act.eval, Act.put]) s1.out hsrc.out s2.out (by omega) s3.out ?_; rw [← HW.out])
  go_wp2
  go_ret
  exact ⟨_, rfl, HE.out, HB.out⟩


theorem post_below {w w' : World} {B p : Nat} {l : List LT} (h : PostAt w B p l) (hb : Below w.heap.size w w') : PostAt w' B p l := by
  obtain ⟨v, h1, h2⟩ := h
  exact ⟨v, below_blk hb h1, own_below h2 hb⟩

theorem post_le {w : World} {B B' p : Nat} {l : List LT} (h : PostAt w B p l) (hb : B' ≤ B) : PostAt w B' p l := by
  obtain ⟨v, h1, h2⟩ := h
  exact ⟨v, h1, ownsRow_le h2 hb⟩
theorem post_set_far {w : World} {B p b : Nat} {l : List LT} (h : PostAt w B p l) (hne : ¬ b = p) (hb : b < B) (j : Nat) (u : Value) : PostAt (w.setCell ⟨b, j, none⟩ u) B p l := by
  obtain ⟨v, h1, h2⟩ := h
  exact ⟨v, (Below.heap_setCell _ _ _ _ (fun e => hne e.symm)).trans h1, ownsRow_setCell_below h2 hb u⟩
theorem new_any (w : World) :
    Calls Try.prog 13 #[] w fun e w' => e = .returned (.pointer (some ⟨w.heap.size, 0, none⟩)) ∧ PostAt w' (w.heap.size + 1) w.heap.size [] ∧ Below w.heap.size w w' := by
  go_enter Try.func13, Try.ntmps13
  go_wp2
  go_ret
  exact ⟨rfl, ⟨_, heap_alloc_new w _, World.ownsRow_nil _ _ _ _⟩, (Below.refl _ w).alloc (Nat.le_refl _) _⟩

theorem len_any (B p : Nat) (l : List LT) (w : World) (h : PostAt w B p l) :
    Calls Try.prog 18 #[.pointer (some ⟨p, 0, none⟩)] w fun e w' => e = .returned (.int .i64 l.length) ∧ w' = w := by
  obtain ⟨v, hb, ho⟩ := h
  obtain ⟨ao, cap, rfl⟩ := own_forms ho
  have hc : w.cell? ⟨p, 0, none⟩ = some (.slice ao l.length cap) := by simp [World.cell?, hb]
  clear hb ho
  generalize l.length = n at hc ⊢
  go_enter Try.func18, Try.ntmps18
  go_wp2
  go_ret
  exact ⟨rfl, rfl⟩

theorem send_full (B p : Nat) (l : List LT) (a b : Int) (c : ByteArray) (w : World) (h : PostAt w B p l) (hm : l.length = 64) :
    Calls Try.prog 14 #[.pointer (some ⟨p, 0, none⟩), .int .i64 a, .int .i64 b, .string c] w fun e w' => e = .returned (.bool false) ∧ Below w.heap.size w w' := by
  have H := Lib.hid h
  have HM := Lib.hid hm
  clear h hm
  go_enter Try.func14, Try.ntmps14
  go_wp2_with fail
  refine (add_full B p l ⟨a, b, c⟩ _ H.out HM.out).mono ?_
  rintro e w' ⟨rfl, hb⟩
  have HB := Lib.hid hb
  clear hb
  go_wp2
  go_ret
  exact ⟨rfl, HB.out⟩
theorem send_room (B p : Nat) (l : List LT) (a b : Int) (c : ByteArray) (w : World) (h : PostAt w B p l) (hm : l.length < 64) :
    Calls Try.prog 14 #[.pointer (some ⟨p, 0, none⟩), .int .i64 a, .int .i64 b, .string c] w fun e w' => e = .returned (.bool true) ∧ PostAt w' w.heap.size p (l ++ [⟨a, b, c⟩]) ∧ Touch p w w' := by
  have H := Lib.hid h
  have HM := Lib.hid hm
  clear h hm
  go_enter Try.func14, Try.ntmps14
  go_wp2_with fail
  refine (add_room B p l ⟨a, b, c⟩ _ H.out HM.out).mono ?_
  rintro e w' ⟨rfl, hb⟩
  have HB := Lib.hid hb
  clear hb
  go_wp2
  go_ret
  exact ⟨rfl, HB.out⟩

theorem take_none (i : Int) (B p : Nat) (w : World) (h : PostAt w B p []) :
    Calls Try.prog 15 #[.pointer (some ⟨p, 0, none⟩), .int .i64 i] w fun e w' => e = .returned (.tuple #[.agg #[.int .i64 0, .int .i64 0, .string ⟨#[]⟩], .int .i64 5]) ∧ Below w.heap.size w w' := by
  have H := Lib.hid (post_below h ((Below.refl _ w).alloc (Nat.le_refl _) (.cells #[.int .i64 0, .int .i64 0, .string ⟨#[]⟩] 48)))
  clear h
  go_enter Try.func15, Try.ntmps15
  go_wp2_with fail
  refine (place_none i B p _ H.out).mono ?_
  rintro e w' ⟨rfl, rfl⟩
  go_wp2
  exact bodyPost_ret (v := .tuple #[.agg #[.int .i64 0, .int .i64 0, .string ⟨#[]⟩], .int .i64 5]) (by simp [results, Try.results15, go_sem]) rfl ⟨rfl, ((Below.refl _ w).alloc (Nat.le_refl _) _).alloc (by simp) _⟩

theorem twice_none (i : Int) (B p : Nat) (w : World) (h : PostAt w B p []) :
    Calls Try.prog 16 #[.pointer (some ⟨p, 0, none⟩), .int .i64 i] w fun e w' => e = .returned (.tuple #[.bool false, .int .i64 5]) ∧ w' = w := by
  have H := Lib.hid h
  clear h
  go_enter Try.func16, Try.ntmps16
  go_wp2_with fail
  refine (place_none i B p _ H.out).mono ?_
  rintro e w' ⟨rfl, rfl⟩
  go_wp2
  go_ret2
  exact ⟨rfl, rfl⟩

/-- the cells of letter k of a post -/
theorem post_cells {w : World} {B p : Nat} {a b : List LT} {x : LT} (h : PostAt w B p (a ++ x :: b)) :
    ∃ g cap, w.heap[p]? = some (.cells #[.slice (some ⟨g, 0, none⟩) (a ++ x :: b).length cap] 69 (0, 0)) ∧ w.ownsRow B 48 3 (.slice (some ⟨g, 0, none⟩) (a ++ x :: b).length cap) (a ++ x :: b).length (flat (a ++ x :: b)) ∧
      w.cell? ⟨g, a.length * 3, none⟩ = some (.int .i64 x.fr) ∧ w.cell? ⟨g, a.length * 3 + 1, none⟩ = some (.int .i64 x.to) ∧ w.cell? ⟨g, a.length * 3 + 2, none⟩ = some (.string x.what) := by
  obtain ⟨v, hb, ho⟩ := h
  obtain ⟨g, cap, rfl, _⟩ := ho.form (by simp; omega)
  obtain ⟨f0, f1, f2⟩ := flat_get (a ++ x :: b) a.length x (by simp)
  have hl : a.length * 3 + 2 < (flat (a ++ x :: b)).length := (List.getElem?_eq_some_iff.1 f2).1
  have hfl := flat_length (a ++ x :: b)
  exact ⟨g, cap, hb, ho, by rw [ho.cellAt _ (by omega)]; exact f0, by rw [ho.cellAt _ (by omega)]; exact f1, by rw [ho.cellAt _ (by omega)]; exact f2⟩

set_option maxHeartbeats 4000000 in
theorem twice_full (i : Int) (B p : Nat) (a b : List LT) (x : LT) (w : World) (h : PostAt w B p (a ++ x :: b)) (hk : plN i (a ++ x :: b).length = a.length) (hm : (a ++ x :: b).length = 64) :
    Calls Try.prog 16 #[.pointer (some ⟨p, 0, none⟩), .int .i64 i] w fun e w' => e = .returned (.tuple #[.bool false, .int .i64 0]) ∧ Below w.heap.size w w' := by
  have H := Lib.hid h
  have HK := Lib.hid hk
  have HM := Lib.hid hm
  obtain ⟨g, cap, hb, ho, c0, c1, c2⟩ := post_cells h
  have hc : w.cell? ⟨p, 0, none⟩ = some (.slice (some ⟨g, 0, none⟩) (a ++ x :: b).length cap) := by simp [World.cell?, hb]
  have hal : a.length < (a ++ x :: b).length := by simp
  have hal2 : (a.length : Int) < ((a ++ x :: b).length : Int) := by omega
  have hle : (a ++ x :: b).length ≤ 64 := by omega
  clear h hb ho hk hm
  generalize a ++ x :: b = L at *
  generalize hN : L.length = n at *
  have HL : Hid (L.length = n) := hN
  clear hN
  go_enter Try.func16, Try.ntmps16
  go_wp2_with fail
  refine (place_some i B p L _ H.out (by rw [HL.out]; omega) (by rw [HL.out]; exact hle)).mono ?_
  rintro e w' ⟨rfl, rfl⟩
  rw [HL.out, HK.out]
  go_wp2_with fail
  refine (add_full B p L x _ H.out (by rw [HL.out]; exact HM.out)).mono ?_
  rintro e w1 ⟨rfl, hE⟩
  have HE := Lib.hid hE
  clear hE c0 c1 c2 hc
  go_wp2
  go_ret2
  exact ⟨rfl, HE.out⟩

set_option maxHeartbeats 4000000 in
theorem twice_room (i : Int) (B p : Nat) (a b : List LT) (x : LT) (w : World) (h : PostAt w B p (a ++ x :: b)) (hk : plN i (a ++ x :: b).length = a.length) (hm : (a ++ x :: b).length < 64) :
    Calls Try.prog 16 #[.pointer (some ⟨p, 0, none⟩), .int .i64 i] w fun e w' => e = .returned (.tuple #[.bool true, .int .i64 0]) ∧ PostAt w' w.heap.size p ((a ++ x :: b) ++ [x]) ∧ Touch p w w' := by
  have H := Lib.hid h
  have HK := Lib.hid hk
  have HM := Lib.hid hm
  obtain ⟨g, cap, hb, ho, c0, c1, c2⟩ := post_cells h
  have hc : w.cell? ⟨p, 0, none⟩ = some (.slice (some ⟨g, 0, none⟩) (a ++ x :: b).length cap) := by simp [World.cell?, hb]
  have hal : a.length < (a ++ x :: b).length := by simp
  have hal2 : (a.length : Int) < ((a ++ x :: b).length : Int) := by omega
  have hle : (a ++ x :: b).length ≤ 64 := by omega
  clear h hb ho hk hm
  generalize a ++ x :: b = L at *
  generalize hN : L.length = n at *
  have HL : Hid (L.length = n) := hN
  clear hN
  go_enter Try.func16, Try.ntmps16
  go_wp2_with fail
  refine (place_some i B p L _ H.out (by rw [HL.out]; omega) (by rw [HL.out]; exact hle)).mono ?_
  rintro e w' ⟨rfl, rfl⟩
  rw [HL.out, HK.out]
  go_wp2_with fail
  refine (add_room B p L x _ H.out (by rw [HL.out]; exact HM.out)).mono ?_
  rintro e w1 ⟨rfl, hE⟩
  have HE := Lib.hid hE
  clear hE c0 c1 c2 hc
  go_wp2
  go_ret2
  exact ⟨rfl, HE.out⟩

set_option maxHeartbeats 4000000 in
set_option maxRecDepth 100000 in
theorem take_some (i : Int) (B p : Nat) (a b : List LT) (x : LT) (w : World) (h : PostAt w B p (a ++ x :: b)) (hk : plN i (a ++ x :: b).length = a.length) (hm : (a ++ x :: b).length ≤ 64) :
    Calls Try.prog 15 #[.pointer (some ⟨p, 0, none⟩), .int .i64 i] w fun e w' => e = .returned (.tuple #[.agg #[.int .i64 x.fr, .int .i64 x.to, .string x.what], .int .i64 0]) ∧ PostAt w' w.heap.size p (a ++ b) ∧ Touch p w w' := by
  have hpl : p < w.heap.size := by obtain ⟨v, hb, _⟩ := h; exact (Array.getElem?_eq_some_iff.1 hb).1
  have HB1 := Lib.hid ((Below.refl _ w).alloc (Nat.le_refl _) (.cells #[.int .i64 0, .int .i64 0, .string ⟨#[]⟩] 48))
  have H := Lib.hid (post_below h HB1.out)
  obtain ⟨g, cap, hb, ho, c0, c1, c2⟩ := post_cells H.out
  have hc : (w.alloc (.cells #[.int .i64 0, .int .i64 0, .string ⟨#[]⟩] 48)).cell? ⟨p, 0, none⟩ = some (.slice (some ⟨g, 0, none⟩) (a ++ x :: b).length cap) := by simp [World.cell?, hb]
  have hal : a.length < (a ++ x :: b).length := by simp
  have hal2 : (a.length : Int) < ((a ++ x :: b).length : Int) := by omega
  have HK := Lib.hid hk
  have HX : Hid ((a ++ x :: b).length = a.length + 1 + b.length ∧ flat (a ++ x :: b) = flat a ++ [.int .i64 x.fr, .int .i64 x.to, .string x.what] ++ flat b ∧ (a ++ b).length = a.length + b.length) := ⟨by simp; omega, by simp [flat], by simp⟩
  have HO := Lib.hid ho
  have HP := Lib.hid hb
  clear h hb ho hk
  generalize hL : a ++ x :: b = L at *
  clear hL
  generalize hN : L.length = n at *
  have HL : Hid (L.length = n) := hN
  clear hN
  have HW : Hid ((w.alloc (.cells #[.int .i64 0, .int .i64 0, .string ⟨#[]⟩] 48)).heap[w.heap.size]? = some (.cells #[.int .i64 0, .int .i64 0, .string ⟨#[]⟩] 48 (0, 0)) ∧ (w.alloc (.cells #[.int .i64 0, .int .i64 0, .string ⟨#[]⟩] 48)).heap.size = w.heap.size + 1) := ⟨heap_alloc_new w _, by simp⟩
  go_enter Try.func15, Try.ntmps15
  go_wp2_with fail
  refine (place_some i B p L _ H.out (by rw [HL.out]; omega) (by rw [HL.out]; exact hm)).mono ?_
  rintro e w' ⟨rfl, rfl⟩
  rw [HL.out, HK.out]
  generalize hw0 : w.alloc (.cells #[.int .i64 0, .int .i64 0, .string ⟨#[]⟩] 48) = w0 at *
  have HW0 := Lib.hid hw0
  clear hw0
  have B9 := (Below.refl w0.heap.size w0).alloc (Nat.le_refl _) (.cells #[.int .i64 x.fr, .int .i64 x.to, .string x.what] 48)
  have p9 := below_blk B9 HP.out
  have hc9 : (w0.alloc (.cells #[.int .i64 x.fr, .int .i64 x.to, .string x.what] 48)).cell? ⟨p, 0, none⟩ = some (.slice (some ⟨g, 0, none⟩) n cap) := by simp [World.cell?, p9]
  have HO9 := Lib.hid (own_below HO.out B9)
  have HP9 := Lib.hid p9
  have HB9 := Lib.hid B9
  clear p9 B9
  go_wp2_with fail
  have one : ∀ u ∈ flat L, u.oneCell' = true := flat_one L
  refine (clone_any B _ n _ _ HO9.out (by omega) one).mono ?_
  rintro e w1 ⟨v1, rfl, ho1, hb1⟩
  rw [HX.out.2.1] at ho1
  have HN : Hid (n = a.length + 1 + b.length) := HX.out.1
  rw [HN.out] at ho1
  have HO1 := Lib.hid ho1
  have HB2 := Lib.hid hb1
  clear ho1 hb1 one c0 c1 c2 hc hc9
  go_wp2_with fail
  refine (delete_any _ a.length b.length v1 _ _ _ _ HO1.out (flat_length a) rfl (flat_one b)).mono ?_
  rintro e w2 ⟨v2, rfl, ho2, hb2⟩
  obtain ⟨ao2, cap2, rfl⟩ := own_forms ho2
  have HO2 := Lib.hid ho2
  have HB3 := Lib.hid (HB2.out.trans hb2)
  have p0 := below_blk (HB9.out.trans (HB3.out.mono (by simp))) HP.out
  have p1 : w2.heap[w.heap.size]? = _ := below_blk (HB9.out.trans (HB3.out.mono (by simp))) HW.out.1
  have p2 : w2.heap[w0.heap.size]? = _ := below_blk HB3.out (heap_alloc_new w0 _)
  have hc0 : w2.cell? ⟨p, 0, none⟩ = some (.slice (some ⟨g, 0, none⟩) n cap) := by simp [World.cell?, p0]
  have hf0 : w2.frozen? ⟨p, 0, none⟩ = false := by simp [World.frozen?, p0]
  have hc1 : w2.cell? ⟨w0.heap.size, 0, none⟩ = some (.int .i64 x.fr) := by simp [World.cell?, p2]
  have hc2 : w2.cell? ⟨w0.heap.size, 1, none⟩ = some (.int .i64 x.to) := by simp [World.cell?, p2]
  have hc3 : w2.cell? ⟨w0.heap.size, 2, none⟩ = some (.string x.what) := by simp [World.cell?, p2]
  have hc4 : w2.cell? ⟨w.heap.size, 0, none⟩ = some (.int .i64 0) := by simp [World.cell?, p1]
  have hc5 : w2.cell? ⟨w.heap.size, 1, none⟩ = some (.int .i64 0) := by simp [World.cell?, p1]
  have hc6 : w2.cell? ⟨w.heap.size, 2, none⟩ = some (.string ⟨#[]⟩) := by simp [World.cell?, p1]
  have hf1 : ∀ j, w2.frozen? ⟨w.heap.size, j, none⟩ = false := fun j => by simp [World.frozen?, p1]
  have n1 : ¬ p = w0.heap.size := by have := HW.out.2; omega
  have n2 : ¬ p = w.heap.size := by omega
  have n3 : ¬ w0.heap.size = p := by omega
  have n4 : ¬ w.heap.size = p := by omega
  have HP2 := Lib.hid p0
  have HP3 := Lib.hid p1
  clear p0 p1 p2 ho2 hb2
  go_wp2_with fail
  have hsz : (w0.alloc (.cells #[.int .i64 x.fr, .int .i64 x.to, .string x.what] 48)).heap.size = w.heap.size + 2 := by have := HW.out.2; simp; omega
  have hP : PostAt (w2.setCell ⟨p, 0, none⟩ (.slice ao2 (a.length + b.length) cap2)) (w.heap.size + 1) p (a ++ b) := by
    refine post_set (B' := w.heap.size + 2) HP2.out ?_ (by omega) (by omega)
    have := HO2.out
    rw [hsz] at this
    rw [HX.out.2.2, flat_append]
    exact this
  have hT : Touch p w (w2.setCell ⟨p, 0, none⟩ (.slice ao2 (a.length + b.length) cap2)) :=
    (Touch.of_below ((HB1.out.trans (HB9.out.mono HB1.out.size)).trans (HB3.out.mono (by omega))) p).set_ 0 _
  refine bodyPost_ret (v := .tuple #[.agg #[.int .i64 x.fr, .int .i64 x.to, .string x.what], .int .i64 0]) (by simp [results, Try.results15, go_sem, hc4, hc5, hc6]) rfl ⟨rfl, ?_, ?_⟩
  · exact post_le (post_set_far (post_set_far (post_set_far hP n4 (by omega) 0 _) n4 (by omega) 1 _) n4 (by omega) 2 _) (by omega)
  · exact ((hT.set_far (by omega) 0 _).set_far (by omega) 1 _).set_far (by omega) 2 _


end Go.Proofs.Ytjalihmjgjajcaa.S
