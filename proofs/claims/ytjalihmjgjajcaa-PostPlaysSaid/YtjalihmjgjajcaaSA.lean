import Derived.Test.YtjalihmjgjajcaaF
namespace Go.Proofs.Ytjalihmjgjajcaa.S
open Go.RowKit Go.Joins
open Go.Proofs.Ytjalihmjgjajcaa (Touch below_blk own_below plN plN_lt plN_eq ret_ib block_setCells below_cells take_of_get cell_block)

theorem info48 : (Try.prog.info? 48).map (fun i => (i.zero, i.size, i.bytes)) = some (some (.agg #[.int .i64 0, .int .i64 0, .string ⟨#[]⟩]), 3, 32) := by kernel_rfl
theorem eqNil (g n cap : Nat) (wx : World) : (binOp .eql 46 (.slice (some ⟨g, 0, none⟩) n cap) (.slice none 0 0)).run Try.prog wx = .ok (.bool false) wx := by kernel_rfl
theorem eqNil2 (wx : World) : (binOp .eql 46 (.slice none 0 0) (.slice none 0 0)).run Try.prog wx = .ok (.bool true) wx := by kernel_rfl
set_option maxHeartbeats 4000000 in
theorem clone_any (B : Nat) (v : Value) (n : Nat) (xs : List Value) (w : World) (h : w.ownsRow B 48 3 v n xs) (hn : n ≤ 1000) (h1 : ∀ u ∈ xs, u.oneCell' = true) :
    Calls Try.prog 32 #[v] w fun e w' => ∃ v', e = .returned v' ∧ w'.ownsRow w.heap.size 48 3 v' n xs ∧ Below w.heap.size w w' := by
  obtain ⟨i0, hi, hzz⟩ := Option.map_eq_some_iff.1 info48
  simp only [Prod.mk.injEq] at hzz
  have hl := h.1
  rcases h.2 with ⟨rfl, hn0⟩ | ⟨g, cap, cur, rfl, hB, hg, hcap, hcm, hcs, htk⟩
  · subst hn0
    have hx : xs = [] := List.eq_nil_of_length_eq_zero (by simpa using hl)
    subst hx
    have q := eqNil2
    go_enter Try.func32, Try.ntmps32
    go_wp2
    go_ret
    exact ⟨_, rfl, World.ownsRow_nil _ _ _ _, Below.refl _ _⟩
  · have H := Lib.hid h
    have hE : (w.alloc (.cells #[] 48)).ownsRow w.heap.size 48 3 (.slice (some ⟨w.heap.size, 0, none⟩) 0 0) 0 [] :=
      ⟨rfl, .inr ⟨w.heap.size, 0, #[], rfl, Nat.le_refl _, heap_alloc_new w _, Nat.le_refl _, by decide, rfl, rfl⟩⟩
    have HE := Lib.hid hE
    have hN : ∀ j u, xs[j]? = some u → (w.alloc (.cells #[] 48)).cell? ((⟨g, 0, none⟩ : Addr).add j) = some u := fun j u hu => by
      have hj : j < n * 3 := by have := (List.getElem?_eq_some_iff.1 hu).1; omega
      have h2 := own_below h ((Below.refl w.heap.size w).alloc (Nat.le_refl _) (.cells #[] 48))
      rw [Addr.add_lit, Nat.zero_add, h2.cellAt j hj]; exact hu
    have HN := Lib.hid hN
    have HB := Lib.hid ((Below.refl w.heap.size w).alloc (Nat.le_refl _) (.cells #[] 48))
    clear h hE hN hB hg hcap hcm hcs htk
    have q := eqNil g n cap
    go_enter Try.func32, Try.ntmps32
    go_wp2_with (first
      | (at_builtin
         refine wpList_append_own_at _ rfl _ _ 46 rfl w.heap.size 48 i0 _ 3 32 Try.underlying46 hi hzz.1 hzz.2.1 hzz.2.2 rfl (by omega) _ _ _ rfl HE.out _ n cap xs rfl hl HN.out h1 (by unfold maxLen; omega) (by omega) (by simp) ?_)
      | fail)
    intro v' w1 hown hg1 _ _
    have HO : Hid (w1.ownsRow w.heap.size 48 3 v' n xs ∧ Below w.heap.size w w1) := ⟨hown, HB.out.grown hg1 (by simp) (fun k hk => by simp [Value.ownBlock] at hk; omega)⟩
    clear hown hg1
    go_wp2
    go_ret
    exact ⟨v', rfl, HO.out.1, HO.out.2⟩

/-! ### letters -/
structure LT where
  fr : Int
  to : Int
  what : ByteArray
def flat (l : List LT) : List Value := l.flatMap fun x => [.int .i64 x.fr, .int .i64 x.to, .string x.what]
theorem flat_length (l : List LT) : (flat l).length = l.length * 3 := by
  induction l with
  | nil => rfl
  | cons x l ih => simp only [flat, List.flatMap_cons, List.length_append, List.length_cons, List.length_nil] at ih ⊢; omega
theorem flat_one (l : List LT) : ∀ u ∈ flat l, u.oneCell' = true := by
  intro u hu
  simp only [flat, List.mem_flatMap] at hu
  obtain ⟨x, _, hx⟩ := hu
  simp at hx
  rcases hx with rfl | rfl | rfl <;> rfl
theorem flat_append (l m : List LT) : flat (l ++ m) = flat l ++ flat m := by simp [flat]
theorem flat_get (l : List LT) (k : Nat) (x : LT) (h : l[k]? = some x) : (flat l)[k * 3]? = some (.int .i64 x.fr) ∧ (flat l)[k * 3 + 1]? = some (.int .i64 x.to) ∧ (flat l)[k * 3 + 2]? = some (.string x.what) := by
  induction l generalizing k with
  | nil => simp at h
  | cons y l ih =>
    cases k with
    | zero =>
      simp at h; subst h
      exact ⟨rfl, rfl, rfl⟩
    | succ k =>
      have := ih k (by simpa using h)
      have e : flat (y :: l) = .int .i64 y.fr :: .int .i64 y.to :: .string y.what :: flat l := rfl
      rw [e, show (k + 1) * 3 = k * 3 + 1 + 1 + 1 by omega]
      simpa using this

/-- the post at block p: its letters lie in a row of its own, from block B on -/
def PostAt (w : World) (B p : Nat) (l : List LT) : Prop :=
  ∃ v, w.heap[p]? = some (.cells #[v] 69 (0, 0)) ∧ w.ownsRow B 48 3 v l.length (flat l)

theorem own_forms {w : World} {B n : Nat} {v : Value} {xs : List Value} (h : w.ownsRow B 48 3 v n xs) : ∃ ao cap, v = .slice ao n cap := by
  rcases h.2 with ⟨rfl, rfl⟩ | ⟨g, cap, cur, rfl, _⟩
  · exact ⟨none, 0, rfl⟩
  · exact ⟨_, cap, rfl⟩

set_option maxHeartbeats 4000000 in
theorem place_none (i : Int) (B p : Nat) (w : World) (h : PostAt w B p []) :
    Calls Try.prog 30 #[.pointer (some ⟨p, 0, none⟩), .int .i64 i] w fun e w' => e = .returned (.tuple #[.int .i64 0, .bool false]) ∧ w' = w := by
  obtain ⟨v, hb, ho⟩ := h
  obtain ⟨ao, cap, rfl⟩ := own_forms ho
  have hc : w.cell? ⟨p, 0, none⟩ = some (.slice ao 0 cap) := by simp [World.cell?, hb]
  clear hb ho
  go_enter Try.func30, Try.ntmps30
  go_wp2
  go_ret2
  exact ⟨rfl, rfl⟩

set_option maxHeartbeats 4000000 in
theorem place_some (i : Int) (B p : Nat) (l : List LT) (w : World) (h : PostAt w B p l) (h0 : 0 < l.length) (hm : l.length ≤ 64) :
    Calls Try.prog 30 #[.pointer (some ⟨p, 0, none⟩), .int .i64 i] w fun e w' => e = .returned (.tuple #[.int .i64 (plN i l.length : Nat), .bool true]) ∧ w' = w := by
  obtain ⟨v, hb, ho⟩ := h
  obtain ⟨ao, cap, rfl⟩ := own_forms ho
  have hc : w.cell? ⟨p, 0, none⟩ = some (.slice ao l.length cap) := by simp [World.cell?, hb]
  clear hb ho
  generalize l.length = n at h0 hm hc ⊢
  have q0 : ((n : Int) == 0) = false := by simp; omega
  go_enter Try.func30, Try.ntmps30
  go_wp2
  go_ret2
  exact ⟨ret_ib (plN_eq i n h0 hm), rfl⟩

end Go.Proofs.Ytjalihmjgjajcaa.S
