import Derived.Test.YtjalihmjgjajcaaE
namespace Go.Proofs.Ytjalihmjgjajcaa
open Go.RowKit Go.Joins

theorem all_any (B p : Nat) (l : List LT) (w : World) (h : PostAt w B p l) :
    Calls Try.prog 10 #[.pointer (some ⟨p, 0, none⟩)] w fun e w' => ∃ v b, w.heap.size ≤ b ∧ e = .returned (.func (Fn.func 36) #[] #[.pointer (some ⟨b, 0, none⟩)]) ∧ w'.heap[b]? = some (.cells #[v] 59 (0, 0)) ∧ w'.ownsRow B 31 3 v l.length (flat l) ∧ Below w.heap.size w w' := by
  obtain ⟨v, hb, ho⟩ := h
  obtain ⟨ao, cap, rfl⟩ := own_forms ho
  have hc : w.cell? ⟨p, 0, none⟩ = some (.slice ao l.length cap) := by simp [World.cell?, hb]
  have HO := Lib.hid (own_below ho ((Below.refl _ w).alloc (Nat.le_refl _) (.cells #[.slice ao l.length cap] 59)))
  clear hb ho
  generalize l.length = n at hc HO ⊢
  have hmf : ∀ (fn : Fn) (first cap : Array Value) (w : World), (Instr.makeFunc fn first cap).run Try.prog w = .ok (.func fn first cap) w := fun _ _ _ _ => rfl
  go_enter Try.func10, Try.ntmps10
  go_wp2
  go_ret
  exact ⟨_, w.heap.size, Nat.le_refl _, rfl, heap_alloc_new w _, HO.out, (Below.refl _ w).alloc (Nat.le_refl _) _⟩

theorem f11_miss (j : Nat) (I : Int) (N : Nat) (x : LT) (ba bn bk : Nat) (w : World) (hN0 : 0 < N) (hN1 : N ≤ 64) (hI : w.cell? ⟨ba, 1, none⟩ = some (.int .i64 I)) (hN : w.cell? ⟨bn, 0, none⟩ = some (.int .i64 N)) (hk : w.cell? ⟨bk, 0, none⟩ = some (.int .i64 (-1))) (hne : j ≠ plN I N) :
    Calls Try.prog 11 #[.int .i64 j, .agg #[.int .i64 x.fr, .int .i64 x.to, .int .i64 x.what], .pointer (some ⟨ba, 0, none⟩), .pointer (some ⟨bn, 0, none⟩), .pointer (some ⟨bk, 0, none⟩)] w fun e w' => e = .returned (.bool true) ∧ Below w.heap.size w w' := by
  have hI1 := Lib.cell?_alloc_some (.cells #[.int .i64 x.fr, .int .i64 x.to, .int .i64 x.what] 31) hI
  have hN2 := Lib.cell?_alloc_some (.cells #[.int .i64 x.fr, .int .i64 x.to, .int .i64 x.what] 31) hN
  have hk1 := Lib.cell?_alloc_some (.cells #[.int .i64 x.fr, .int .i64 x.to, .int .i64 x.what] 31) hk
  have hq := plN_eq I N hN0 hN1
  have hb : ((j : Int) == (plN I N : Nat)) = false := by simp; omega
  clear hI hN hk hne
  go_enter Try.func11, Try.ntmps11
  go_wp2_with fail
  go_ret
  exact ⟨rfl, (Below.refl _ w).alloc (Nat.le_refl _) _⟩

theorem f11_hit (I : Int) (N : Nat) (x : LT) (ba bn bk : Nat) (ty : TypeId) (w : World) (hN0 : 0 < N) (hN1 : N ≤ 64) (hI : w.cell? ⟨ba, 1, none⟩ = some (.int .i64 I)) (hN : w.cell? ⟨bn, 0, none⟩ = some (.int .i64 N)) (hk : w.heap[bk]? = some (.cells #[.int .i64 (-1)] ty (0, 0))) (hx : 0 ≤ x.what) :
    Calls Try.prog 11 #[.int .i64 (plN I N : Nat), .agg #[.int .i64 x.fr, .int .i64 x.to, .int .i64 x.what], .pointer (some ⟨ba, 0, none⟩), .pointer (some ⟨bn, 0, none⟩), .pointer (some ⟨bk, 0, none⟩)] w fun e w' => e = .returned (.bool false) ∧ w'.heap[bk]? = some (.cells #[.int .i64 x.what] ty (0, 0)) ∧ Touch bk w w' := by
  have HB := Lib.hid ((Below.refl _ w).alloc (Nat.le_refl _) (.cells #[.int .i64 x.fr, .int .i64 x.to, .int .i64 x.what] 31))
  have hI1 := Lib.cell?_alloc_some (.cells #[.int .i64 x.fr, .int .i64 x.to, .int .i64 x.what] 31) hI
  have hN2 := Lib.cell?_alloc_some (.cells #[.int .i64 x.fr, .int .i64 x.to, .int .i64 x.what] 31) hN
  have hkb := below_blk HB.out hk
  have hk1 : (w.alloc (.cells #[.int .i64 x.fr, .int .i64 x.to, .int .i64 x.what] 31)).cell? ⟨bk, 0, none⟩ = some (.int .i64 (-1)) := by simp [World.cell?, hkb]
  have hk2 : (w.alloc (.cells #[.int .i64 x.fr, .int .i64 x.to, .int .i64 x.what] 31)).frozen? ⟨bk, 0, none⟩ = false := by simp [World.frozen?, hkb]
  have hkl : bk < w.heap.size := (Array.getElem?_eq_some_iff.1 hk).1
  have hn1 : ¬ bk = w.heap.size := by omega
  have hn2 : ¬ w.heap.size = bk := by omega
  have hq := plN_eq I N hN0 hN1
  have HK := Lib.hid hk
  have hk3 : w.cell? ⟨bk, 0, none⟩ = some (.int .i64 (-1)) := by simp [World.cell?, hk]
  have hx2 : decide (x.what < 0) = false := by simpa using hx
  clear hI hN hk hkb
  go_enter Try.func11, Try.ntmps11
  go_wp2_with fail
  go_ret
  refine ⟨rfl, ?_, ((Touch.refl bk w).set_ 0 _).alloc _⟩
  have := block_setCell (i := 0) HK.out (.int .i64 x.what)
  refine below_blk ((Below.refl _ _).alloc (Nat.le_refl _) _) ?_
  simpa using this

/-- letter j of the row behind v, cell by cell -/
theorem row_cells {w : World} {B g n cap : Nat} {l : List LT} (ho : w.ownsRow B 31 3 (.slice (some ⟨g, 0, none⟩) n cap) n (flat l)) {j : Nat} {y : LT} (hj : l[j]? = some y) :
    w.cell? ⟨g, j * 3, none⟩ = some (.int .i64 y.fr) ∧ w.cell? ⟨g, j * 3 + 1, none⟩ = some (.int .i64 y.to) ∧ w.cell? ⟨g, j * 3 + 2, none⟩ = some (.int .i64 y.what) := by
  obtain ⟨f0, f1, f2⟩ := flat_get l j y hj
  have hl : j * 3 + 2 < (flat l).length := (List.getElem?_eq_some_iff.1 f2).1
  have hfl := flat_length l
  have hn := ho.1
  exact ⟨by rw [ho.cellAt _ (by omega)]; exact f0, by rw [ho.cellAt _ (by omega)]; exact f1, by rw [ho.cellAt _ (by omega)]; exact f2⟩

theorem cell_block {w : World} {q : Addr} {u : Value} (h : w.cell? q = some u) : q.block < w.heap.size := by
  rcases Nat.lt_or_ge q.block w.heap.size with h' | h'
  · exact h'
  · simp [World.cell?, Array.getElem?_eq_none h'] at h

def AllRel (w : World) (k : Nat) (iv : Value) (wr : World) : Prop := ∃ j : Nat, j ≤ k ∧ iv = .int .i64 j ∧ Below w.heap.size w wr

set_option maxHeartbeats 4000000 in
theorem f36_some (I : Int) (B b0 ba bn bk : Nat) (v : Value) (ty : TypeId) (a b : List LT) (x : LT) (w : World) (hm : (a ++ x :: b).length ≤ 64) (hp : plN I (a ++ x :: b).length = a.length) (hx : 0 ≤ x.what)
    (h0 : w.heap[b0]? = some (.cells #[v] 59 (0, 0))) (ho : w.ownsRow B 31 3 v (a ++ x :: b).length (flat (a ++ x :: b)))
    (hI : w.cell? ⟨ba, 1, none⟩ = some (.int .i64 I)) (hN : w.cell? ⟨bn, 0, none⟩ = some (.int .i64 ((a ++ x :: b).length : Nat))) (hk : w.heap[bk]? = some (.cells #[.int .i64 (-1)] ty (0, 0))) :
    Calls Try.prog 36 #[.func (Fn.func 11) #[] #[.pointer (some ⟨ba, 0, none⟩), .pointer (some ⟨bn, 0, none⟩), .pointer (some ⟨bk, 0, none⟩)], .pointer (some ⟨b0, 0, none⟩)] w fun e w' => e = .returned (.tuple #[]) ∧ w'.heap[bk]? = some (.cells #[.int .i64 x.what] ty (0, 0)) ∧ Touch bk w w' := by
  obtain ⟨g, cap, rfl, _⟩ := ho.form (by simp; omega)
  have hc0 : w.cell? ⟨b0, 0, none⟩ = some (.slice (some ⟨g, 0, none⟩) (a ++ x :: b).length cap) := by simp [World.cell?, h0]
  have H := Lib.hid (⟨ho, hI, hN, hk⟩ : _ ∧ _ ∧ _ ∧ _)
  have HP : Hid (plN I (a ++ x :: b).length = a.length ∧ (a ++ x :: b)[a.length]? = some x) := ⟨hp, by simp⟩
  have hal : a.length < (a ++ x :: b).length := by simp
  clear h0 ho hI hN hk hp
  generalize a ++ x :: b = L at *
  have HLN : Hid (∀ j, j < L.length → ∃ y, L[j]? = some y) := fun j hj => ⟨L[j], by simp [hj]⟩
  generalize hn : L.length = n at *
  have HL := Lib.hid hn
  clear hn
  go_enter Try.func36, Try.ntmps36
  go_wp2_with fail
  go_loopw [7] (AllRel w a.length) (fun i _ => n - (intOf i).toNat)
  case atStart => exact ⟨0, by omega, rfl, Below.refl _ _⟩
  case round =>
    obtain ⟨j, hj, rfl, hB⟩ := hrel
    have hjn : j < n := by omega
    obtain ⟨y, hy⟩ := HLN.out j hjn
    obtain ⟨c0, c1, c2⟩ := row_cells (own_below H.out.1 hB) hy
    have HB1 := Lib.hid (hB.alloc hB.size (.cells #[.int .i64 y.fr, .int .i64 y.to, .int .i64 y.what] 31))
    have HF : Hid (∀ (q : Addr) (u : Value), w.cell? q = some u → (wr.alloc (.cells #[.int .i64 y.fr, .int .i64 y.to, .int .i64 y.what] 31)).cell? q = some u) := fun q u hq => by rw [HB1.out.cell (cell_block hq)]; exact hq
    have HY := Lib.hid hy
    have HB0 := Lib.hid hB
    clear hy hB
    go_wp2_with fail
    by_cases hja : j = a.length
    · have e1 : Hid (y = x) := by have h1 := HY.out; have h2 := HP.out.2; rw [hja, h2] at h1; exact (Option.some.inj h1).symm
      have e2 : Hid (j = plN I n) := by rw [hja]; exact HP.out.1.symm
      clear hja
      have c := f11_hit I n y ba bn bk ty _ (by omega) hm (HF.out _ _ H.out.2.1) (HF.out _ _ H.out.2.2.1) (below_blk HB1.out H.out.2.2.2) (by rw [e1.out]; exact hx)
      rw [← e2.out] at c
      refine c.mono ?_
      clear c
      rintro e w1 ⟨rfl, hk1, ht1⟩
      have HE := Lib.hid (⟨hk1, ht1⟩ : _ ∧ _)
      clear hk1 ht1 c0 c1 c2 hc0
      go_wp2
      refine bodyPost_ret (results_none rfl _ _ _) rfl ⟨rfl, ?_, (Touch.of_below HB1.out bk).trans HE.out.2⟩
      rw [← e1.out]; exact HE.out.1
    · have e3 : j ≠ plN I n := by rw [HP.out.1]; exact hja
      have k0 : (wr.alloc (.cells #[.int .i64 y.fr, .int .i64 y.to, .int .i64 y.what] 31)).cell? ⟨bk, 0, none⟩ = some (.int .i64 (-1)) := HF.out _ _ (by simp [World.cell?, H.out.2.2.2])
      have hja2 : j < a.length := by omega
      refine (f11_miss j I n y ba bn bk _ (by omega) hm (HF.out _ _ H.out.2.1) (HF.out _ _ H.out.2.2.1) k0 e3).mono ?_
      rintro e w1 ⟨rfl, hb1⟩
      have HE := Lib.hid (HB1.out.trans (hb1.mono HB1.out.size))
      clear hb1 k0 e3 c0 c1 c2 hja
      go_wp2
      exact ⟨⟨j + 1, by omega, by go_num, HE.out⟩, by simp [intOf]; omega⟩

theorem f36_none (f : Value) (b0 : Nat) (v : Value) (B : Nat) (w : World)
    (h0 : w.heap[b0]? = some (.cells #[v] 59 (0, 0))) (ho : w.ownsRow B 31 3 v 0 []) :
    Calls Try.prog 36 #[f, .pointer (some ⟨b0, 0, none⟩)] w fun e w' => e = .returned (.tuple #[]) ∧ w' = w := by
  obtain ⟨ao, cap, rfl⟩ := own_forms ho
  have hc0 : w.cell? ⟨b0, 0, none⟩ = some (.slice ao 0 cap) := by simp [World.cell?, h0]
  clear h0 ho
  go_enter Try.func36, Try.ntmps36
  go_wp2_with fail
  go_loopw [7] (fun i wr => i = .int .i64 0 ∧ wr = w) (fun _ _ => 0)
  case atStart => exact ⟨rfl, rfl⟩
  case round =>
    obtain ⟨rfl, rfl⟩ := hrel
    go_wp2
    go_end0
    exact ⟨rfl, rfl⟩
end Go.Proofs.Ytjalihmjgjajcaa
