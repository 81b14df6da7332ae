import Derived.Test.YtjalihmjgjajcaaSA
namespace Go.Proofs.Ytjalihmjgjajcaa.S
open Go.RowKit Go.Joins
open Go.Proofs.Ytjalihmjgjajcaa (Touch below_blk own_below plN plN_lt plN_eq ret_ib block_setCells below_cells take_of_get cell_block)
theorem post_set {w : World} {B B' p : Nat} {l : List LT} {v v5 : Value} (hb : w.heap[p]? = some (.cells #[v] 69 (0, 0))) (ho : w.ownsRow B' 48 3 v5 l.length (flat l)) (hBB : B ≤ B') (hp : p < B') :
    PostAt (w.setCell ⟨p, 0, none⟩ v5) B p l := by
  refine ⟨v5, ?_, ?_⟩
  · have := block_setCell (i := 0) hb v5
    simpa using this
  · exact ownsRow_le (ownsRow_setCell_below ho hp v5) hBB

set_option maxHeartbeats 4000000 in
theorem add_full (B p : Nat) (l : List LT) (x : LT) (w : World) (h : PostAt w B p l) (hm : l.length = 64) :
    Calls Try.prog 29 #[.pointer (some ⟨p, 0, none⟩), .agg #[.int .i64 x.fr, .int .i64 x.to, .string x.what]] w fun e w' => e = .returned (.bool false) ∧ Below w.heap.size w w' := by
  obtain ⟨v, hb, ho⟩ := h
  obtain ⟨ao, cap, rfl⟩ := own_forms ho
  have hb2 : (w.alloc (.cells #[.int .i64 x.fr, .int .i64 x.to, .string x.what] 48)).heap[p]? = _ := below_blk ((Below.refl _ w).alloc (Nat.le_refl _) _) hb
  have hc : (w.alloc (.cells #[.int .i64 x.fr, .int .i64 x.to, .string x.what] 48)).cell? ⟨p, 0, none⟩ = some (.slice ao l.length cap) := by simp [World.cell?, hb2]
  rw [hm] at hc
  clear hb ho hb2
  go_enter Try.func29, Try.ntmps29
  go_wp2
  go_ret
  exact ⟨rfl, (Below.refl _ w).alloc (Nat.le_refl _) _⟩

def HeldA (w0 W : World) (p b : Nat) (x : LT) (B : Nat) (v : Value) (n : Nat) (xs : List Value) : Prop :=
  W.frozen? ⟨p, 0, none⟩ = false ∧ W.cell? ⟨p, 0, none⟩ = some v ∧ W.cell? ⟨b, 0, none⟩ = some (.int .i64 x.fr) ∧ W.cell? ⟨b, 1, none⟩ = some (.int .i64 x.to) ∧ W.cell? ⟨b, 2, none⟩ = some (.string x.what) ∧
  W.heap[p]? = some (.cells #[v] 69 (0, 0)) ∧ W.heap[b]? = some (.cells #[.int .i64 x.fr, .int .i64 x.to, .string x.what] 48 (0, 0)) ∧ W.ownsRow B 48 3 v n xs ∧ Below w0.heap.size w0 W
theorem HeldA.of {w0 W : World} {p b : Nat} {x : LT} {B : Nat} {v : Value} {n : Nat} {xs : List Value} (hp : W.heap[p]? = some (.cells #[v] 69 (0, 0))) (hb : W.heap[b]? = some (.cells #[.int .i64 x.fr, .int .i64 x.to, .string x.what] 48 (0, 0))) (ho : W.ownsRow B 48 3 v n xs) (hB : Below w0.heap.size w0 W) : HeldA w0 W p b x B v n xs :=
  ⟨by simp [World.frozen?, hp], by simp [World.cell?, hp], by simp [World.cell?, hb], by simp [World.cell?, hb], by simp [World.cell?, hb], hp, hb, ho, hB⟩
theorem HeldA.keep {w0 W W' : World} {p b : Nat} {x : LT} {B : Nat} {v : Value} {n : Nat} {xs : List Value} (h : HeldA w0 W p b x B v n xs) (hB : Below W.heap.size W W') : HeldA w0 W' p b x B v n xs :=
  HeldA.of (below_blk hB h.2.2.2.2.2.1) (below_blk hB h.2.2.2.2.2.2.1) (own_below h.2.2.2.2.2.2.2.1 hB) (h.2.2.2.2.2.2.2.2.trans (hB.mono h.2.2.2.2.2.2.2.2.size))

set_option maxHeartbeats 4000000 in
theorem add_room (B p : Nat) (l : List LT) (x : LT) (w : World) (h : PostAt w B p l) (hm : l.length < 64) :
    Calls Try.prog 29 #[.pointer (some ⟨p, 0, none⟩), .agg #[.int .i64 x.fr, .int .i64 x.to, .string x.what]] w fun e w' => e = .returned (.bool true) ∧ PostAt w' w.heap.size p (l ++ [x]) ∧ Touch p w w' := by
  obtain ⟨v, hb, ho⟩ := h
  obtain ⟨ao, cap, rfl⟩ := own_forms ho
  have hb2 : (w.alloc (.cells #[.int .i64 x.fr, .int .i64 x.to, .string x.what] 48)).heap[p]? = _ := below_blk ((Below.refl _ w).alloc (Nat.le_refl _) _) hb
  have hc : (w.alloc (.cells #[.int .i64 x.fr, .int .i64 x.to, .string x.what] 48)).cell? ⟨p, 0, none⟩ = some (.slice ao l.length cap) := by simp [World.cell?, hb2]
  have HH := Lib.hid (HeldA.of (w0 := w.alloc (.cells #[.int .i64 x.fr, .int .i64 x.to, .string x.what] 48)) hb2 (heap_alloc_new w _) (own_below ho ((Below.refl _ w).alloc (Nat.le_refl _) _)) (Below.refl _ _))
  have hpl : p < w.heap.size := (Array.getElem?_eq_some_iff.1 hb).1
  have HL : Hid (flat (l ++ [x]) = flat l ++ [.int .i64 x.fr, .int .i64 x.to, .string x.what] ∧ (l ++ [x]).length = l.length + 1) := ⟨by rw [flat_append]; rfl, by simp⟩
  obtain ⟨i0, hi, hzz⟩ := Option.map_eq_some_iff.1 info48
  simp only [Prod.mk.injEq] at hzz
  have hfl := flat_length l
  have hone := flat_one l
  generalize flat l = xs at ho HH hfl hone HL
  generalize l.length = n at ho HH hfl hm hc HL
  have hlt : (n : Int) < 64 := by omega
  clear hb ho hb2
  go_enter Try.func29, Try.ntmps29
  go_wp2_with fail
  generalize hw0 : w.alloc (.cells #[.int .i64 x.fr, .int .i64 x.to, .string x.what] 48) = w0 at HH hc ⊢
  generalize hbb : w.heap.size = bx at HH ⊢
  have HD : Hid (HeldA w0 w0.drew p bx x B (.slice ao n cap) n xs) := HeldA.keep HH.out (Below.refl _ _).drew
  obtain ⟨c0, c1, c2, c3, c4, c5⟩ := HD.out
  clear c5
  have HD2 : Hid (HeldA w0 (w0.alloc (.cells #[.int .i64 x.fr, .int .i64 x.to, .string x.what] 48)).drew p bx x B (.slice ao n cap) n xs) := HeldA.keep HD.out ((Below.refl _ w0.drew).alloc (Nat.le_refl _) _)
  obtain ⟨f0, f1, f2, f3, f4, f5⟩ := HD2.out
  clear f5
  go_region_law (first
      | (go_simp; go_at_call 32; refine (clone_any B _ n xs w0.drew HD.out.2.2.2.2.2.2.2.1 (by omega) hone).mono ?_; rintro e w1 ⟨v', rfl, ho1, hB1⟩
         obtain ⟨k0, k1, k2, k3, k4, k5⟩ := (HeldA.keep HD.out hB1 : HeldA w0 w1 p bx x B (.slice ao n cap) n xs)
         clear k5)
      | (go_simp; go_at_call 32; refine (clone_any B _ n xs _ (own_below HD.out.2.2.2.2.2.2.2.1 ((Below.refl _ w0.drew).alloc (Nat.le_refl _) (.cells #[.int .i64 x.fr, .int .i64 x.to, .string x.what] 48))) (by omega) hone).mono ?_; rintro e w1 ⟨v', rfl, ho1, hB1⟩
         obtain ⟨k0, k1, k2, k3, k4, k5⟩ := (HeldA.keep (HeldA.keep HD.out ((Below.refl _ w0.drew).alloc (Nat.le_refl _) (.cells #[.int .i64 x.fr, .int .i64 x.to, .string x.what] 48))) hB1 : HeldA w0 w1 p bx x B (.slice ao n cap) n xs)
         clear k5)
      | (refine step_append_lies (P := Try.prog) _ rfl (.tmp 16) (.tmp 18) 46 rfl w0.drew.heap.size 48 i0 _ 3 32 Try.underlying46 hi hzz.1 hzz.2.1 hzz.2.2 rfl (by omega) v' n xs (by simp [Act.eval]) (own_below ho1 ((Below.refl _ w1).alloc (Nat.le_refl _) (.cells #[.int .i64 x.fr, .int .i64 x.to, .string x.what] 48))) ⟨w1.heap.size, 0, none⟩ 1 1 [.int .i64 x.fr, .int .i64 x.to, .string x.what] (by simp [Act.eval]) rfl (World.news_of_block (heap_alloc_new w1 _)) (by intro u hu; simp at hu; rcases hu with rfl | rfl | rfl <;> rfl) (by omega) (by unfold maxLen; omega) (by omega) (by have := hB1.size; simp at this ⊢; omega) _ rfl ?_
         intro g2 cap2 w5 hown5 hg5 hat5 hlt5
         have hB5 : Below w0.drew.heap.size w0.drew w5 := (hB1.alloc hB1.size _).grown hg5 (by have := hB1.size; simp at this ⊢; omega) (fun k hk => by
           rcases ho1.2 with ⟨e, _⟩ | ⟨g, cp, cur, e, hge, _⟩
           · rw [e] at hk; cases hk
           · rw [e] at hk; simp [Value.ownBlock] at hk; omega)
         obtain ⟨m0, m1, m2, m3, m4, m5⟩ := (HeldA.keep HD.out hB5 : HeldA w0 w5 p bx x B (.slice ao n cap) n xs)
         clear m5)
      | (refine step_append_lies (P := Try.prog) _ rfl (.tmp 16) (.tmp 18) 46 rfl (w0.drew.alloc (.cells #[.int .i64 x.fr, .int .i64 x.to, .string x.what] 48)).heap.size 48 i0 _ 3 32 Try.underlying46 hi hzz.1 hzz.2.1 hzz.2.2 rfl (by omega) v' n xs (by simp [Act.eval]) ho1 ⟨w0.drew.heap.size, 0, none⟩ 1 1 [.int .i64 x.fr, .int .i64 x.to, .string x.what] (by simp [Act.eval]) rfl (World.news_of_block (below_blk hB1 (heap_alloc_new w0.drew _))) (by intro u hu; simp at hu; rcases hu with rfl | rfl | rfl <;> rfl) (by omega) (by unfold maxLen; omega) (by omega) hB1.size _ rfl ?_
         intro g2 cap2 w5 hown5 hg5 hat5 hlt5
         have hB5 : Below w0.drew.heap.size w0.drew w5 := (((Below.refl _ w0.drew).alloc (Nat.le_refl _) _).trans (hB1.mono (by simp))).grown hg5 (by have := hB1.size; simp at this ⊢; omega) (fun k hk => by
           rcases ho1.2 with ⟨e, _⟩ | ⟨g, cp, cur, e, hge, _⟩
           · rw [e] at hk; cases hk
           · rw [e] at hk; simp [Value.ownBlock] at hk hge ⊢; omega)
         obtain ⟨m0, m1, m2, m3, m4, m5⟩ := (HeldA.keep HD.out hB5 : HeldA w0 w5 p bx x B (.slice ao n cap) n xs)
         clear m5))
  all_goals go_wp2
  all_goals go_ret
  all_goals
    have hM : HeldA w0 w5 p bx x B (.slice ao n cap) n xs := HeldA.keep HD.out hB5
    have hsz : w0.heap.size = w.heap.size + 1 := by rw [← hw0]; simp
    have hBw0 : Below w.heap.size w w0 := by rw [← hw0]; exact (Below.refl _ w).alloc (Nat.le_refl _) _
    have hB6 : Below w.heap.size w w5 := hBw0.drew.trans (hB5.mono (by show w.heap.size ≤ w0.heap.size; omega))
    refine ⟨rfl, post_set (B' := w0.heap.size) hM.2.2.2.2.2.1 ?_ (by omega) (by omega), (Touch.of_below hB6 p).set_ 0 _⟩
    rw [HL.out.1, HL.out.2]
    first
      | exact hown5
      | exact ownsRow_le hown5 (by simp)

end Go.Proofs.Ytjalihmjgjajcaa.S
