import Derived.Test.YtjalihmjgjajcaaRows
import Derived.WalkKit
import Derived.WalkSpells
import Derived.WalkLawsBesides
import Derived.Lib.Hide
import Derived.Deep.LoopGhost
import Derived.Maps.AppendAt
import Derived.OwnWalk
import Derived.Deep.AppendLies
import Derived.Deep.QuietTactic
import Derived.BigQuiet
namespace Go.Proofs.Ytjalihmjgjajcaa
open Go.RowKit

theorem info31 : (Try.prog.info? 31).map (fun i => (i.zero, i.size, i.bytes)) = some (some (.agg #[.int .i64 0, .int .i64 0, .int .i64 0]), 3, 24) := by kernel_rfl
theorem below_blk {b : Nat} {w w' : World} (h : Below w.heap.size w w') {o : Obj} (hb : w.heap[b]? = some o) : w'.heap[b]? = some o := by
  have hlt : b < w.heap.size := (Array.getElem?_eq_some_iff.1 hb).1
  rw [h.block b hlt, hb]
theorem own_below {w w' : World} {B e size n : Nat} {v : Value} {xs : List Value} (h : w.ownsRow B e size v n xs) (hb : Below w.heap.size w w') : w'.ownsRow B e size v n xs := by
  refine ⟨h.1, h.2.imp_right ?_⟩
  rintro ⟨g, cap, cur, hv, hg, hh, r⟩
  exact ⟨g, cap, cur, hv, hg, below_blk hb hh, r⟩

theorem eqNil (g n cap : Nat) (wx : World) : (binOp .eql 59 (.slice (some ⟨g, 0, none⟩) n cap) (.slice none 0 0)).run Try.prog wx = .ok (.bool false) wx := by kernel_rfl
theorem eqNil2 (wx : World) : (binOp .eql 59 (.slice none 0 0) (.slice none 0 0)).run Try.prog wx = .ok (.bool true) wx := by kernel_rfl
set_option maxHeartbeats 4000000 in
theorem clone_any (B : Nat) (v : Value) (n : Nat) (xs : List Value) (w : World) (h : w.ownsRow B 31 3 v n xs) (hn : n ≤ 1000) (h1 : ∀ u ∈ xs, u.oneCell' = true) :
    Calls Try.prog 27 #[v] w fun e w' => ∃ v', e = .returned v' ∧ w'.ownsRow w.heap.size 31 3 v' n xs ∧ Below w.heap.size w w' := by
  obtain ⟨i0, hi, hzz⟩ := Option.map_eq_some_iff.1 info31
  simp only [Prod.mk.injEq] at hzz
  have hl := h.1
  rcases h.2 with ⟨rfl, hn0⟩ | ⟨g, cap, cur, rfl, hB, hg, hcap, hcm, hcs, htk⟩
  · subst hn0
    have hx : xs = [] := List.eq_nil_of_length_eq_zero (by simpa using hl)
    subst hx
    have q := eqNil2
    go_enter Try.func27, Try.ntmps27
    go_wp2
    go_ret
    exact ⟨_, rfl, World.ownsRow_nil _ _ _ _, Below.refl _ _⟩
  · have H := Lib.hid h
    have hE : (w.alloc (.cells #[] 31)).ownsRow w.heap.size 31 3 (.slice (some ⟨w.heap.size, 0, none⟩) 0 0) 0 [] :=
      ⟨rfl, .inr ⟨w.heap.size, 0, #[], rfl, Nat.le_refl _, heap_alloc_new w _, Nat.le_refl _, by decide, rfl, rfl⟩⟩
    have HE := Lib.hid hE
    have hN : ∀ j u, xs[j]? = some u → (w.alloc (.cells #[] 31)).cell? ((⟨g, 0, none⟩ : Addr).add j) = some u := fun j u hu => by
      have hj : j < n * 3 := by have := (List.getElem?_eq_some_iff.1 hu).1; omega
      have h2 := own_below h ((Below.refl w.heap.size w).alloc (Nat.le_refl _) (.cells #[] 31))
      rw [Addr.add_lit, Nat.zero_add, h2.cellAt j hj]; exact hu
    have HN := Lib.hid hN
    have HB := Lib.hid ((Below.refl w.heap.size w).alloc (Nat.le_refl _) (.cells #[] 31))
    clear h hE hN hB hg hcap hcm hcs htk
    have q := eqNil g n cap
    go_enter Try.func27, Try.ntmps27
    go_wp2_with (first
      | (at_builtin
         refine wpList_append_own_at _ rfl _ _ 59 rfl w.heap.size 31 i0 _ 3 24 Try.underlying59 hi hzz.1 hzz.2.1 hzz.2.2 rfl (by omega) _ _ _ rfl HE.out _ n cap xs rfl hl HN.out h1 (by unfold maxLen; omega) (by omega) (by simp) ?_)
      | fail)
    intro v' w1 hown hg1 _ _
    have HO : Hid (w1.ownsRow w.heap.size 31 3 v' n xs ∧ Below w.heap.size w w1) := ⟨hown, HB.out.grown hg1 (by simp) (fun k hk => by simp [Value.ownBlock] at hk; omega)⟩
    clear hown hg1
    go_wp2
    go_ret
    exact ⟨v', rfl, HO.out.1, HO.out.2⟩

/-! ### letters -/
structure LT where
  fr : Int
  to : Int
  what : Int
def flat (l : List LT) : List Value := l.flatMap fun x => [.int .i64 x.fr, .int .i64 x.to, .int .i64 x.what]
theorem flat_length (l : List LT) : (flat l).length = l.length * 3 := by
  induction l with
  | nil => rfl
  | cons x l ih => simp only [flat, List.flatMap_cons, List.length_append, List.length_cons, List.length_nil] at ih ⊢; omega
theorem flat_one (l : List LT) : ∀ u ∈ flat l, u.oneCell' = true := by
  intro u hu
  simp only [flat, List.mem_flatMap] at hu
  obtain ⟨x, _, hx⟩ := hu
  simp at hx
  rcases hx with rfl | rfl | rfl <;> rfl
theorem flat_append (l m : List LT) : flat (l ++ m) = flat l ++ flat m := by simp [flat]
theorem flat_get (l : List LT) (k : Nat) (x : LT) (h : l[k]? = some x) : (flat l)[k * 3]? = some (.int .i64 x.fr) ∧ (flat l)[k * 3 + 1]? = some (.int .i64 x.to) ∧ (flat l)[k * 3 + 2]? = some (.int .i64 x.what) := by
  induction l generalizing k with
  | nil => simp at h
  | cons y l ih =>
    cases k with
    | zero =>
      simp at h; subst h
      exact ⟨rfl, rfl, rfl⟩
    | succ k =>
      have := ih k (by simpa using h)
      have e : flat (y :: l) = .int .i64 y.fr :: .int .i64 y.to :: .int .i64 y.what :: flat l := rfl
      rw [e, show (k + 1) * 3 = k * 3 + 1 + 1 + 1 by omega]
      simpa using this

/-- the post at block p: its letters lie in a row of its own, from block B on -/
def PostAt (w : World) (B p : Nat) (l : List LT) : Prop :=
  ∃ v, w.heap[p]? = some (.cells #[v] 61 (0, 0)) ∧ w.ownsRow B 31 3 v l.length (flat l)
end Go.Proofs.Ytjalihmjgjajcaa
