/-
  THE ROW OF 'CoilTakes': it returns true for every input, and leaves what came in as it was.
  Conditions: none beyond the given statement's own.
-/
import Derived.Test.YtdgcafohfedbhaaZA
import Derived.Test.YtdgcafohfedbhaaW
import Derived.ChangeSlices
namespace Go.Proofs.Ytdgcafohfedbhaa
open Go.ChangeShapes Go.WideShapes Go.ChangeAt Go.RowKit
set_option linter.unusedVariables false

theorem cells5 : Try.prog.cellsOf 5 = 1 := by kernel_rfl
theorem block_of_wide {W : World} {base n c : Nat} {t e : TypeId} {a : Addr} (ht : Try.prog.underlying t = some (.slice e)) (h : Value.okWide Try.prog W .any base t (.slice (some a) n c)) : a.block < W.heap.size := by
  simp only [Value.okWide, ht, Cell.okWide, Cell.ok, World.has] at h
  obtain ⟨_, _, _, _, row, cells, hs, _⟩ := h
  rcases Nat.lt_or_ge a.block W.heap.size with h' | h'
  · exact h'
  · simp [World.shape?, Array.getElem?_eq_none h'] at hs
/-- what a slice of bytes that came in shows -/
theorem bytes_of_trod {H : Type} {enc : TypeId × Value → H} {W : World} {fuel base : Nat} {a : Option Addr} {n c : Nat} {x : DataW H × List MemPlace}
    (hv : Value.okWide Try.prog W .any base 23 (.slice a n c)) (h : DataW.trod enc Try.prog W 0 (fun _ => true) true fuel 23 [.slice a n c] = some x) :
    ∃ bs : List Nat, bs.length = n ∧ Shows W a bs ∧ Oct bs ∧ n ≤ c ∧ c ≤ maxLen ∧ ∀ ad, a = some ad → ad.block < W.heap.size := by
  rcases open_ints Try.underlying23 Try.underlying5 cells5 h with ⟨hc, hx⟩ | ⟨ad, len, cap, zs, hc, hb, hl, hcm, hz, hx, hcell, hwf⟩
  · simp only [List.cons.injEq, Value.slice.injEq, and_true] at hc
    obtain ⟨rfl, rfl, rfl⟩ := hc
    exact ⟨[], rfl, Shows.nil _ _, Oct.nil, Nat.le_refl _, by unfold maxLen; omega, fun ad e => by cases e⟩
  · simp only [List.cons.injEq, Value.slice.injEq, and_true] at hc
    obtain ⟨rfl, rfl, rfl⟩ := hc
    have hzl : n ≤ zs.length := by rw [hz]; split <;> omega
    have hr : ∀ x ∈ zs, 0 ≤ x ∧ x ≤ 255 := fun x hx => by
      have := hwf x hx
      simpa [Lit.wf, IntKind.min, IntKind.max, IntKind.signed, IntKind.bits] using this
    refine ⟨(zs.take n).map Int.toNat, by rw [List.length_map, List.length_take]; omega, fun i x hx => ?_, fun i x hx => ?_, hl, hcm, fun ad' e => by cases e; exact block_of_wide Try.underlying23 hv⟩
    · rw [List.getElem?_map, Option.map_eq_some_iff] at hx
      obtain ⟨z, hz1, rfl⟩ := hx
      have hi : i < n := by have := (List.getElem?_eq_some_iff.1 hz1).1; rw [List.length_take] at this; omega
      rw [List.getElem?_take_of_lt hi] at hz1
      obtain ⟨b, off, rfl, hcc⟩ := ints_at hcell (by omega)
      refine ⟨b, off, rfl, ?_⟩
      rw [hcc i (by omega)]
      have h2 := hr z (List.mem_of_getElem? hz1)
      simp [List.getD, hz1]
      omega
    · rw [List.getElem?_map, Option.map_eq_some_iff] at hx
      obtain ⟨z, hz1, rfl⟩ := hx
      have h2 := hr z (List.mem_of_mem_take (List.mem_of_getElem? hz1))
      omega

namespace takes
set_option maxRecDepth 100000 in
theorem lifted (os : Os) (started : os.Started) (H : Type) (enc : TypeId × Value → H) :
    ReturnsInHanded {} Try.checked os 4 .any (Rows.coilTakesSpec.pre6 enc Try.prog Try.f4 Rows.coilTakesRow.domain false) (Rows.coilTakesSpec.post enc Try.prog Try.f4 false true false false) := by
  refine returnsInHanded_of_change (C := Try.checked) own started (by kernel_rfl) Try.func4
    (ChangeSpec.witness6 (enc := enc) (C := Try.checked) false ⟨#[], #[.slice none 0 0, .slice none 0 0, .int .i64 0], []⟩ 8 (by kernel_rfl) (by kernel_rfl) (by kernel_rfl) (by kernel_rfl)) ?_
  intro W base args ds gs before hval0 hW hcnd _
  have hval : ∀ (j : Nat) t v, Try.f4.params[j]? = some t → args[j]? = some v → Value.okWide Try.prog W .any base t v := hval0
  have hW' := hW
  obtain ⟨p, q, hA0, hV, rfl, hfz, hnd⟩ := hW
  have hA : DataW.TrodAll enc Try.prog W 0 (fun _ => true) true Try.f4.params.toList args.toList ds p := hA0
  rw [Try.params4] at hA hval
  obtain ⟨v1, vs1, d1, ds1, p1, q1, hargs, rfl, rfl, h1, r1⟩ := trodAll_cons hA
  obtain ⟨v2, vs2, d2, ds2, p2, q2, rfl, rfl, rfl, h2, r2⟩ := trodAll_cons r1
  obtain ⟨v3, vs3, d3, ds3, p3, q3, rfl, rfl, rfl, h3, r3⟩ := trodAll_cons r2
  obtain ⟨rfl, rfl, rfl⟩ := trodAll_nil r3
  obtain rfl : args = #[v1, v2, v3] := by cases args; simp_all
  obtain ⟨rfl, rfl⟩ := trodVars_none hV
  have w1 := hval 0 23 v1 rfl rfl
  have w2 := hval 1 23 v2 rfl rfl
  obtain ⟨a1, len1, cap1, rfl⟩ := okWide_slice Try.underlying23 w1
  obtain ⟨a2, len2, cap2, rfl⟩ := okWide_slice Try.underlying23 w2
  have k1 := h1
  have k2 := h2
  have lt1 : ∀ x ∈ p1, x.block < W.heap.size := by obtain ⟨m, hm⟩ := k1; exact DataW.trod_lt m _ _ _ hm
  have lt2 : ∀ x ∈ p2, x.block < W.heap.size := by obtain ⟨m, hm⟩ := k2; exact DataW.trod_lt m _ _ _ hm
  obtain ⟨b1, rfl, s1, o1, n1, c1, l1⟩ : ∃ bs : List Nat, bs.length = len1 ∧ Shows W a1 bs ∧ Oct bs ∧ len1 ≤ cap1 ∧ cap1 ≤ maxLen ∧ ∀ ad, a1 = some ad → ad.block < W.heap.size := by
    obtain ⟨fuel, hf⟩ := h1
    exact bytes_of_trod w1 (by simpa [Value.cells] using hf)
  obtain ⟨b2, rfl, s2, o2, n2, c2, l2⟩ : ∃ bs : List Nat, bs.length = len2 ∧ Shows W a2 bs ∧ Oct bs ∧ len2 ≤ cap2 ∧ cap2 ≤ maxLen ∧ ∀ ad, a2 = some ad → ad.block < W.heap.size := by
    obtain ⟨fuel, hf⟩ := h2
    exact bytes_of_trod w2 (by simpa [Value.cells] using hf)
  obtain ⟨a3, rfl, rfl, rfl, w3⟩ := open_int Try.underlying3 (hval 2 3 v3 rfl rfl) h3
  clear hA0 hval0
  refine (takes_any (.slice a1 b1.length cap1) b1 b2 a2 cap2 a3 W ⟨a1, cap1, rfl, s1, l1⟩ ⟨a1, cap1, rfl, n1, c1⟩ o1 s2 o2 l2 (Nat.le_trans n2 c2)).mono fun e W' ⟨he, bel⟩ => ?_
  subst he
  exact ⟨_, rfl, _, _, _, [], _, [], hW', trodAll_mk1 (shut_bool Try.underlying4 _), (trodAll_cons_mk (Below.trod laidOut (by kernel_rfl) (of_decide_eq_true (by kernel_rfl)) k1 bel lt1) (trodAll_cons_mk (Below.trod laidOut (by kernel_rfl) (of_decide_eq_true (by kernel_rfl)) k2 bel lt2) (trodAll_cons_mk (shut_int Try.underlying3 w3) trodAll_mk0))), rfl, bel.frame _, fun h => by cases h⟩

theorem over : Rows.coilTakesRow.holds Try.pinned (OpenSpec.ofChange Rows.coilTakesSpec) :=
  OpenClaim.holds_of_wide 4 Try.f4 rfl rfl rfl rfl rfl rfl rfl ⟨rfl, rfl, rfl, rfl, rfl⟩ rfl rfl rfl rfl rfl (by kernel_rfl) Try.func4 (by kernel_rfl)
    (of_decide_eq_true (by kernel_rfl)) (by unfold Func.isWrapper; first | (rw [if_pos (by decide +kernel)]; kernel_rfl) | (rw [if_neg (by decide +kernel)]; exact ⟨rfl, rfl⟩))
    (fun os started H enc _ => lifted os started H enc)

theorem proved : Rows.CoilTakesSaid := over
end takes
end Go.Proofs.Ytdgcafohfedbhaa
