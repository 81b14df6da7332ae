/-
  THE ROW OF 'CoilTexts': it returns true for every input, and leaves what came in as it was.
  Conditions: none beyond the given statement's own.
-/
import Derived.Test.YtdgcafohfedbhaaZB
import Derived.Test.YtdgcafohfedbhaaX
import Derived.Deep.Slices
namespace Go.Proofs.Ytdgcafohfedbhaa
open Go.ChangeShapes Go.WideShapes Go.ChangeAt Go.RowKit Go.Deep
set_option linter.unusedVariables false

theorem cells9 : Try.prog.cellsOf 9 = 1 := by kernel_rfl
theorem cells4 : Try.prog.cellsOf 4 = 1 := by kernel_rfl
theorem list_of {α : Type} {p : Nat → α → Prop} (n : Nat) (h : ∀ i, i < n → ∃ x, p i x) : ∃ l : List α, l.length = n ∧ ∀ i x, l[i]? = some x → p i x := by
  induction n with
  | zero => exact ⟨[], rfl, fun i x hx => by simp at hx⟩
  | succ n ih =>
    obtain ⟨l, hl, hp⟩ := ih (fun i hi => h i (by omega))
    obtain ⟨x, hx⟩ := h n (by omega)
    refine ⟨l ++ [x], by simp [hl], fun i y hy => ?_⟩
    rw [List.getElem?_append] at hy
    split at hy
    · exact hp i y hy
    · rename_i hge
      have hi : i = n := by have := (List.getElem?_eq_some_iff.1 hy).1; simp at this; omega
      subst hi
      simp [hl] at hy
      subst hy
      exact hx
theorem row_of_trod {H : Type} {enc : TypeId × Value → H} {W : World} {fuel : Nat} {t e : TypeId} {a : Option Addr} {n c : Nat} {x : DataW H × List MemPlace} {α : Type} {f : α → Value}
    (ht : Try.prog.underlying t = some (.slice e)) (hc : Try.prog.cellsOf e = 1) (hf : ∀ (n : Nat) v d, DataW.trod enc Try.prog W 0 (fun _ => true) true n e [v] = some d → ∃ y, v = f y)
    (h : DataW.trod enc Try.prog W 0 (fun _ => true) true fuel t [.slice a n c] = some x) :
    ∃ l : List α, l.length = n ∧ ShowsV W a (l.map f) ∧ n ≤ c ∧ c ≤ maxLen := by
  rcases open_slice1 ht hc h with ⟨h0, _⟩ | ⟨ad, len, cap, m, k, V, D, Pl, hcs, _, hl, hcm, hm, _, hi⟩
  · simp only [List.cons.injEq, Value.slice.injEq, and_true] at h0
    obtain ⟨rfl, rfl, rfl⟩ := h0
    exact ⟨[], rfl, fun i v hv => by simp at hv, Nat.le_refl _, by unfold maxLen; omega⟩
  · simp only [List.cons.injEq, Value.slice.injEq, and_true] at hcs
    obtain ⟨rfl, rfl, rfl⟩ := hcs
    simp only [if_true] at hm
    obtain ⟨l, hll, hlp⟩ := list_of (p := fun i (y : α) => V i = f y) n (fun i hin => hf _ _ _ (hi i (by omega)).2)
    have hspot : 0 < n → ad.spot = none := fun hp => by
      have := (hi 0 (by omega)).1
      have := World.cell?_spot this
      simpa [Addr.add] using this
    refine ⟨l, hll, fun i v hv => ?_, hl, hcm⟩
    rw [List.getElem?_map, Option.map_eq_some_iff] at hv
    obtain ⟨y, hy, rfl⟩ := hv
    have hin : i < n := by have := (List.getElem?_eq_some_iff.1 hy).1; omega
    obtain ⟨b, o, sp⟩ := ad
    have hs := hspot (by omega)
    simp only at hs
    subst hs
    refine ⟨b, o, rfl, ?_⟩
    have := (hi i (by omega)).1
    rw [Addr.add_lit, hlp i y hy] at this
    exact this

namespace texts
set_option maxRecDepth 100000 in
theorem lifted (os : Os) (started : os.Started) (H : Type) (enc : TypeId × Value → H) :
    ReturnsInHanded {} Try.checked os 5 .any (Rows.coilTextsSpec.pre6 enc Try.prog Try.f5 Rows.coilTextsRow.domain false) (Rows.coilTextsSpec.post enc Try.prog Try.f5 false true false false) := by
  refine returnsInHanded_of_change (C := Try.checked) own started (by kernel_rfl) Try.func5
    (ChangeSpec.witness6 (enc := enc) (C := Try.checked) false ⟨#[], #[.slice none 0 0, .slice none 0 0], []⟩ 8 (by kernel_rfl) (by kernel_rfl) (by kernel_rfl) (by kernel_rfl)) ?_
  intro W base args ds gs before hval0 hW hcnd _
  have hval : ∀ (j : Nat) t v, Try.f5.params[j]? = some t → args[j]? = some v → Value.okWide Try.prog W .any base t v := hval0
  have hW' := hW
  obtain ⟨p, q, hA0, hV, rfl, hfz, hnd⟩ := hW
  have hA : DataW.TrodAll enc Try.prog W 0 (fun _ => true) true Try.f5.params.toList args.toList ds p := hA0
  rw [Try.params5] at hA hval
  obtain ⟨v1, vs1, d1, ds1, p1, q1, hargs, rfl, rfl, h1, r1⟩ := trodAll_cons hA
  obtain ⟨v2, vs2, d2, ds2, p2, q2, rfl, rfl, rfl, h2, r2⟩ := trodAll_cons r1
  obtain ⟨rfl, rfl, rfl⟩ := trodAll_nil r2
  obtain rfl : args = #[v1, v2] := by cases args; simp_all
  obtain ⟨rfl, rfl⟩ := trodVars_none hV
  have w1 := hval 0 45 v1 rfl rfl
  have w2 := hval 1 46 v2 rfl rfl
  obtain ⟨a1, len1, cap1, rfl⟩ := okWide_slice Try.underlying45 w1
  obtain ⟨a2, len2, cap2, rfl⟩ := okWide_slice Try.underlying46 w2
  have k1 := h1
  have k2 := h2
  have lt1 : ∀ x ∈ p1, x.block < W.heap.size := by obtain ⟨m, hm⟩ := k1; exact DataW.trod_lt m _ _ _ hm
  have lt2 : ∀ x ∈ p2, x.block < W.heap.size := by obtain ⟨m, hm⟩ := k2; exact DataW.trod_lt m _ _ _ hm
  obtain ⟨l1, rfl, s1, n1, c1⟩ : ∃ l : List ByteArray, l.length = len1 ∧ ShowsV W a1 (l.map Value.string) ∧ len1 ≤ cap1 ∧ cap1 ≤ maxLen := by
    obtain ⟨fuel, hf⟩ := h1
    exact row_of_trod Try.underlying45 cells9 (fun n v d hd => by
      obtain ⟨k, hk, _⟩ := DataW.trod_string Try.underlying9 hd
      exact ⟨k, by simpa using hk⟩) (by simpa [Value.cells] using hf)
  obtain ⟨l2, rfl, s2, n2, c2⟩ : ∃ l : List Bool, l.length = len2 ∧ ShowsV W a2 (l.map Value.bool) ∧ len2 ≤ cap2 ∧ cap2 ≤ maxLen := by
    obtain ⟨fuel, hf⟩ := h2
    exact row_of_trod Try.underlying46 cells4 (fun n v d hd => by
      obtain ⟨k, hk, _⟩ := DataW.trod_bool Try.underlying4 hd
      exact ⟨k, by simpa using hk⟩) (by simpa [Value.cells] using hf)
  clear hA0 hval0
  refine (texts_any a1 a2 cap1 cap2 l1 l2 W s1 s2 (Nat.le_trans n1 c1) (Nat.le_trans n2 c2)).mono fun e W' ⟨he, bel⟩ => ?_
  subst he
  exact ⟨_, rfl, _, _, _, [], _, [], hW', trodAll_mk1 (shut_bool Try.underlying4 _), (trodAll_cons_mk (Below.trod laidOut (by kernel_rfl) (of_decide_eq_true (by kernel_rfl)) k1 bel lt1) (trodAll_cons_mk (Below.trod laidOut (by kernel_rfl) (of_decide_eq_true (by kernel_rfl)) k2 bel lt2) trodAll_mk0)), rfl, bel.frame _, fun h => by cases h⟩

theorem over : Rows.coilTextsRow.holds Try.pinned (OpenSpec.ofChange Rows.coilTextsSpec) :=
  OpenClaim.holds_of_wide 5 Try.f5 rfl rfl rfl rfl rfl rfl rfl ⟨rfl, rfl, rfl, rfl, rfl⟩ rfl rfl rfl rfl rfl (by kernel_rfl) Try.func5 (by kernel_rfl)
    (of_decide_eq_true (by kernel_rfl)) (by unfold Func.isWrapper; first | (rw [if_pos (by decide +kernel)]; kernel_rfl) | (rw [if_neg (by decide +kernel)]; exact ⟨rfl, rfl⟩))
    (fun os started H enc _ => lifted os started H enc)

theorem proved : Rows.CoilTextsSaid := over
end texts
end Go.Proofs.Ytdgcafohfedbhaa
