/-
  THE ROW OF 'PostOnce': it returns true for every input, and leaves what came in as it was.
  Conditions: none beyond the given statement's own.
-/
import Derived.Test.YtjalihmjgjajcaaJ
import Derived.ProofKit
import Derived.OpenShut
import Derived.ChangeOld
import Derived.Deep.Slices
import Derived.Deep.Fields
import Derived.ChangeSame
import Derived.Lib.SmallJoins
namespace Go.Proofs.Ytjalihmjgjajcaa
open Go.ChangeShapes Go.WideShapes Go.ChangeAt Go.RowKit Go.Deep
set_option linter.unusedVariables false

theorem four_parts {H : Type} {enc : TypeId × Value → H} {w : World} {fuel : Nat} {A : Addr} {cs' : List Value} {x : DataW H × List MemPlace}
    (hc : w.cells? 0 A 4 = some cs') (ht : DataW.trod enc Try.prog w 0 (fun _ => true) true fuel 28 cs' = some x) :
    ∃ (k0 k1 k2 : Int) (k3 : ByteArray), w.cell? A = some (.int .i64 k0) ∧ w.cell? ⟨A.block, A.off + 1, none⟩ = some (.int .i64 k1) ∧ w.cell? ⟨A.block, A.off + 2, none⟩ = some (.int .i64 k2) ∧ w.cell? ⟨A.block, A.off + 3, none⟩ = some (.string k3) := by
  obtain ⟨_, hl, hcell⟩ := World.cells?_some hc
  obtain ⟨ys, n', _, _, _, hyl, hf⟩ := DataW.trod_struct Try.underlying28 ht
  match cs', hl with
  | [c0, c1, c2, c3], _ =>
    have e3 : Try.prog.cellsOf 3 = 1 := by kernel_rfl
    have e9 : Try.prog.cellsOf 9 = 1 := by kernel_rfl
    have g : ∀ j c, j < 4 → [c0, c1, c2, c3][j]? = some c → DataW.trod enc Try.prog w 0 (fun _ => true) true n' 3 [c] = ys[j]? → ∃ k : Int, w.cell? (A.add j) = some (.int .i64 k) := by
      intro j c hj hcj hy
      have hys : ys[j]? = some (ys[j]'(by simp at hyl; omega)) := List.getElem?_eq_getElem _
      rw [hys] at hy
      obtain ⟨k, hk, _, _⟩ := DataW.trod_int Try.underlying3 hy
      simp only [List.cons.injEq, and_true] at hk
      exact ⟨k, by rw [hcell j hj, hcj, hk]⟩
    have g9 : ∀ j c, j < 4 → [c0, c1, c2, c3][j]? = some c → DataW.trod enc Try.prog w 0 (fun _ => true) true n' 9 [c] = ys[j]? → ∃ k : ByteArray, w.cell? (A.add j) = some (.string k) := by
      intro j c hj hcj hy
      have hys : ys[j]? = some (ys[j]'(by simp at hyl; omega)) := List.getElem?_eq_getElem _
      rw [hys] at hy
      obtain ⟨k, hk, _⟩ := DataW.trod_string Try.underlying9 hy
      simp only [List.cons.injEq, and_true] at hk
      exact ⟨k, by rw [hcell j hj, hcj, hk]⟩
    have h0 : DataW.trod enc Try.prog w 0 (fun _ => true) true n' 3 (List.take (Try.prog.cellsOf 3) (List.drop 0 [c0, c1, c2, c3])) = ys[0]? := hf 0 _ rfl
    have h1 : DataW.trod enc Try.prog w 0 (fun _ => true) true n' 3 (List.take (Try.prog.cellsOf 3) (List.drop 1 [c0, c1, c2, c3])) = ys[1]? := hf 1 _ rfl
    have h2 : DataW.trod enc Try.prog w 0 (fun _ => true) true n' 3 (List.take (Try.prog.cellsOf 3) (List.drop 2 [c0, c1, c2, c3])) = ys[2]? := hf 2 _ rfl
    have h3 : DataW.trod enc Try.prog w 0 (fun _ => true) true n' 9 (List.take (Try.prog.cellsOf 9) (List.drop 3 [c0, c1, c2, c3])) = ys[3]? := hf 3 _ rfl
    rw [e3] at h0 h1 h2
    rw [e9] at h3
    obtain ⟨k0, q0⟩ := g 0 c0 (by omega) rfl h0
    obtain ⟨k1, q1⟩ := g 1 c1 (by omega) rfl h1
    obtain ⟨k2, q2⟩ := g 2 c2 (by omega) rfl h2
    obtain ⟨k3, q3⟩ := g9 3 c3 (by omega) rfl h3
    have q0' : w.cell? A = some (.int .i64 k0) := by simpa [Addr.add] using q0
    have hs := World.cell?_spot q0'
    obtain ⟨b, o, sp⟩ := A
    simp only at hs
    subst hs
    exact ⟨k0, k1, k2, k3, q0', by simpa [Addr.add] using q1, by simpa [Addr.add] using q2, by simpa [Addr.add] using q3⟩

theorem acts_of_trod {H : Type} {enc : TypeId × Value → H} {w : World} {fuel : Nat} {a : Option Addr} {n c : Nat} {x : DataW H × List MemPlace}
    (h : DataW.trod enc Try.prog w 0 (fun _ => true) true fuel 22 [.slice a n c] = some x) : ∃ y : Nat → AC, ActsAt w a n y := by
  rcases open_slice (e := 28) Try.underlying22 h with ⟨h0, _⟩ | ⟨ad, len, cap, m, k, D, Pl, hcs, _, hl, _, hm, _, hi⟩
  · simp only [List.cons.injEq, Value.slice.injEq, and_true] at h0
    obtain ⟨rfl, rfl, rfl⟩ := h0
    exact ⟨fun _ => ⟨0, 0, 0, ⟨#[]⟩⟩, fun i hi => by omega⟩
  · simp only [List.cons.injEq, Value.slice.injEq, and_true] at hcs
    obtain ⟨rfl, rfl, rfl⟩ := hcs
    simp only [if_true] at hm
    have one : ∀ i, i < n → ∃ z : AC, w.cell? (ad.add (i * 4)) = some (.int .i64 z.K) ∧ w.cell? ⟨(ad.add (i * 4)).block, (ad.add (i * 4)).off + 1, none⟩ = some (.int .i64 z.I) ∧
        w.cell? ⟨(ad.add (i * 4)).block, (ad.add (i * 4)).off + 2, none⟩ = some (.int .i64 z.To) ∧ w.cell? ⟨(ad.add (i * 4)).block, (ad.add (i * 4)).off + 3, none⟩ = some (.string z.W) := by
      intro i hin
      obtain ⟨cs', hc, ht⟩ := hi i (by omega)
      rw [show Try.prog.cellsOf 28 = 4 from by kernel_rfl] at hc
      obtain ⟨k0, k1, k2, k3, q⟩ := four_parts hc ht
      exact ⟨⟨k0, k1, k2, k3⟩, q⟩
    refine ⟨fun i => if hin : i < n then Classical.choose (one i hin) else ⟨0, 0, 0, ⟨#[]⟩⟩, fun i hin => ⟨ad, rfl, ?_⟩⟩
    simp only [dif_pos hin]
    exact Classical.choose_spec (one i hin)

theorem own : ownKnob Try.prog.godebug = none := by kernel_rfl
theorem laidOut : laidOutB Try.prog = true := by kernel_rfl

namespace once
set_option maxRecDepth 100000 in
theorem lifted (os : Os) (started : os.Started) (H : Type) (enc : TypeId × Value → H) :
    ReturnsInHanded {} Try.checked os 3 .any (Rows.postOnceSpec.pre6 enc Try.prog Try.f3 Rows.postOnceRow.domain false) (Rows.postOnceSpec.post enc Try.prog Try.f3 false true false false) := by
  refine returnsInHanded_of_change (C := Try.checked) own started (by kernel_rfl) Try.func3
    (ChangeSpec.witness6 (enc := enc) (C := Try.checked) false ⟨#[], #[.slice none 0 0], []⟩ 8 (by kernel_rfl) (by kernel_rfl) (by kernel_rfl) (by kernel_rfl)) ?_
  intro W base args ds gs before hval0 hW hcnd _
  have hval : ∀ (j : Nat) t v, Try.f3.params[j]? = some t → args[j]? = some v → Value.okWide Try.prog W .any base t v := hval0
  have hW' := hW
  obtain ⟨p, q, hA0, hV, rfl, hfz, hnd⟩ := hW
  have hA : DataW.TrodAll enc Try.prog W 0 (fun _ => true) true Try.f3.params.toList args.toList ds p := hA0
  rw [Try.params3] at hA hval
  obtain ⟨v1, vs1, d1, ds1, p1, q1, hargs, rfl, rfl, h1, r1⟩ := trodAll_cons hA
  obtain ⟨rfl, rfl, rfl⟩ := trodAll_nil r1
  obtain rfl : args = #[v1] := by cases args; simp_all
  obtain ⟨rfl, rfl⟩ := trodVars_none hV
  obtain ⟨a1, len1, cap1, rfl⟩ := okWide_slice Try.underlying22 (hval 0 22 v1 rfl rfl)
  have k1 := h1
  have lt1 : ∀ x ∈ p1, x.block < W.heap.size := by obtain ⟨m, hm⟩ := k1; exact DataW.trod_lt m _ _ _ hm
  obtain ⟨x1, hx1⟩ : ∃ y : Nat → AC, ActsAt W a1 len1 y := by
    obtain ⟨fuel, hf⟩ := h1
    exact acts_of_trod (by simpa [Value.cells] using hf)
  clear hA0 hval0
  refine (once_any a1 len1 cap1 x1 W hx1).mono fun e W' ⟨he, bel⟩ => ?_
  subst he
  exact ⟨_, rfl, _, _, _, [], _, [], hW', trodAll_mk1 (shut_bool Try.underlying4 _), (trodAll_cons_mk (Below.trod laidOut (by kernel_rfl) (of_decide_eq_true (by kernel_rfl)) k1 bel lt1) trodAll_mk0), rfl, bel.frame _, fun h => by cases h⟩

theorem over : Rows.postOnceRow.holds Try.pinned (OpenSpec.ofChange Rows.postOnceSpec) :=
  OpenClaim.holds_of_wide 3 Try.f3 rfl rfl rfl rfl rfl rfl rfl ⟨rfl, rfl, rfl, rfl, rfl⟩ rfl rfl rfl rfl rfl (by kernel_rfl) Try.func3 (by kernel_rfl)
    (of_decide_eq_true (by kernel_rfl)) (by unfold Func.isWrapper; first | (rw [if_pos (by decide +kernel)]; kernel_rfl) | (rw [if_neg (by decide +kernel)]; exact ⟨rfl, rfl⟩))
    (fun os started H enc _ => lifted os started H enc)

theorem proved : Rows.PostOnceSaid := over
end once
end Go.Proofs.Ytjalihmjgjajcaa
