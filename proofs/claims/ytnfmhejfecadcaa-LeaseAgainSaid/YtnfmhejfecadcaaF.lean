/-
  THE TWO ROWS OF THE LEASE THAT IS PLAYED: 'LeasePlays' and 'LeaseLoads' return true for every input, and leave what came in as it was.
  Conditions: none beyond the given statements' own.
-/
import Derived.Test.YtnfmhejfecadcaaE
import Derived.ProofKit
import Derived.OpenShut
import Derived.ChangeOld
import Derived.Deep.Slices
import Derived.Deep.Fields
import Derived.ChangeSame
import Derived.Lib.SmallJoins
namespace Go.Proofs.Ytnfmhejfecadcaa
open Go.ChangeShapes Go.WideShapes Go.ChangeAt Go.RowKit Go.Deep
set_option linter.unusedVariables false

theorem four_ints {H : Type} {enc : TypeId × Value → H} {w : World} {fuel : Nat} {A : Addr} {cs' : List Value} {x : DataW H × List MemPlace}
    (hc : w.cells? 0 A 4 = some cs') (ht : DataW.trod enc Try.prog w 0 (fun _ => true) true fuel 33 cs' = some x) :
    ∃ k0 k1 k2 k3 : Int, w.cell? A = some (.int .i64 k0) ∧ w.cell? ⟨A.block, A.off + 1, none⟩ = some (.int .i64 k1) ∧ w.cell? ⟨A.block, A.off + 2, none⟩ = some (.int .i64 k2) ∧ w.cell? ⟨A.block, A.off + 3, none⟩ = some (.int .i64 k3) := by
  obtain ⟨_, hl, hcell⟩ := World.cells?_some hc
  obtain ⟨ys, n', _, _, _, hyl, hf⟩ := DataW.trod_struct Try.underlying33 ht
  match cs', hl with
  | [c0, c1, c2, c3], _ =>
    have e3 : Try.prog.cellsOf 3 = 1 := by kernel_rfl
    have g : ∀ j c, j < 4 → [c0, c1, c2, c3][j]? = some c → DataW.trod enc Try.prog w 0 (fun _ => true) true n' 3 [c] = ys[j]? → ∃ k : Int, w.cell? (A.add j) = some (.int .i64 k) := by
      intro j c hj hcj hy
      have hys : ys[j]? = some (ys[j]'(by simp at hyl; omega)) := List.getElem?_eq_getElem _
      rw [hys] at hy
      obtain ⟨k, hk, _, _⟩ := DataW.trod_int Try.underlying3 hy
      simp only [List.cons.injEq, and_true] at hk
      exact ⟨k, by rw [hcell j hj, hcj, hk]⟩
    have h0 : DataW.trod enc Try.prog w 0 (fun _ => true) true n' 3 (List.take (Try.prog.cellsOf 3) (List.drop 0 [c0, c1, c2, c3])) = ys[0]? := hf 0 _ rfl
    have h1 : DataW.trod enc Try.prog w 0 (fun _ => true) true n' 3 (List.take (Try.prog.cellsOf 3) (List.drop 1 [c0, c1, c2, c3])) = ys[1]? := hf 1 _ rfl
    have h2 : DataW.trod enc Try.prog w 0 (fun _ => true) true n' 3 (List.take (Try.prog.cellsOf 3) (List.drop 2 [c0, c1, c2, c3])) = ys[2]? := hf 2 _ rfl
    have h3 : DataW.trod enc Try.prog w 0 (fun _ => true) true n' 3 (List.take (Try.prog.cellsOf 3) (List.drop 3 [c0, c1, c2, c3])) = ys[3]? := hf 3 _ rfl
    rw [e3] at h0 h1 h2 h3
    obtain ⟨k0, q0⟩ := g 0 c0 (by omega) rfl h0
    obtain ⟨k1, q1⟩ := g 1 c1 (by omega) rfl h1
    obtain ⟨k2, q2⟩ := g 2 c2 (by omega) rfl h2
    obtain ⟨k3, q3⟩ := g 3 c3 (by omega) rfl h3
    have q0' : w.cell? A = some (.int .i64 k0) := by simpa [Addr.add] using q0
    have hs := World.cell?_spot q0'
    obtain ⟨b, o, sp⟩ := A
    simp only at hs
    subst hs
    exact ⟨k0, k1, k2, k3, q0', by simpa [Addr.add] using q1, by simpa [Addr.add] using q2, by simpa [Addr.add] using q3⟩

theorem acts_of_trod {H : Type} {enc : TypeId × Value → H} {w : World} {fuel : Nat} {a : Option Addr} {n c : Nat} {x : DataW H × List MemPlace}
    (h : DataW.trod enc Try.prog w 0 (fun _ => true) true fuel 22 [.slice a n c] = some x) : ∃ y : Nat → AC, ActsAt w a n y := by
  rcases open_slice (e := 33) Try.underlying22 h with ⟨h0, _⟩ | ⟨ad, len, cap, m, k, D, Pl, hcs, _, hl, _, hm, _, hi⟩
  · simp only [List.cons.injEq, Value.slice.injEq, and_true] at h0
    obtain ⟨rfl, rfl, rfl⟩ := h0
    exact ⟨fun _ => ⟨0, 0, 0, 0⟩, fun i hi => by omega⟩
  · simp only [List.cons.injEq, Value.slice.injEq, and_true] at hcs
    obtain ⟨rfl, rfl, rfl⟩ := hcs
    simp only [if_true] at hm
    have one : ∀ i, i < n → ∃ z : AC, w.cell? (ad.add (i * 4)) = some (.int .i64 z.K) ∧ w.cell? ⟨(ad.add (i * 4)).block, (ad.add (i * 4)).off + 1, none⟩ = some (.int .i64 z.W) ∧
        w.cell? ⟨(ad.add (i * 4)).block, (ad.add (i * 4)).off + 2, none⟩ = some (.int .i64 z.E) ∧ w.cell? ⟨(ad.add (i * 4)).block, (ad.add (i * 4)).off + 3, none⟩ = some (.int .i64 z.N) := by
      intro i hin
      obtain ⟨cs', hc, ht⟩ := hi i (by omega)
      rw [show Try.prog.cellsOf 33 = 4 from by kernel_rfl] at hc
      obtain ⟨k0, k1, k2, k3, q⟩ := four_ints hc ht
      exact ⟨⟨k0, k1, k2, k3⟩, q⟩
    refine ⟨fun i => if hin : i < n then Classical.choose (one i hin) else ⟨0, 0, 0, 0⟩, fun i hin => ⟨ad, rfl, ?_⟩⟩
    simp only [dif_pos hin]
    exact Classical.choose_spec (one i hin)

theorem own : ownKnob Try.prog.godebug = none := by kernel_rfl
theorem laidOut : laidOutB Try.prog = true := by kernel_rfl

namespace plays
set_option maxRecDepth 100000 in
theorem lifted (os : Os) (started : os.Started) (H : Type) (enc : TypeId × Value → H) :
    ReturnsInHanded {} Try.checked os 3 .any (Rows.leasePlaysSpec.pre6 enc Try.prog Try.f3 Rows.leasePlaysRow.domain false) (Rows.leasePlaysSpec.post enc Try.prog Try.f3 false true false false) := by
  refine returnsInHanded_of_change (C := Try.checked) own started (by kernel_rfl) Try.func3
    (ChangeSpec.witness6 (enc := enc) (C := Try.checked) false ⟨#[], #[.int .i64 0, .slice none 0 0], []⟩ 8 (by kernel_rfl) (by kernel_rfl) (by kernel_rfl) (by kernel_rfl)) ?_
  intro W base args ds gs before hval0 hW hcnd _
  have hval : ∀ (j : Nat) t v, Try.f3.params[j]? = some t → args[j]? = some v → Value.okWide Try.prog W .any base t v := hval0
  have hW' := hW
  obtain ⟨p, q, hA0, hV, rfl, hfz, hnd⟩ := hW
  have hA : DataW.TrodAll enc Try.prog W 0 (fun _ => true) true Try.f3.params.toList args.toList ds p := hA0
  rw [Try.params3] at hA hval
  obtain ⟨v0, vs0, d0, ds0, p0, q0, hargs, rfl, rfl, h0, r0⟩ := trodAll_cons hA
  obtain ⟨v1, vs1, d1, ds1, p1, q1, rfl, rfl, rfl, h1, r1⟩ := trodAll_cons r0
  obtain ⟨rfl, rfl, rfl⟩ := trodAll_nil r1
  obtain rfl : args = #[v0, v1] := by cases args; simp_all
  obtain ⟨rfl, rfl⟩ := trodVars_none hV
  obtain ⟨a0, rfl, rfl, rfl, w0⟩ := open_int Try.underlying3 (hval 0 3 v0 rfl rfl) h0
  obtain ⟨a1, len1, cap1, rfl⟩ := okWide_slice Try.underlying22 (hval 1 22 v1 rfl rfl)
  have k1 := h1
  have lt1 : ∀ x ∈ p1, x.block < W.heap.size := by obtain ⟨m, hm⟩ := k1; exact DataW.trod_lt m _ _ _ hm
  obtain ⟨x1, hx1⟩ : ∃ y : Nat → AC, ActsAt W a1 len1 y := by
    obtain ⟨fuel, hf⟩ := h1
    exact acts_of_trod (by simpa [Value.cells] using hf)
  clear hA0 hval0
  refine (plays_any a0 a1 len1 cap1 x1 W hx1).mono fun e W' ⟨he, bel⟩ => ?_
  subst he
  exact ⟨_, rfl, _, _, _, [], _, [], hW', trodAll_mk1 (shut_bool Try.underlying4 _), (trodAll_cons_mk (shut_int Try.underlying3 w0) (trodAll_cons_mk (Below.trod laidOut (by kernel_rfl) (of_decide_eq_true (by kernel_rfl)) k1 bel lt1) trodAll_mk0)), rfl, bel.frame _, fun h => by cases h⟩

theorem over : Rows.leasePlaysRow.holds Try.pinned (OpenSpec.ofChange Rows.leasePlaysSpec) :=
  OpenClaim.holds_of_wide 3 Try.f3 rfl rfl rfl rfl rfl rfl rfl ⟨rfl, rfl, rfl, rfl, rfl⟩ rfl rfl rfl rfl rfl (by kernel_rfl) Try.func3 (by kernel_rfl)
    (of_decide_eq_true (by kernel_rfl)) (by unfold Func.isWrapper; first | (rw [if_pos (by decide +kernel)]; kernel_rfl) | (rw [if_neg (by decide +kernel)]; exact ⟨rfl, rfl⟩))
    (fun os started H enc _ => lifted os started H enc)

theorem proved : Rows.LeasePlaysSaid := over
end plays

namespace loads
set_option maxRecDepth 100000 in
theorem lifted (os : Os) (started : os.Started) (H : Type) (enc : TypeId × Value → H) :
    ReturnsInHanded {} Try.checked os 6 .any (Rows.leaseLoadsSpec.pre6 enc Try.prog Try.f6 Rows.leaseLoadsRow.domain false) (Rows.leaseLoadsSpec.post enc Try.prog Try.f6 false true false false) := by
  refine returnsInHanded_of_change (C := Try.checked) own started (by kernel_rfl) Try.func6
    (ChangeSpec.witness6 (enc := enc) (C := Try.checked) false ⟨#[], #[.int .u8 0, .agg #[.int .i64 0, .int .i64 0, .int .i64 0, .bool false], .slice none 0 0], []⟩ 8 (by kernel_rfl) (by kernel_rfl) (by kernel_rfl) (by kernel_rfl)) ?_
  intro W base args ds gs before hval0 hW hcnd _
  have hval : ∀ (j : Nat) t v, Try.f6.params[j]? = some t → args[j]? = some v → Value.okWide Try.prog W .any base t v := hval0
  have hW' := hW
  obtain ⟨p, q, hA0, hV, rfl, hfz, hnd⟩ := hW
  have hA : DataW.TrodAll enc Try.prog W 0 (fun _ => true) true Try.f6.params.toList args.toList ds p := hA0
  rw [Try.params6] at hA hval
  obtain ⟨v0, vs0, d0, ds0, p0, q0, hargs, rfl, rfl, h0, r0⟩ := trodAll_cons hA
  obtain ⟨v1, vs1, d1, ds1, p1, q1, rfl, rfl, rfl, h1, r1⟩ := trodAll_cons r0
  obtain ⟨v2, vs2, d2, ds2, p2, q2, rfl, rfl, rfl, h2, r2⟩ := trodAll_cons r1
  obtain ⟨rfl, rfl, rfl⟩ := trodAll_nil r2
  obtain rfl : args = #[v0, v1, v2] := by cases args; simp_all
  obtain ⟨rfl, rfl⟩ := trodVars_none hV
  obtain ⟨a0, rfl, rfl, rfl, w0⟩ := open_int Try.underlying5 (hval 0 5 v0 rfl rfl) h0
  have hx0 : 0 ≤ a0 ∧ a0 ≤ 255 := by simpa [Lit.wf, IntKind.min, IntKind.max, IntKind.signed, IntKind.bits] using w0
  have k1 := h1
  have lt1 : ∀ x ∈ p1, x.block < W.heap.size := by obtain ⟨m, hm⟩ := k1; exact DataW.trod_lt m _ _ _ hm
  obtain ⟨E, Hh, U, S, rfl⟩ : ∃ (E Hh U : Int) (S : Bool), v1 = .agg #[.int .i64 E, .int .i64 Hh, .int .i64 U, .bool S] := by
    obtain ⟨c0, c1, c2, c3, y0, y1, y2, y3, m, rfl, _, _, g0, g1, g2, g3⟩ := Joins.open_agg4 Try.underlying42 (by kernel_rfl) (by kernel_rfl) (hval 1 42 v1 rfl rfl) h1
    obtain ⟨x0, e0, _, _⟩ := DataW.trod_int Try.underlying3 g0
    obtain ⟨x1, e1, _, _⟩ := DataW.trod_int Try.underlying3 g1
    obtain ⟨x2, e2, _, _⟩ := DataW.trod_int Try.underlying3 g2
    obtain ⟨x3, e3, _⟩ := DataW.trod_bool Try.underlying4 g3
    simp only [List.cons.injEq, and_true] at e0 e1 e2 e3
    subst e0; subst e1; subst e2; subst e3
    exact ⟨_, _, _, _, rfl⟩
  obtain ⟨a2, len2, cap2, rfl⟩ := okWide_slice Try.underlying22 (hval 2 22 v2 rfl rfl)
  have k2 := h2
  have lt2 : ∀ x ∈ p2, x.block < W.heap.size := by obtain ⟨m, hm⟩ := k2; exact DataW.trod_lt m _ _ _ hm
  obtain ⟨x2, hx2⟩ : ∃ y : Nat → AC, ActsAt W a2 len2 y := by
    obtain ⟨fuel, hf⟩ := h2
    exact acts_of_trod (by simpa [Value.cells] using hf)
  clear hA0 hval0
  refine (loads_any a0 E Hh U S a2 len2 cap2 x2 W hx0.1 hx0.2 hx2).mono fun e W' ⟨he, bel⟩ => ?_
  subst he
  exact ⟨_, rfl, _, _, _, [], _, [], hW', trodAll_mk1 (shut_bool Try.underlying4 _), (trodAll_cons_mk (shut_int Try.underlying5 w0) (trodAll_cons_mk (Below.trod laidOut (by kernel_rfl) (of_decide_eq_true (by kernel_rfl)) k1 bel lt1) (trodAll_cons_mk (Below.trod laidOut (by kernel_rfl) (of_decide_eq_true (by kernel_rfl)) k2 bel lt2) trodAll_mk0))), rfl, bel.frame _, fun h => by cases h⟩

theorem over : Rows.leaseLoadsRow.holds Try.pinned (OpenSpec.ofChange Rows.leaseLoadsSpec) :=
  OpenClaim.holds_of_wide 6 Try.f6 rfl rfl rfl rfl rfl rfl rfl ⟨rfl, rfl, rfl, rfl, rfl⟩ rfl rfl rfl rfl rfl (by kernel_rfl) Try.func6 (by kernel_rfl)
    (of_decide_eq_true (by kernel_rfl)) (by unfold Func.isWrapper; first | (rw [if_pos (by decide +kernel)]; kernel_rfl) | (rw [if_neg (by decide +kernel)]; exact ⟨rfl, rfl⟩))
    (fun os started H enc _ => lifted os started H enc)

theorem proved : Rows.LeaseLoadsSaid := over
end loads
end Go.Proofs.Ytnfmhejfecadcaa
