/-
  THE ROW OF 'LinkTorn' AND ITS TIED CARD: of a chain each beginning has just the frames that stand whole in it, and is torn; with a bit turned, what comes ahead of it is as it was.
  Conditions: none beyond the given statement's own.
-/
import Derived.Test.YtdgcafohfedbhaaDoorM
import Derived.Test.YtdgcafohfedbhaaDoorU
import Derived.Deep.Slices
namespace Go.Proofs.YtdgcafohfedbhaaDoor.torn
open Go.ChangeShapes Go.WideShapes Go.ChangeAt Go.RowKit Go.Deep
open Go.Proofs.YtdgcafohfedbhaaDoor.K Go.Proofs.YtdgcafohfedbhaaDoor.T
set_option linter.unusedVariables false

theorem cells22 : Tryd.prog.cellsOf 22 = 1 := by kernel_rfl
theorem list_of {α : Type} {p : Nat → α → Prop} (n : Nat) (h : ∀ i, i < n → ∃ x, p i x) : ∃ l : List α, l.length = n ∧ ∀ i x, l[i]? = some x → p i x := by
  induction n with
  | zero => exact ⟨[], rfl, fun i x hx => by simp at hx⟩
  | succ n ih =>
    obtain ⟨l, hl, hp⟩ := ih (fun i hi => h i (by omega))
    obtain ⟨x, hx⟩ := h n (by omega)
    refine ⟨l ++ [x], by simp [hl], fun i y hy => ?_⟩
    rw [List.getElem?_append] at hy
    split at hy
    · exact hp i y hy
    · rename_i hge
      have hi : i = n := by have := (List.getElem?_eq_some_iff.1 hy).1; simp at this; omega
      subst hi
      simp [hl] at hy
      subst hy
      exact hx
/-- a slice of payloads that came in -/
theorem items_of_trod {H : Type} {enc : TypeId × Value → H} {W : World} {fuel : Nat} {a : Option Addr} {n c : Nat} {x : DataW H × List MemPlace}
    (h : DataW.trod enc Tryd.prog W 0 (fun _ => true) true fuel 32 [.slice a n c] = some x) :
    ∃ L : List (List Nat), L.length = n ∧ Items W a L ∧ (∀ y ∈ L, Oct y) ∧ n ≤ c ∧ c ≤ maxLen := by
  rcases open_slice1 Tryd.underlying32 cells22 h with ⟨h0, _⟩ | ⟨ad, len, cap, m, k, V, D, Pl, hcs, _, hl, hcm, hm, _, hi⟩
  · simp only [List.cons.injEq, Value.slice.injEq, and_true] at h0
    obtain ⟨rfl, rfl, rfl⟩ := h0
    exact ⟨[], rfl, fun i v hv => by simp at hv, fun y hy => by simp at hy, Nat.le_refl _, by unfold maxLen; omega⟩
  · simp only [List.cons.injEq, Value.slice.injEq, and_true] at hcs
    obtain ⟨rfl, rfl, rfl⟩ := hcs
    simp only [if_true] at hm
    obtain ⟨L, hLl, hLp⟩ := list_of (p := fun i (y : List Nat) => ∃ ai ci, V i = .slice ai y.length ci ∧ Shows W ai y ∧ Oct y) n (fun i hin => by
      have ht := (hi i (by omega)).2
      have hform : ∃ ai ni ci, V i = .slice ai ni ci := by
        rcases open_ints Tryd.underlying22 Tryd.underlying5 cells5 ht with ⟨hc, _⟩ | ⟨ad', len', cap', zs, hc, _⟩
        · exact ⟨none, 0, 0, by simpa using hc⟩
        · exact ⟨some ad', len', cap', by simpa using hc⟩
      obtain ⟨ai, ni, ci, hv⟩ := hform
      rw [hv] at ht
      obtain ⟨bs, rfl, h1, h2, _, _⟩ := bytes_of_trod ht
      exact ⟨bs, ai, ci, hv, h1, h2⟩)
    have hspot : 0 < n → ad.spot = none := fun hp => by
      have := (hi 0 (by omega)).1
      have := World.cell?_spot this
      simpa [Addr.add] using this
    refine ⟨L, hLl, fun i y hy => ?_, fun y hy => ?_, hl, hcm⟩
    · have hin : i < n := by have := (List.getElem?_eq_some_iff.1 hy).1; omega
      obtain ⟨b, o, sp⟩ := ad
      have hs := hspot (by omega)
      simp only at hs
      subst hs
      obtain ⟨ai, ci, hv, h1, _⟩ := hLp i y hy
      have hc := (hi i (by omega)).1
      rw [Addr.add_lit, hv] at hc
      exact ⟨b, o, _, rfl, hc, (match ai with | some ad => ad.block + 1 | none => 0), ai, ci, rfl, h1, fun ad' e => by subst e; exact Nat.lt_succ_self _⟩
    · obtain ⟨i, hy2⟩ := List.getElem?_of_mem hy
      obtain ⟨_, _, _, _, h2⟩ := hLp i y hy2
      exact h2

theorem contract (H : Type) (enc : TypeId × Value → H) (W : World) (base : Nat) (args : Array Value) (ds gs : List (DataW H)) (before : List MemPlace)
    (hval : ∀ (j : Nat) t v, Tryd.f5.params[j]? = some t → args[j]? = some v → Value.okWide Tryd.prog W .any base t v)
    (hW : DataW.Whole enc Tryd.prog Tryd.f5.params.toList Rows.linkTornSpec.vars false W args.toList ds gs before) (hL : laidMetH Tryd.prog Rows.linkTornRow.laid W) :
    Calls Tryd.prog 5 args W fun e W' => ∃ v, e = .returned v ∧ Rows.linkTornSpec.post enc Tryd.prog Tryd.f5 false true false false W args v W' := by
  have hW' := hW
  obtain ⟨p, q, hA0, hV, rfl, hfz, hnd⟩ := hW
  have hA : DataW.TrodAll enc Tryd.prog W 0 (fun _ => true) true Tryd.f5.params.toList args.toList ds p := hA0
  rw [Tryd.params5] at hA hval
  obtain ⟨v0, vs0, d0, ds0, p0, q0, hargs, rfl, rfl, h0, r0⟩ := trodAll_cons hA
  obtain ⟨v1, vs1, d1, ds1, p1, q1, rfl, rfl, rfl, h1, r1⟩ := trodAll_cons r0
  obtain ⟨v2, vs2, d2, ds2, p2, q2, rfl, rfl, rfl, h2, r2⟩ := trodAll_cons r1
  obtain ⟨rfl, rfl, rfl⟩ := trodAll_nil r2
  obtain rfl : args = #[v0, v1, v2] := by cases args; simp_all
  obtain ⟨rfl, rfl⟩ := trodVars_none hV
  have w0 := hval 0 32 v0 rfl rfl
  obtain ⟨a0, len0, cap0, rfl⟩ := okWide_slice Tryd.underlying32 w0
  have k0 := h0
  have lt0 : ∀ x ∈ p0, x.block < W.heap.size := by obtain ⟨m, hm⟩ := k0; exact DataW.trod_lt m _ _ _ hm
  obtain ⟨L, rfl, s0, o0, n0, c0⟩ : ∃ L : List (List Nat), L.length = len0 ∧ Items W a0 L ∧ (∀ y ∈ L, Oct y) ∧ len0 ≤ cap0 ∧ cap0 ≤ maxLen := by
    obtain ⟨fuel, hf⟩ := h0
    exact items_of_trod (by simpa [Value.cells] using hf)
  obtain ⟨z, rfl, rfl, rfl, w1⟩ := open_int Tryd.underlying28 (hval 1 28 v1 rfl rfl) h1
  have hz : 0 ≤ z ∧ z ≤ 65535 := by simpa [Lit.wf, IntKind.min, IntKind.max, IntKind.signed, IntKind.bits] using w1
  obtain ⟨zn, rfl⟩ : ∃ zn : Nat, z = (zn : Int) := ⟨z.toNat, by omega⟩
  obtain ⟨b, rfl, rfl, rfl, w2⟩ := open_int Tryd.underlying28 (hval 2 28 v2 rfl rfl) h2
  have hb : 0 ≤ b ∧ b ≤ 65535 := by simpa [Lit.wf, IntKind.min, IntKind.max, IntKind.signed, IntKind.bits] using w2
  obtain ⟨bn, rfl⟩ : ∃ bn : Nat, b = (bn : Int) := ⟨b.toNat, by omega⟩
  refine (torn_any a0 cap0 zn bn L W s0 o0 (Nat.le_trans n0 c0) (by omega) (by omega) (table hL)).mono fun e W' ⟨he, bel⟩ => ?_
  subst he
  exact ⟨_, rfl, _, _, _, [], _, [], hW', trodAll_mk1 (shut_bool Tryd.underlying4 _), (trodAll_cons_mk (Below.trod laidOut (by kernel_rfl) (of_decide_eq_true (by kernel_rfl)) k0 bel lt0) (trodAll_cons_mk (shut_int Tryd.underlying28 w1) (trodAll_cons_mk (shut_int Tryd.underlying28 w2) trodAll_mk0))), rfl, bel.frame _, fun h => by cases h⟩

theorem laid_met (os : Os) : laidMet Tryd.prog Rows.linkTornRow.laid ((laidWorld os).forCall (fun _ _ => 0) ⟨#[], #[.slice none 0 0, .int .u16 0, .int .u16 0], []⟩).memory :=
  laidMet_of_run' 8 (by kernel_rfl) (by kernel_rfl)
theorem reads (os : Os) {H : Type} (enc : TypeId × Value → H) : ∃ places, DataW.whole enc Tryd.prog ((laidWorld os).forCall (fun _ _ => 0) ⟨#[], #[.slice none 0 0, .int .u16 0, .int .u16 0], []⟩).memory Tryd.f5.params.toList Rows.linkTornSpec.vars false #[Value.slice none 0 0, .int .u16 0, .int .u16 0].toList 8 = some ([.nil, .lit (.int .u16 0), .lit (.int .u16 0)], [], places) :=
  ⟨[], by kernel_rfl⟩

set_option maxRecDepth 100000 in
theorem lifted (os : Os) (started : os.Started) (H : Type) (enc : TypeId × Value → H) (F : Stop.Interp) :
    ReturnsInHanded {} Tryd.checked os 5 .any ((OpenSpec.ofChange Rows.linkTornSpec).preRow enc Tryd.prog Tryd.f5 Rows.linkTornRow.domain false Rows.linkTornRow.laid) (((OpenSpec.ofChange Rows.linkTornSpec).at F).post enc Tryd.prog Tryd.f5 false true false false) := by
  obtain ⟨places, hx⟩ := reads os enc
  refine returnsInHanded_of_row (C := Tryd.checked) (s := OpenSpec.ofChange Rows.linkTornSpec) own started (by kernel_rfl) Tryd.func5
    (witness_row_at (enc := enc) (C := Tryd.checked) false (laidWorld os) #[.slice none 0 0, .int .u16 0, .int .u16 0] rfl (by kernel_rfl) (by kernel_rfl) (by kernel_rfl)
      (OpenSpec.preRow_of_cond 8 hx (by kernel_rfl) (fun k hk => by cases hk) (by kernel_rfl) (laid_met os))) ?_
  intro W base args ds gs before hval hW _ _ _ hL _ _
  exact contract H enc W base args ds gs before hval hW hL

theorem said : Rows.LinkTornSaid :=
  OpenClaim.holds_of_cond 5 Tryd.f5 rfl rfl rfl rfl rfl rfl rfl ⟨rfl, rfl, rfl, rfl, rfl⟩ rfl rfl rfl rfl rfl (by kernel_rfl) Tryd.func5 (by kernel_rfl)
    (of_decide_eq_true (by kernel_rfl)) (by unfold Func.isWrapper; first | (rw [if_pos (by decide +kernel)]; kernel_rfl) | (rw [if_neg (by decide +kernel)]; exact ⟨rfl, rfl⟩))
    (fun os started H enc _ F => by rw [OpenClaim.pre_eq_preRow]; exact lifted os started H enc F)

theorem plain (f : FuncId) (fn : Func) (hf : Tryd.pinned.checked.prog.funcNamed "tidemill/tidemilllaw04.LinkTorn" = some f) (hfn : Tryd.pinned.checked.prog.funcs[f]? = some fn) :
    false = Tryd.pinned.checked.prog.looks [] ∧ ∀ (j : Nat) t, fn.params[j]? = some t → Tryd.pinned.checked.prog.wantsStandIn t = false := by
  obtain rfl : f = 5 := Option.some.inj ((show Tryd.prog.funcNamed "tidemill/tidemilllaw04.LinkTorn" = some 5 by kernel_rfl).symm.trans hf) |>.symm
  obtain rfl : fn = Tryd.f5 := (Option.some.inj (Tryd.func5.symm.trans hfn)).symm
  refine ⟨by kernel_rfl, fun j t ht => ?_⟩
  rw [Tryd.params5] at ht
  have hm : t = 32 ∨ t = 28 := by simpa using Array.mem_of_getElem? ht
  rcases hm with rfl | rfl
  · exact (show Tryd.prog.wantsStandIn 32 = false by kernel_rfl)
  · exact (show Tryd.prog.wantsStandIn 28 = false by kernel_rfl)

/-- the tied card -/
theorem proved : Rows.LinkTornCardSaid :=
  Claim7.holds_tied_plain_at .later [] _ _ _ _ said (fun _ h => by cases h) (by kernel_rfl) (fun _ h => by cases h) linkTorn_row_tie rfl ⟨rfl, rfl⟩ (by kernel_rfl) rfl plain (by kernel_rfl)
end Go.Proofs.YtdgcafohfedbhaaDoor.torn
