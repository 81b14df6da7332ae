/-
  THE ROW OF 'LinkSums' AND ITS TIED CARD: the sum of any bytes is the document's.
  Conditions: none beyond the given statement's own.
-/
import Derived.Test.YtdgcafohfedbhaaDoorC
import Derived.Test.YtdgcafohfedbhaaDoorCards
import Derived.Test.YtdgcafohfedbhaaDoorTie
import Derived.ProofKit
import Derived.OpenShut
import Derived.ChangeSlices
import Derived.Deep.DeepHandedRow
import Derived.Lib.LaidTab
namespace Go.Proofs.YtdgcafohfedbhaaDoor.sums
open Go.ChangeShapes Go.WideShapes Go.ChangeAt Go.RowKit
set_option linter.unusedVariables false

theorem own : ownKnob Tryd.prog.godebug = none := by kernel_rfl
theorem laidOut : laidOutB Tryd.prog = true := by kernel_rfl
theorem gTab : Tryd.prog.globalNamed "tidemill/link.nibbles" = some 0 := by kernel_rfl
theorem gTabType : (Tryd.prog.globals[0]?).map (·.type) = some 43 := by kernel_rfl
theorem cells43 : Tryd.prog.cellsOf 43 = 16 := by kernel_rfl
theorem cells24 : Tryd.prog.cellsOf 24 = 1 := by kernel_rfl
theorem cells5 : Tryd.prog.cellsOf 5 = 1 := by kernel_rfl

/-- what the row's list gives: the table's cells -/
theorem table {W : World} (h : laidMetH Tryd.prog Rows.linkSumsRow.laid W) : NibAt W := by
  have hT : Lib.TabIs Tryd.prog W "tidemill/link.nibbles" .u32 (nibN.map Int.ofNat) := Lib.tabIs_of_head (rest := []) gTab gTabType Tryd.underlying43 Tryd.underlying24 cells24 cells43 h
  intro i hi
  have hc := hT.cell gTab i (by simpa [nibN] using hi)
  rw [hc]
  have e : ∀ j : Fin 16, (nibN.map Int.ofNat).getD j.val 0 = ((nibN.getD j.val 0 : Nat) : Int) := by decide
  rw [← e ⟨i, hi⟩]

theorem cells_slice {w : World} {base : Nat} {v : Value} {ao : Option Addr} {n c : Nat} (hv : Value.okWide Tryd.prog w .any base 22 v) (h : v.cells.toList = [.slice ao n c]) : v = .slice ao n c := by
  obtain ⟨a, l, k, rfl⟩ := okWide_slice Tryd.underlying22 hv
  simpa [Value.cells] using h

theorem contract (H : Type) (enc : TypeId × Value → H) (W : World) (base : Nat) (args : Array Value) (ds gs : List (DataW H)) (before : List MemPlace)
    (hval : ∀ (j : Nat) t v, Tryd.f3.params[j]? = some t → args[j]? = some v → Value.okWide Tryd.prog W .any base t v)
    (hW : DataW.Whole enc Tryd.prog Tryd.f3.params.toList Rows.linkSumsSpec.vars false W args.toList ds gs before) (hL : laidMetH Tryd.prog Rows.linkSumsRow.laid W) :
    Calls Tryd.prog 3 args W fun e W' => ∃ v, e = .returned v ∧ Rows.linkSumsSpec.post enc Tryd.prog Tryd.f3 false true false false W args v W' := by
  have hW' := hW
  obtain ⟨p, q, hA0, hV, rfl, hfz, hnd⟩ := hW
  have hA : DataW.TrodAll enc Tryd.prog W 0 (fun _ => true) true Tryd.f3.params.toList args.toList ds p := hA0
  rw [Tryd.params3] at hA hval
  obtain ⟨v0, vs0, d0, ds0, p0, q0, hargs, rfl, rfl, h0, r0⟩ := trodAll_cons hA
  obtain ⟨rfl, rfl, rfl⟩ := trodAll_nil r0
  obtain rfl : args = #[v0] := by cases args; simp_all
  obtain ⟨rfl, rfl⟩ := trodVars_none hV
  have k0 := h0
  have lt0 : ∀ x ∈ p0, x.block < W.heap.size := by obtain ⟨m, hm⟩ := k0; exact DataW.trod_lt m _ _ _ hm
  have hin : ∃ s : ByteArray, InB W v0 s ∧ s.size ≤ maxLen := by
    obtain ⟨m, hm⟩ := h0
    rcases open_ints Tryd.underlying22 Tryd.underlying5 cells5 hm with ⟨hc, hx⟩ | ⟨a, len, cap, zs, hc, hb, hl, hcm, hz, hx, hcell, hwf⟩
    · have hv : v0 = .slice none 0 0 := cells_slice (hval 0 22 v0 rfl rfl) hc
      exact ⟨⟨#[]⟩, .inl ⟨hv, rfl⟩, by decide⟩
    · have hv : v0 = .slice (some a) len cap := cells_slice (hval 0 22 v0 rfl rfl) hc
      have hzl : len ≤ zs.length := by rw [hz]; split <;> omega
      by_cases hp : 0 < len
      · obtain ⟨b, off, rfl, hcc⟩ := ints_at hcell (by omega)
        have hsz : (strOfNums (zs.take len)).size = len := by rw [strOfNums_size, List.length_take]; omega
        refine ⟨strOfNums (zs.take len), .inr (.inr ⟨b, off, cap, by rw [hsz]; exact hv, ?_⟩), by rw [hsz]; omega⟩
        refine Lib.bytes_of_nums (n := len) (by rw [List.length_take]; omega) (fun x hx => ?_) (fun i hi => ?_)
        · have := hwf x (List.mem_of_mem_take hx)
          have h2 : 0 ≤ x ∧ x ≤ 255 := by simpa [Lit.wf, IntKind.min, IntKind.max, IntKind.signed, IntKind.bits] using this
          omega
        · rw [hcc i (by omega)]
          simp [List.getD, List.getElem?_take_of_lt hi]
      · have h0' : len = 0 := by omega
        subst h0'
        exact ⟨⟨#[]⟩, .inr (.inl ⟨a, cap, hv, rfl⟩), by decide⟩
  obtain ⟨s, hin, hsz⟩ := hin
  refine (sums_law v0 s W hin hsz (table hL)).mono fun e W' ⟨he, bel⟩ => ?_
  subst he
  exact ⟨_, rfl, _, _, _, [], _, [], hW', trodAll_mk1 (shut_bool Tryd.underlying4 _), (trodAll_cons_mk (Below.trod laidOut (by kernel_rfl) (of_decide_eq_true (by kernel_rfl)) k0 bel lt0) trodAll_mk0), rfl, bel.frame _, fun h => by cases h⟩

/-- a world for the witness: the table's block holds what its initialiser lays -/
noncomputable def laidWorld (os : Os) : World :=
  { World.holding Tryd.prog os ⟨#[], #[], []⟩ with heap := (World.holding Tryd.prog os ⟨#[], #[], []⟩).heap.modify 0 fun
      | .cells _ t frozen => .cells (nibN.map fun (n : Nat) => Value.int .u32 (n : Int)).toArray t frozen
      | o => o }
theorem laid_met (os : Os) : laidMet Tryd.prog Rows.linkSumsRow.laid ((laidWorld os).forCall (fun _ _ => 0) ⟨#[], #[.slice none 0 0], []⟩).memory :=
  laidMet_of_run' 8 (by kernel_rfl) (by kernel_rfl)
theorem reads (os : Os) {H : Type} (enc : TypeId × Value → H) : ∃ places, DataW.whole enc Tryd.prog ((laidWorld os).forCall (fun _ _ => 0) ⟨#[], #[.slice none 0 0], []⟩).memory Tryd.f3.params.toList Rows.linkSumsSpec.vars false #[Value.slice none 0 0].toList 8 = some ([.nil], [], places) :=
  ⟨[], by kernel_rfl⟩

set_option maxRecDepth 100000 in
theorem lifted (os : Os) (started : os.Started) (H : Type) (enc : TypeId × Value → H) (F : Stop.Interp) :
    ReturnsInHanded {} Tryd.checked os 3 .any ((OpenSpec.ofChange Rows.linkSumsSpec).preRow enc Tryd.prog Tryd.f3 Rows.linkSumsRow.domain false Rows.linkSumsRow.laid) (((OpenSpec.ofChange Rows.linkSumsSpec).at F).post enc Tryd.prog Tryd.f3 false true false false) := by
  obtain ⟨places, hx⟩ := reads os enc
  refine returnsInHanded_of_row (C := Tryd.checked) (s := OpenSpec.ofChange Rows.linkSumsSpec) own started (by kernel_rfl) Tryd.func3
    (witness_row_at (enc := enc) (C := Tryd.checked) false (laidWorld os) #[.slice none 0 0] rfl (by kernel_rfl) (by kernel_rfl) (by kernel_rfl)
      (OpenSpec.preRow_of_cond 8 hx (by kernel_rfl) (fun k hk => by cases hk) (by kernel_rfl) (laid_met os))) ?_
  intro W base args ds gs before hval hW _ _ _ hL _ _
  exact contract H enc W base args ds gs before hval hW hL

theorem said : Rows.LinkSumsSaid :=
  OpenClaim.holds_of_cond 3 Tryd.f3 rfl rfl rfl rfl rfl rfl rfl ⟨rfl, rfl, rfl, rfl, rfl⟩ rfl rfl rfl rfl rfl (by kernel_rfl) Tryd.func3 (by kernel_rfl)
    (of_decide_eq_true (by kernel_rfl)) (by unfold Func.isWrapper; first | (rw [if_pos (by decide +kernel)]; kernel_rfl) | (rw [if_neg (by decide +kernel)]; exact ⟨rfl, rfl⟩))
    (fun os started H enc _ F => by rw [OpenClaim.pre_eq_preRow]; exact lifted os started H enc F)

theorem plain (f : FuncId) (fn : Func) (hf : Tryd.pinned.checked.prog.funcNamed "tidemill/tidemilllaw04.LinkSums" = some f) (hfn : Tryd.pinned.checked.prog.funcs[f]? = some fn) :
    false = Tryd.pinned.checked.prog.looks [] ∧ ∀ (j : Nat) t, fn.params[j]? = some t → Tryd.pinned.checked.prog.wantsStandIn t = false := by
  obtain rfl : f = 3 := Option.some.inj ((show Tryd.prog.funcNamed "tidemill/tidemilllaw04.LinkSums" = some 3 by kernel_rfl).symm.trans hf) |>.symm
  obtain rfl : fn = Tryd.f3 := (Option.some.inj (Tryd.func3.symm.trans hfn)).symm
  refine ⟨by kernel_rfl, fun j t ht => ?_⟩
  rw [Tryd.params3] at ht
  obtain rfl : t = 22 := by simpa using Array.mem_of_getElem? ht
  exact (show Tryd.prog.wantsStandIn 22 = false by kernel_rfl)

/-- the tied card -/
theorem proved : Rows.LinkSumsCardSaid :=
  Claim7.holds_tied_plain_at .later [] _ _ _ _ said (fun _ h => by cases h) (by kernel_rfl) (fun _ h => by cases h) linkSums_row_tie rfl ⟨rfl, rfl⟩ (by kernel_rfl) rfl plain (by kernel_rfl)
end Go.Proofs.YtdgcafohfedbhaaDoor.sums
