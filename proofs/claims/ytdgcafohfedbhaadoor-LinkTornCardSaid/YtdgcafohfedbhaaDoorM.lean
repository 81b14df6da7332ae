import Derived.Test.YtdgcafohfedbhaaDoorL
import Derived.Test.YtdgcafohfedbhaaDoorCards
import Derived.Test.YtdgcafohfedbhaaDoorTie
import Derived.ProofKit
import Derived.OpenShut
import Derived.ChangeSlices
import Derived.Deep.DeepHandedRow
import Derived.Lib.LaidTab
namespace Go.Proofs.YtdgcafohfedbhaaDoor.T
open Go.ChangeShapes Go.WideShapes Go.ChangeAt Go.RowKit
open Go.Proofs.YtdgcafohfedbhaaDoor.K
set_option linter.unusedVariables false

/-! ### what the rows share -/
theorem own : ownKnob Tryd.prog.godebug = none := by kernel_rfl
theorem laidOut : laidOutB Tryd.prog = true := by kernel_rfl
theorem gTab : Tryd.prog.globalNamed "tidemill/link.nibbles" = some 0 := by kernel_rfl
theorem gTabType : (Tryd.prog.globals[0]?).map (·.type) = some 43 := by kernel_rfl
theorem cells43 : Tryd.prog.cellsOf 43 = 16 := by kernel_rfl
theorem cells24 : Tryd.prog.cellsOf 24 = 1 := by kernel_rfl
theorem cells5 : Tryd.prog.cellsOf 5 = 1 := by kernel_rfl
theorem table {W : World} (h : laidMetH Tryd.prog Rows.linkSumsRow.laid W) : NibAt W := by
  have hT : Lib.TabIs Tryd.prog W "tidemill/link.nibbles" .u32 (nibN.map Int.ofNat) := Lib.tabIs_of_head (rest := []) gTab gTabType Tryd.underlying43 Tryd.underlying24 cells24 cells43 h
  intro i hi
  have hc := hT.cell gTab i (by simpa [nibN] using hi)
  rw [hc]
  have e : ∀ j : Fin 16, (nibN.map Int.ofNat).getD j.val 0 = ((nibN.getD j.val 0 : Nat) : Int) := by decide
  rw [← e ⟨i, hi⟩]
theorem block_of_wide {W : World} {base n c : Nat} {t e : TypeId} {a : Addr} (ht : Tryd.prog.underlying t = some (.slice e)) (h : Value.okWide Tryd.prog W .any base t (.slice (some a) n c)) : a.block < W.heap.size := by
  simp only [Value.okWide, ht, Cell.okWide, Cell.ok, World.has] at h
  obtain ⟨_, _, _, _, row, cells, hs, _⟩ := h
  rcases Nat.lt_or_ge a.block W.heap.size with h' | h'
  · exact h'
  · simp [World.shape?, Array.getElem?_eq_none h'] at hs
theorem bytes_shown {W : World} {n : Nat} {ad : Addr} {zs : List Int} (hzl : n ≤ zs.length) (hr : ∀ x ∈ zs, 0 ≤ x ∧ x ≤ 255) (hcell : 0 < n → ∃ b off, ad = ⟨b, off, none⟩ ∧ ∀ i, i < n → W.cell? ⟨b, off + i, none⟩ = some (.int .u8 (zs.getD i 0))) :
    ∃ bs : List Nat, bs.length = n ∧ Shows W (some ad) bs ∧ Oct bs := by
  refine ⟨(zs.take n).map Int.toNat, by rw [List.length_map, List.length_take]; omega, fun i x hx => ?_, fun i x hx => ?_⟩
  · rw [List.getElem?_map, Option.map_eq_some_iff] at hx
    obtain ⟨z, hz1, rfl⟩ := hx
    have hi : i < n := by have := (List.getElem?_eq_some_iff.1 hz1).1; rw [List.length_take] at this; omega
    rw [List.getElem?_take_of_lt hi] at hz1
    obtain ⟨b, off, rfl, hcc⟩ := hcell (by omega)
    refine ⟨b, off, rfl, ?_⟩
    rw [hcc i (by omega)]
    have h2 := hr z (List.mem_of_getElem? hz1)
    simp [List.getD, hz1]
    omega
  · rw [List.getElem?_map, Option.map_eq_some_iff] at hx
    obtain ⟨z, hz1, rfl⟩ := hx
    have h2 := hr z (List.mem_of_mem_take (List.mem_of_getElem? hz1))
    omega
/-- what a slice of bytes that came in shows -/
theorem bytes_of_trod {H : Type} {enc : TypeId × Value → H} {W : World} {fuel : Nat} {a : Option Addr} {n c : Nat} {x : DataW H × List MemPlace}
    (h : DataW.trod enc Tryd.prog W 0 (fun _ => true) true fuel 22 [.slice a n c] = some x) :
    ∃ bs : List Nat, bs.length = n ∧ Shows W a bs ∧ Oct bs ∧ n ≤ c ∧ c ≤ maxLen := by
  rcases open_ints Tryd.underlying22 Tryd.underlying5 cells5 h with ⟨hc, hx⟩ | ⟨ad, len, cap, zs, hc, hb, hl, hcm, hz, hx, hcell, hwf⟩
  · simp only [List.cons.injEq, Value.slice.injEq, and_true] at hc
    obtain ⟨rfl, rfl, rfl⟩ := hc
    exact ⟨[], rfl, Shows.nil _ _, Oct.nil, Nat.le_refl _, by unfold maxLen; omega⟩
  · simp only [List.cons.injEq, Value.slice.injEq, and_true] at hc
    obtain ⟨rfl, rfl, rfl⟩ := hc
    have hzl : n ≤ zs.length := by rw [hz]; split <;> omega
    have hr : ∀ x ∈ zs, 0 ≤ x ∧ x ≤ 255 := fun x hx => by
      have := hwf x hx
      simpa [Lit.wf, IntKind.min, IntKind.max, IntKind.signed, IntKind.bits] using this
    obtain ⟨bs, h1, h2, h3⟩ := bytes_shown (W := W) (ad := ad) hzl hr (fun hp => by
      obtain ⟨b, off, rfl, hcc⟩ := ints_at hcell (by omega)
      exact ⟨b, off, rfl, fun i hi => hcc i (by omega)⟩)
    exact ⟨bs, h1, h2, h3, hl, hcm⟩
/-- a world for the witness: the table's block holds what its initialiser lays -/
noncomputable def laidWorld (os : Os) : World :=
  { World.holding Tryd.prog os ⟨#[], #[], []⟩ with heap := (World.holding Tryd.prog os ⟨#[], #[], []⟩).heap.modify 0 fun
      | .cells _ t frozen => .cells (nibN.map fun (n : Nat) => Value.int .u32 (n : Int)).toArray t frozen
      | o => o }
end Go.Proofs.YtdgcafohfedbhaaDoor.T
