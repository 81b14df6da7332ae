import Derived.Test.YtdgcafohfedbhaaDoorPG
namespace Go.Proofs.YtdgcafohfedbhaaDoor.K
open Go.RowKit Go.Joins
set_option linter.unusedVariables false

/-- the bytes that a slice shows -/
def Shows (w : World) (a : Option Addr) (bs : List Nat) : Prop := ∀ (i x : Nat), bs[i]? = some x → ∃ g o, a = some ⟨g, o, none⟩ ∧ w.cell? ⟨g, o + i, none⟩ = some (.int .u8 (x : Int))
/-- a reel's object: what is left, and how it failed; its bytes lie below B -/
structure ReelAt (w : World) (B r : Nat) (bs : List Nat) (f : Int) : Prop where
  ex : ∃ a cap, w.heap[r]? = some (.cells #[.slice a bs.length cap, .int .i64 f] 65 (0, 0)) ∧ bs.length ≤ cap ∧ cap ≤ maxLen ∧ Shows w a bs ∧ ∀ ad, a = some ad → ad.block < B
theorem open_any (a : Option Addr) (cap : Nat) (bs : List Nat) (w : World) (h1 : bs.length ≤ cap) (h2 : cap ≤ maxLen) (h3 : Shows w a bs) (h4 : ∀ ad, a = some ad → ad.block < w.heap.size) :
    Calls Tryd.prog 23 #[.slice a bs.length cap] w fun e w' => e = .returned (.pointer (some ⟨w.heap.size, 0, none⟩)) ∧ ReelAt w' w.heap.size w.heap.size bs 0 ∧ Below w.heap.size w w' := by
  have HS := Lib.hid (⟨h1, h2, h3, h4⟩ : _ ∧ _ ∧ _ ∧ _)
  clear h1 h2 h3 h4
  go_enter Tryd.func23, Tryd.ntmps23
  go_wp2
  go_ret
  have hb := (Below.refl w.heap.size w).alloc (Nat.le_refl _) (.cells #[.slice a bs.length cap, .int .i64 0] 65)
  refine ⟨rfl, ⟨a, cap, heap_alloc_new w _, HS.out.1, HS.out.2.1, fun i x hx => ?_, HS.out.2.2.2⟩, hb⟩
  obtain ⟨g, o, e, hc⟩ := HS.out.2.2.1 i x hx
  exact ⟨g, o, e, by rw [hb.cell (cell_block hc)]; exact hc⟩
/-- how it ends -/
def endN (bs : List Nat) (f : Int) : Int := if f = 0 ∧ 0 < bs.length then 2 else f
end Go.Proofs.YtdgcafohfedbhaaDoor.K
