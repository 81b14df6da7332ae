import Derived.Test.YtdgcafohfedbhaaDoorPH
namespace Go.Proofs.YtdgcafohfedbhaaDoor.K
open Go.RowKit Go.Joins
set_option linter.unusedVariables false

theorem Shows.set {w : World} {a : Option Addr} {bs : List Nat} {r B : Nat} (h : Shows w a bs) (hB : ∀ ad, a = some ad → ad.block < B) (hr : B ≤ r) (j : Nat) (u : Value) : Shows (w.setCell ⟨r, j, none⟩ u) a bs := by
  intro i x hx
  obtain ⟨g, o, e, hc⟩ := h i x hx
  have h1 : g < B := hB _ e
  exact ⟨g, o, e, (World.cell?_of_block (Below.heap_setCell _ _ _ _ (show g ≠ r by omega))).trans hc⟩
theorem lose_first (B r : Nat) (bs : List Nat) (k : Int) (w : World) (h : ReelAt w B r bs 0) (hr : B ≤ r) :
    Calls Tryd.prog 34 #[.pointer (some ⟨r, 0, none⟩), .int .i64 k] w fun e w' => e = .returned (.tuple #[]) ∧ ReelAt w' B r bs k ∧ Touch r w w' := by
  obtain ⟨a, cap, hb, h1, h2, h3, h4⟩ := h.ex
  have c1 : w.cell? ⟨r, 1, none⟩ = some (.int .i64 0) := by simp [World.cell?, hb]
  have f1 : w.frozen? ⟨r, 1, none⟩ = false := by simp [World.frozen?, hb]
  have HB := Lib.hid (⟨hb, h1, h2, h3, h4⟩ : _ ∧ _ ∧ _ ∧ _ ∧ _)
  clear hb h1 h2 h3 h4 h
  go_enter Tryd.func34, Tryd.ntmps34
  go_wp2
  go_end0
  have := block_setCell (i := 1) HB.out.1 (.int .i64 k)
  exact ⟨rfl, ⟨a, cap, by simpa using this, HB.out.2.1, HB.out.2.2.1, HB.out.2.2.2.1.set HB.out.2.2.2.2 hr 1 _, HB.out.2.2.2.2⟩, (Touch.refl r w).set_ 1 _⟩
end Go.Proofs.YtdgcafohfedbhaaDoor.K
