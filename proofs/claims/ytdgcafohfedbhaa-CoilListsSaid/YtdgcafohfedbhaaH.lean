import Derived.Test.YtdgcafohfedbhaaG
namespace Go.Proofs.Ytdgcafohfedbhaa
open Go.RowKit Go.Joins
set_option linter.unusedVariables false

/-- the bytes that a slice shows -/
def Shows (w : World) (a : Option Addr) (bs : List Nat) : Prop := ∀ (i x : Nat), bs[i]? = some x → ∃ g o, a = some ⟨g, o, none⟩ ∧ w.cell? ⟨g, o + i, none⟩ = some (.int .u8 (x : Int))
/-- a reel's object: what is left, and how it failed; its bytes lie below B -/
structure ReelAt (w : World) (B r : Nat) (bs : List Nat) (f : Int) : Prop where
  ex : ∃ a cap, w.heap[r]? = some (.cells #[.slice a bs.length cap, .int .i64 f] 75 (0, 0)) ∧ bs.length ≤ cap ∧ cap ≤ maxLen ∧ Shows w a bs ∧ ∀ ad, a = some ad → ad.block < B
theorem open_any (a : Option Addr) (cap : Nat) (bs : List Nat) (w : World) (h1 : bs.length ≤ cap) (h2 : cap ≤ maxLen) (h3 : Shows w a bs) (h4 : ∀ ad, a = some ad → ad.block < w.heap.size) :
    Calls Try.prog 13 #[.slice a bs.length cap] w fun e w' => e = .returned (.pointer (some ⟨w.heap.size, 0, none⟩)) ∧ ReelAt w' w.heap.size w.heap.size bs 0 ∧ Below w.heap.size w w' := by
  have HS := Lib.hid (⟨h1, h2, h3, h4⟩ : _ ∧ _ ∧ _ ∧ _)
  clear h1 h2 h3 h4
  go_enter Try.func13, Try.ntmps13
  go_wp2
  go_ret
  have hb := (Below.refl w.heap.size w).alloc (Nat.le_refl _) (.cells #[.slice a bs.length cap, .int .i64 0] 75)
  refine ⟨rfl, ⟨a, cap, heap_alloc_new w _, HS.out.1, HS.out.2.1, fun i x hx => ?_, HS.out.2.2.2⟩, hb⟩
  obtain ⟨g, o, e, hc⟩ := HS.out.2.2.1 i x hx
  exact ⟨g, o, e, by rw [hb.cell (cell_block hc)]; exact hc⟩
/-- how it ends -/
def endN (bs : List Nat) (f : Int) : Int := if f = 0 ∧ 0 < bs.length then 2 else f
theorem end_any (B r : Nat) (bs : List Nat) (f : Int) (w : World) (h : ReelAt w B r bs f) :
    Calls Try.prog 16 #[.pointer (some ⟨r, 0, none⟩)] w fun e w' => e = .returned (.int .i64 (endN bs f)) ∧ w' = w := by
  obtain ⟨a, cap, hb, _⟩ := h.ex
  have c0 : w.cell? ⟨r, 0, none⟩ = some (.slice a bs.length cap) := by simp [World.cell?, hb]
  have c1 : w.cell? ⟨r, 1, none⟩ = some (.int .i64 f) := by simp [World.cell?, hb]
  clear hb h
  by_cases hf : f = 0
  · subst hf
    by_cases hn : 0 < bs.length
    · have HE : Hid (endN bs 0 = 2) := (if_pos ⟨rfl, hn⟩ : endN bs 0 = 2)
      have hi : (0 : Int) < (bs.length : Int) := by omega
      rw [HE.out]
      go_enter Try.func16, Try.ntmps16
      go_wp2
      go_ret
      exact ⟨rfl, rfl⟩
    · have HE : Hid (endN bs 0 = 0) := (if_neg (fun h => hn h.2) : endN bs 0 = 0)
      rw [HE.out]
      go_enter Try.func16, Try.ntmps16
      go_wp2
      go_ret
      exact ⟨rfl, rfl⟩
  · have HE : Hid (endN bs f = f) := (if_neg (fun h => hf h.1) : endN bs f = f)
    have hf2 : (f == 0) = false := by simpa using hf
    rw [HE.out]
    go_enter Try.func16, Try.ntmps16
    go_wp2
    go_ret
    exact ⟨rfl, rfl⟩
end Go.Proofs.Ytdgcafohfedbhaa
