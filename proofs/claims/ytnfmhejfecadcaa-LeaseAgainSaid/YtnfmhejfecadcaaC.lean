import Derived.Test.YtnfmhejfecadcaaB
import Derived.Deep.RegionHeld3
import Derived.Deep.LoopGhost
namespace Go.Proofs.Ytnfmhejfecadcaa
open Go.RowKit

def StAt (w : World) (b : Nat) (s : LS) : Prop := w.heap[b]? = some (.cells #[.int .i64 s.E, .int .i64 s.H, .int .i64 s.U, .bool s.S] 30 (0, 0))
/-- an act -/
structure AC where
  K : Int
  W : Int
  E : Int
  N : Int
def ActAt (w : World) (b : Nat) (x : AC) : Prop := w.heap[b]? = some (.cells #[.int .i64 x.K, .int .i64 x.W, .int .i64 x.E, .int .i64 x.N] 33 (0, 0))
theorem StAt.cell {w : World} {g : Nat} {s : LS} (h : StAt w g s) :
    (w.cell? ⟨g, 0, none⟩ = some (.int .i64 s.E) ∧ w.cell? ⟨g, 1, none⟩ = some (.int .i64 s.H) ∧ w.cell? ⟨g, 2, none⟩ = some (.int .i64 s.U) ∧
     w.cell? ⟨g, 3, none⟩ = some (.bool s.S)) ∧ ∀ o, w.frozen? ⟨g, o, none⟩ = false := by
  unfold StAt at h
  refine ⟨⟨?_, ?_, ?_, ?_⟩, ?_⟩
  all_goals first | (intro o; simp [World.frozen?, h]) | simp [World.cell?, h]
theorem ActAt.cell {w : World} {g : Nat} {s : AC} (h : ActAt w g s) :
    (w.cell? ⟨g, 0, none⟩ = some (.int .i64 s.K) ∧ w.cell? ⟨g, 1, none⟩ = some (.int .i64 s.W) ∧ w.cell? ⟨g, 2, none⟩ = some (.int .i64 s.E) ∧
     w.cell? ⟨g, 3, none⟩ = some (.int .i64 s.N)) ∧ ∀ o, w.frozen? ⟨g, o, none⟩ = false := by
  unfold ActAt at h
  refine ⟨⟨?_, ?_, ?_, ?_⟩, ?_⟩
  all_goals first | (intro o; simp [World.frozen?, h]) | simp [World.cell?, h]
theorem Touch.blk {g b : Nat} {w w' : World} (h : Touch g w w') {o : Obj} (hb : w.heap[b]? = some o) (hne : b ≠ g) : w'.heap[b]? = some o := by
  have hl := (Array.getElem?_eq_some_iff.1 hb).1
  rw [h.block b hl hne]; exact hb
theorem below_blk {b : Nat} {w w' : World} (h : Below w.heap.size w w') {o : Obj} (hb : w.heap[b]? = some o) : w'.heap[b]? = some o := by
  have hl := (Array.getElem?_eq_some_iff.1 hb).1
  rw [h.block b hl]; exact hb
theorem StAt.set4 {w : World} {g : Nat} {s : LS} (h : StAt w g s) (E H U : Int) (S : Bool) :
    StAt ((((w.setCell ⟨g, 0, none⟩ (.int .i64 E)).setCell ⟨g, 1, none⟩ (.int .i64 H)).setCell ⟨g, 2, none⟩ (.int .i64 U)).setCell ⟨g, 3, none⟩ (.bool S)) g ⟨E, H, U, S⟩ := by
  unfold StAt at *
  simp [World.setCell, Array.getElem?_modify, h]

/-- what the acts read as -/
def ActsAt (w : World) (a : Option Addr) (n : Nat) (x : Nat → AC) : Prop :=
  ∀ i, i < n → ∃ ad, a = some ad ∧ w.cell? (ad.add (i * 4)) = some (.int .i64 (x i).K) ∧ w.cell? ⟨(ad.add (i * 4)).block, (ad.add (i * 4)).off + 1, none⟩ = some (.int .i64 (x i).W) ∧
    w.cell? ⟨(ad.add (i * 4)).block, (ad.add (i * 4)).off + 2, none⟩ = some (.int .i64 (x i).E) ∧ w.cell? ⟨(ad.add (i * 4)).block, (ad.add (i * 4)).off + 3, none⟩ = some (.int .i64 (x i).N)
theorem Touch.cell {g : Nat} {w w' : World} (h : Touch g w w') {p : Addr} {v : Value} (hc : w.cell? p = some v) (hp : p.block ≠ g) : w'.cell? p = some v := by
  have hl : p.block < w.heap.size := by
    rcases Nat.lt_or_ge p.block w.heap.size with hl | hl
    · exact hl
    · unfold World.cell? at hc
      rw [Array.getElem?_eq_none hl] at hc
      cases hc
  exact (World.cell?_of_block (w := w) (h.block p.block hl hp)).trans hc
theorem add_block (a : Addr) (n : Nat) : (a.add n).block = a.block := by unfold Addr.add; split <;> rfl
theorem ActsAt.touch {g : Nat} {w w' : World} {a : Option Addr} {n : Nat} {x : Nat → AC} (h : ActsAt w a n x) (ht : Touch g w w') (hg : 0 < n → ∀ ad, a = some ad → ad.block ≠ g) : ActsAt w' a n x := by
  intro i hi
  obtain ⟨ad, rfl, h0, h1, h2, h3⟩ := h i hi
  have := hg (by omega) ad rfl
  exact ⟨ad, rfl, ht.cell h0 (by rw [add_block]; exact this), ht.cell h1 (by simp only [add_block]; exact this), ht.cell h2 (by simp only [add_block]; exact this), ht.cell h3 (by simp only [add_block]; exact this)⟩


theorem LeaseAt.alloc {w : World} {g : Nat} {s : LS} {t : Int} (h : LeaseAt w g s t) (o : Obj) : LeaseAt (w.alloc o) g s t := (Below.heap_alloc w o g h.lt).trans h
theorem StAt.lt {w : World} {g : Nat} {s : LS} (h : StAt w g s) : g < w.heap.size := (Array.getElem?_eq_some_iff.1 h).1
theorem StAt.alloc {w : World} {g : Nat} {s : LS} (h : StAt w g s) (o : Obj) : StAt (w.alloc o) g s := (Below.heap_alloc w o g h.lt).trans h
theorem ActAt.new (w : World) (x : AC) : ActAt (w.alloc (.cells #[.int .i64 x.K, .int .i64 x.W, .int .i64 x.E, .int .i64 x.N] 33)) w.heap.size x := heap_alloc_new w _
theorem far4 {w : World} {b b' : Nat} {o : Obj} (h : w.heap[b]? = some o) (hne : b ≠ b') (v0 v1 v2 v3 : Value) :
    ((((w.setCell ⟨b', 0, none⟩ v0).setCell ⟨b', 1, none⟩ v1).setCell ⟨b', 2, none⟩ v2).setCell ⟨b', 3, none⟩ v3).heap[b]? = some o := by
  rw [Below.heap_setCell _ _ _ _ hne, Below.heap_setCell _ _ _ _ hne, Below.heap_setCell _ _ _ _ hne, Below.heap_setCell _ _ _ _ hne]
  exact h
theorem StAt.new (w : World) (E H U : Int) (S : Bool) : StAt (w.alloc (.cells #[.int .i64 E, .int .i64 H, .int .i64 U, .bool S] 30)) w.heap.size ⟨E, H, U, S⟩ := heap_alloc_new w _
theorem Touch.set4 {g b : Nat} {w w1 : World} (h : Touch g w w1) (hb : w.heap.size ≤ b) (v0 v1 v2 v3 : Value) :
    Touch g w ((((w1.setCell ⟨b, 0, none⟩ v0).setCell ⟨b, 1, none⟩ v1).setCell ⟨b, 2, none⟩ v2).setCell ⟨b, 3, none⟩ v3) :=
  by
  refine ⟨h.os, h.tape, h.output, by simpa [World.setCell] using h.size, fun k hk hg => ?_⟩
  have hne : k ≠ b := by omega
  rw [Below.heap_setCell _ _ _ _ hne, Below.heap_setCell _ _ _ _ hne, Below.heap_setCell _ _ _ _ hne, Below.heap_setCell _ _ _ _ hne]
  exact h.block k hk hg

theorem s18_lease {w5 W : World} {g b : Nat} {s : LS} {t : Int}
    (h : W.cell? ⟨b, 0, none⟩ = some (.int .i64 s.E) ∧ W.cell? ⟨b, 1, none⟩ = some (.int .i64 s.H) ∧ W.cell? ⟨b, 2, none⟩ = some (.int .i64 s.U) ∧ W.cell? ⟨b, 3, none⟩ = some (.bool s.S) ∧ StAt W b s ∧ LeaseAt W g s t ∧ Below w5.heap.size w5 W) : LeaseAt W g s t := h.2.2.2.2.2.1
theorem s18_keep {w5 W w6 : World} {g b : Nat} {s : LS} {t : Int}
    (h : W.cell? ⟨b, 0, none⟩ = some (.int .i64 s.E) ∧ W.cell? ⟨b, 1, none⟩ = some (.int .i64 s.H) ∧ W.cell? ⟨b, 2, none⟩ = some (.int .i64 s.U) ∧ W.cell? ⟨b, 3, none⟩ = some (.bool s.S) ∧ StAt W b s ∧ LeaseAt W g s t ∧ Below w5.heap.size w5 W)
    (hB : Below W.heap.size W w6) :
    w6.cell? ⟨b, 0, none⟩ = some (.int .i64 s.E) ∧ w6.cell? ⟨b, 1, none⟩ = some (.int .i64 s.H) ∧ w6.cell? ⟨b, 2, none⟩ = some (.int .i64 s.U) ∧ w6.cell? ⟨b, 3, none⟩ = some (.bool s.S) ∧ StAt w6 b s ∧ LeaseAt w6 g s t ∧ Below w5.heap.size w5 w6 := by
  obtain ⟨_, _, _, _, h5, h6, h7⟩ := h
  have h8 : StAt w6 b s := below_blk hB h5
  obtain ⟨⟨d0, d1, d2, d3⟩, _⟩ := h8.cell
  exact ⟨d0, d1, d2, d3, h8, below_blk hB h6, h7.trans (hB.mono h7.size)⟩

def PlayRel (w : World) (g : Nat) (t : Int) (n : Nat) (i : Value) (wr : World) : Prop :=
  ∃ (k : Nat) (s : LS), k ≤ n ∧ i = .int .i64 k ∧ LeaseAt wr g s t ∧ StAt wr w.heap.size s ∧ Touch g w wr

set_option maxRecDepth 100000 in
set_option maxHeartbeats 16000000 in
theorem play_any (g : Nat) (E H U : Int) (S : Bool) (t : Int) (a : Option Addr) (n c : Nat) (x : Nat → AC) (w : World)
    (hL : LeaseAt w g ⟨E, H, U, S⟩ t) (hA : ActsAt w a n x) (hn : n ≤ 100) (hg : 0 < n → ∀ ad, a = some ad → ad.block ≠ g) :
    Calls Try.prog 9 #[.pointer (some ⟨g, 0, none⟩), .agg #[.int .i64 E, .int .i64 H, .int .i64 U, .bool S], .int .i64 t, .slice a n c] w fun e w' => e = .returned (.bool true) ∧ Touch g w w' := by
  have hgl := hL.lt
  go_enter Try.func9, Try.ntmps9
  go_wp2
  go_loopw [23] (PlayRel w g t n) (fun i _ => n - (intOf i).toNat)
  case atStart => exact ⟨0, ⟨E, H, U, S⟩, by omega, rfl, hL.alloc _, StAt.new w E H U S, (Touch.refl _ _).alloc _⟩
  case round =>
    obtain ⟨k, s, hk, rfl, hL', hS, hT⟩ := hrel
    have hA' := hA.touch hT hg
    clear hL hA
    have hsz := hS.lt
    by_cases hlt : k < n
    · obtain ⟨ad, rfl, a0, a1, a2, a3⟩ := hA' k hlt
      clear hA' hg
      generalize x k = y at a0 a1 a2 a3
      have hAc := ActAt.new wr y
      have hL1 := hL'.alloc (.cells #[.int .i64 y.K, .int .i64 y.W, .int .i64 y.E, .int .i64 y.N] 33)
      have hS1 := hS.alloc (.cells #[.int .i64 y.K, .int .i64 y.W, .int .i64 y.E, .int .i64 y.N] 33)
      have hT1 := hT.alloc (.cells #[.int .i64 y.K, .int .i64 y.W, .int .i64 y.E, .int .i64 y.N] 33)
      obtain ⟨xK, xW, xE, xN⟩ := y
      simp only at a0 a1 a2 a3 hAc hL1 hS1 hT1
      by_cases k1 : xK = 1
      · subst k1
        go_wp2_with fail
        refine (ask_any g s t xW xN _ hL1).mono ?_
        rintro e w1 ⟨rfl, hL2, hT2⟩
        have hAc2 : ActAt w1 wr.heap.size ⟨1, xW, xE, xN⟩ := hT2.blk hAc (by omega)
        have hS2 : StAt w1 w.heap.size s := hT2.blk hS1 (by omega)
        obtain ⟨⟨b0, b1, b2, b3⟩, bf⟩ := hAc2.cell
        obtain ⟨⟨d0, d1, d2, d3⟩, df⟩ := hS2.cell
        simp only at b0 b1 b2 b3 d0 d1 d2 d3
        have hR := Lib.hid (askR_any s.E s.H s.U t xW xN s.S w1)
        generalize hq : askS s t xW xN = r at hL2 ⊢
        obtain ⟨s', u, v, code⟩ := r
        rw [show (⟨s.E, s.H, s.U, s.S⟩ : LS) = s from rfl, hq] at hR
        clear hq
        simp only at hL2
        go_wp2_with fail
        refine hR.out.mono ?_
        rintro e w2 ⟨rfl, hB2⟩
        have hAc3 : ActAt w2 wr.heap.size ⟨1, xW, xE, xN⟩ := below_blk hB2 hAc2
        have hS3 : StAt w2 w.heap.size s := below_blk hB2 hS2
        clear b0 b1 b2 b3 bf d0 d1 d2 d3 df
        obtain ⟨⟨b0, b1, b2, b3⟩, bf⟩ := hAc3.cell
        obtain ⟨⟨d0, d1, d2, d3⟩, df⟩ := hS3.cell
        go_wp2_with fail
        obtain ⟨w3, h3⟩ : ∃ w3 : World, w3 = ((((w2.setCell ⟨w.heap.size, 0, none⟩ (.int .i64 s'.E)).setCell ⟨w.heap.size, 1, none⟩ (.int .i64 s'.H)).setCell ⟨w.heap.size, 2, none⟩ (.int .i64 s'.U)).setCell ⟨w.heap.size, 3, none⟩ (.bool s'.S)) := ⟨_, rfl⟩
        rw [← h3]
        have hL3 : LeaseAt w3 g s' t := by rw [h3]; exact far4 (below_blk hB2 hL2) (by omega) _ _ _ _
        have hA3 : ActAt w3 wr.heap.size ⟨1, xW, xE, xN⟩ := by rw [h3]; exact far4 hAc3 (by omega) _ _ _ _
        have hS4 : StAt w3 w.heap.size s' := by rw [h3]; exact hS3.set4 _ _ _ _
        have hT3 : Touch g w w3 := by rw [h3]; exact ((hT1.trans hT2).trans (Touch.of_below hB2 g)).set4 (Nat.le_refl _) _ _ _ _
        clear h3 hB2 hAc3 hS3 hT2 hT1 hAc2 hS2 hR hL2 b0 b1 b2 b3 bf d0 d1 d2 d3 df hAc hL1 hS1 a0 a1 a2 a3 hL' hS hT
        clear w2 w1
        have hH := Lib.hid (holder_any g s' t xN _ hL3)
        cases hh : heldB s' xN
        · rw [show holderS s' xN = (0, 0, 5) from by simp [holderS, hh]] at hH
          refine hH.out.mono ?_
          rintro e w4 ⟨rfl, nq, rfl⟩
          obtain ⟨⟨b0, b1, b2, b3⟩, bf⟩ := hA3.cell
          obtain ⟨⟨d0, d1, d2, d3⟩, df⟩ := hS4.cell
          simp only at b0 b1 b2 b3
          go_wp2_with fail
          refine (heldR_any s'.E s'.H s'.U xN s'.S _).mono ?_
          rintro e w5 ⟨rfl, hB5⟩
          have hS5 : StAt w5 w.heap.size s' := below_blk hB5 hS4
          have hL5 : LeaseAt w5 g s' t := below_blk hB5 hL3
          have hT5 : Touch g w w5 := (hT3.drewN nq).trans (Touch.of_below hB5 g)
          clear b0 b1 b2 b3 bf d0 d1 d2 d3 df hS4 hA3 hL3 hT3 hB5 hH
          obtain ⟨⟨d0, d1, d2, d3⟩, df⟩ := hS5.cell
          rw [show (⟨s'.E, s'.H, s'.U, s'.S⟩ : LS) = s' from rfl, hh]
          go_wp2_with fail
          go_region_held3 (fun w' => w'.cell? ⟨w.heap.size, 0, none⟩ = some (.int .i64 s'.E) ∧ w'.cell? ⟨w.heap.size, 1, none⟩ = some (.int .i64 s'.H) ∧ w'.cell? ⟨w.heap.size, 2, none⟩ = some (.int .i64 s'.U) ∧ w'.cell? ⟨w.heap.size, 3, none⟩ = some (.bool s'.S) ∧ StAt w' w.heap.size s' ∧ LeaseAt w' g s' t ∧ Below w5.heap.size w5 w')
            (first | exact ⟨d0, d1, d2, d3, hS5, hL5, (Below.refl _ _).drew⟩ | exact s18_keep (by assumption) hB6)
            (first | (go_at_call 15; refine (state_any g s' t _ (s18_lease (w5 := w5) (b := w.heap.size) (by assumption))).mono ?_; rintro e w6 ⟨rfl, hB6⟩))
          have hw6 : w6.cell? ⟨w.heap.size, 0, none⟩ = some (.int .i64 s'.E) ∧ w6.cell? ⟨w.heap.size, 1, none⟩ = some (.int .i64 s'.H) ∧ w6.cell? ⟨w.heap.size, 2, none⟩ = some (.int .i64 s'.U) ∧ w6.cell? ⟨w.heap.size, 3, none⟩ = some (.bool s'.S) ∧ StAt w6 w.heap.size s' ∧ LeaseAt w6 g s' t ∧ Below w5.heap.size w5 w6 := by assumption
          clear d0 d1 d2 d3 df hS5 hL5 hB6
          obtain ⟨d0, d1, d2, d3, hS6, hL6, hB6⟩ := hw6
          have hT6 : Touch g w w6 := hT5.trans (Touch.of_below hB6 g)
          go_wp2
          exact ⟨⟨k + 1, s', by omega, by go_num, hL6, hS6, hT6⟩, by simp [intOf]; omega⟩
        · rw [show holderS s' xN = (s'.H, s'.E, 0) from by simp [holderS, hh]] at hH
          refine hH.out.mono ?_
          rintro e w4 ⟨rfl, nq, rfl⟩
          obtain ⟨⟨b0, b1, b2, b3⟩, bf⟩ := hA3.cell
          obtain ⟨⟨d0, d1, d2, d3⟩, df⟩ := hS4.cell
          simp only at b0 b1 b2 b3
          go_wp2_with fail
          refine (heldR_any s'.E s'.H s'.U xN s'.S _).mono ?_
          rintro e w5 ⟨rfl, hB5⟩
          have hS5 : StAt w5 w.heap.size s' := below_blk hB5 hS4
          have hL5 : LeaseAt w5 g s' t := below_blk hB5 hL3
          have hT5 : Touch g w w5 := (hT3.drewN nq).trans (Touch.of_below hB5 g)
          clear b0 b1 b2 b3 bf d0 d1 d2 d3 df hS4 hA3 hL3 hT3 hB5 hH
          obtain ⟨⟨d0, d1, d2, d3⟩, df⟩ := hS5.cell
          rw [show (⟨s'.E, s'.H, s'.U, s'.S⟩ : LS) = s' from rfl, hh]
          go_wp2_with fail
          go_region_held3 (fun w' => w'.cell? ⟨w.heap.size, 0, none⟩ = some (.int .i64 s'.E) ∧ w'.cell? ⟨w.heap.size, 1, none⟩ = some (.int .i64 s'.H) ∧ w'.cell? ⟨w.heap.size, 2, none⟩ = some (.int .i64 s'.U) ∧ w'.cell? ⟨w.heap.size, 3, none⟩ = some (.bool s'.S) ∧ StAt w' w.heap.size s' ∧ LeaseAt w' g s' t ∧ Below w5.heap.size w5 w')
            (first | exact ⟨d0, d1, d2, d3, hS5, hL5, (Below.refl _ _).drew⟩ | exact s18_keep (by assumption) hB6)
            (first | (go_at_call 15; refine (state_any g s' t _ (s18_lease (w5 := w5) (b := w.heap.size) (by assumption))).mono ?_; rintro e w6 ⟨rfl, hB6⟩))
          have hw6 : w6.cell? ⟨w.heap.size, 0, none⟩ = some (.int .i64 s'.E) ∧ w6.cell? ⟨w.heap.size, 1, none⟩ = some (.int .i64 s'.H) ∧ w6.cell? ⟨w.heap.size, 2, none⟩ = some (.int .i64 s'.U) ∧ w6.cell? ⟨w.heap.size, 3, none⟩ = some (.bool s'.S) ∧ StAt w6 w.heap.size s' ∧ LeaseAt w6 g s' t ∧ Below w5.heap.size w5 w6 := by assumption
          clear d0 d1 d2 d3 df hS5 hL5 hB6
          obtain ⟨d0, d1, d2, d3, hS6, hL6, hB6⟩ := hw6
          have hT6 : Touch g w w6 := hT5.trans (Touch.of_below hB6 g)
          go_wp2
          exact ⟨⟨k + 1, s', by omega, by go_num, hL6, hS6, hT6⟩, by simp [intOf]; omega⟩
      · by_cases k2 : xK = 2
        · subst k2
          go_wp2_with fail
          refine (renew_any g s t xW xE xN _ hL1).mono ?_
          rintro e w1 ⟨rfl, hL2, hT2⟩
          have hAc2 : ActAt w1 wr.heap.size ⟨2, xW, xE, xN⟩ := hT2.blk hAc (by omega)
          have hS2 : StAt w1 w.heap.size s := hT2.blk hS1 (by omega)
          obtain ⟨⟨b0, b1, b2, b3⟩, bf⟩ := hAc2.cell
          obtain ⟨⟨d0, d1, d2, d3⟩, df⟩ := hS2.cell
          simp only at b0 b1 b2 b3 d0 d1 d2 d3
          have hR := Lib.hid (renewR_any s.E s.H s.U t xW xE xN s.S w1)
          generalize hq : renewS s t xW xE xN = r at hL2 ⊢
          obtain ⟨s', u, code⟩ := r
          rw [show (⟨s.E, s.H, s.U, s.S⟩ : LS) = s from rfl, hq] at hR
          clear hq
          simp only at hL2
          go_wp2_with fail
          refine hR.out.mono ?_
          rintro e w2 ⟨rfl, hB2⟩
          have hAc3 : ActAt w2 wr.heap.size ⟨2, xW, xE, xN⟩ := below_blk hB2 hAc2
          have hS3 : StAt w2 w.heap.size s := below_blk hB2 hS2
          clear b0 b1 b2 b3 bf d0 d1 d2 d3 df
          obtain ⟨⟨b0, b1, b2, b3⟩, bf⟩ := hAc3.cell
          obtain ⟨⟨d0, d1, d2, d3⟩, df⟩ := hS3.cell
          go_wp2_with fail
          obtain ⟨w3, h3⟩ : ∃ w3 : World, w3 = ((((w2.setCell ⟨w.heap.size, 0, none⟩ (.int .i64 s'.E)).setCell ⟨w.heap.size, 1, none⟩ (.int .i64 s'.H)).setCell ⟨w.heap.size, 2, none⟩ (.int .i64 s'.U)).setCell ⟨w.heap.size, 3, none⟩ (.bool s'.S)) := ⟨_, rfl⟩
          rw [← h3]
          have hL3 : LeaseAt w3 g s' t := by rw [h3]; exact far4 (below_blk hB2 hL2) (by omega) _ _ _ _
          have hA3 : ActAt w3 wr.heap.size ⟨2, xW, xE, xN⟩ := by rw [h3]; exact far4 hAc3 (by omega) _ _ _ _
          have hS4 : StAt w3 w.heap.size s' := by rw [h3]; exact hS3.set4 _ _ _ _
          have hT3 : Touch g w w3 := by rw [h3]; exact ((hT1.trans hT2).trans (Touch.of_below hB2 g)).set4 (Nat.le_refl _) _ _ _ _
          clear h3 hB2 hAc3 hS3 hT2 hT1 hAc2 hS2 hR hL2 b0 b1 b2 b3 bf d0 d1 d2 d3 df hAc hL1 hS1 a0 a1 a2 a3 hL' hS hT
          clear w2 w1
          have hH := Lib.hid (holder_any g s' t xN _ hL3)
          cases hh : heldB s' xN
          · rw [show holderS s' xN = (0, 0, 5) from by simp [holderS, hh]] at hH
            refine hH.out.mono ?_
            rintro e w4 ⟨rfl, nq, rfl⟩
            obtain ⟨⟨b0, b1, b2, b3⟩, bf⟩ := hA3.cell
            obtain ⟨⟨d0, d1, d2, d3⟩, df⟩ := hS4.cell
            simp only at b0 b1 b2 b3
            go_wp2_with fail
            refine (heldR_any s'.E s'.H s'.U xN s'.S _).mono ?_
            rintro e w5 ⟨rfl, hB5⟩
            have hS5 : StAt w5 w.heap.size s' := below_blk hB5 hS4
            have hL5 : LeaseAt w5 g s' t := below_blk hB5 hL3
            have hT5 : Touch g w w5 := (hT3.drewN nq).trans (Touch.of_below hB5 g)
            clear b0 b1 b2 b3 bf d0 d1 d2 d3 df hS4 hA3 hL3 hT3 hB5 hH
            obtain ⟨⟨d0, d1, d2, d3⟩, df⟩ := hS5.cell
            rw [show (⟨s'.E, s'.H, s'.U, s'.S⟩ : LS) = s' from rfl, hh]
            go_wp2_with fail
            go_region_held3 (fun w' => w'.cell? ⟨w.heap.size, 0, none⟩ = some (.int .i64 s'.E) ∧ w'.cell? ⟨w.heap.size, 1, none⟩ = some (.int .i64 s'.H) ∧ w'.cell? ⟨w.heap.size, 2, none⟩ = some (.int .i64 s'.U) ∧ w'.cell? ⟨w.heap.size, 3, none⟩ = some (.bool s'.S) ∧ StAt w' w.heap.size s' ∧ LeaseAt w' g s' t ∧ Below w5.heap.size w5 w')
              (first | exact ⟨d0, d1, d2, d3, hS5, hL5, (Below.refl _ _).drew⟩ | exact s18_keep (by assumption) hB6)
              (first | (go_at_call 15; refine (state_any g s' t _ (s18_lease (w5 := w5) (b := w.heap.size) (by assumption))).mono ?_; rintro e w6 ⟨rfl, hB6⟩))
            have hw6 : w6.cell? ⟨w.heap.size, 0, none⟩ = some (.int .i64 s'.E) ∧ w6.cell? ⟨w.heap.size, 1, none⟩ = some (.int .i64 s'.H) ∧ w6.cell? ⟨w.heap.size, 2, none⟩ = some (.int .i64 s'.U) ∧ w6.cell? ⟨w.heap.size, 3, none⟩ = some (.bool s'.S) ∧ StAt w6 w.heap.size s' ∧ LeaseAt w6 g s' t ∧ Below w5.heap.size w5 w6 := by assumption
            clear d0 d1 d2 d3 df hS5 hL5 hB6
            obtain ⟨d0, d1, d2, d3, hS6, hL6, hB6⟩ := hw6
            have hT6 : Touch g w w6 := hT5.trans (Touch.of_below hB6 g)
            go_wp2
            exact ⟨⟨k + 1, s', by omega, by go_num, hL6, hS6, hT6⟩, by simp [intOf]; omega⟩
          · rw [show holderS s' xN = (s'.H, s'.E, 0) from by simp [holderS, hh]] at hH
            refine hH.out.mono ?_
            rintro e w4 ⟨rfl, nq, rfl⟩
            obtain ⟨⟨b0, b1, b2, b3⟩, bf⟩ := hA3.cell
            obtain ⟨⟨d0, d1, d2, d3⟩, df⟩ := hS4.cell
            simp only at b0 b1 b2 b3
            go_wp2_with fail
            refine (heldR_any s'.E s'.H s'.U xN s'.S _).mono ?_
            rintro e w5 ⟨rfl, hB5⟩
            have hS5 : StAt w5 w.heap.size s' := below_blk hB5 hS4
            have hL5 : LeaseAt w5 g s' t := below_blk hB5 hL3
            have hT5 : Touch g w w5 := (hT3.drewN nq).trans (Touch.of_below hB5 g)
            clear b0 b1 b2 b3 bf d0 d1 d2 d3 df hS4 hA3 hL3 hT3 hB5 hH
            obtain ⟨⟨d0, d1, d2, d3⟩, df⟩ := hS5.cell
            rw [show (⟨s'.E, s'.H, s'.U, s'.S⟩ : LS) = s' from rfl, hh]
            go_wp2_with fail
            go_region_held3 (fun w' => w'.cell? ⟨w.heap.size, 0, none⟩ = some (.int .i64 s'.E) ∧ w'.cell? ⟨w.heap.size, 1, none⟩ = some (.int .i64 s'.H) ∧ w'.cell? ⟨w.heap.size, 2, none⟩ = some (.int .i64 s'.U) ∧ w'.cell? ⟨w.heap.size, 3, none⟩ = some (.bool s'.S) ∧ StAt w' w.heap.size s' ∧ LeaseAt w' g s' t ∧ Below w5.heap.size w5 w')
              (first | exact ⟨d0, d1, d2, d3, hS5, hL5, (Below.refl _ _).drew⟩ | exact s18_keep (by assumption) hB6)
              (first | (go_at_call 15; refine (state_any g s' t _ (s18_lease (w5 := w5) (b := w.heap.size) (by assumption))).mono ?_; rintro e w6 ⟨rfl, hB6⟩))
            have hw6 : w6.cell? ⟨w.heap.size, 0, none⟩ = some (.int .i64 s'.E) ∧ w6.cell? ⟨w.heap.size, 1, none⟩ = some (.int .i64 s'.H) ∧ w6.cell? ⟨w.heap.size, 2, none⟩ = some (.int .i64 s'.U) ∧ w6.cell? ⟨w.heap.size, 3, none⟩ = some (.bool s'.S) ∧ StAt w6 w.heap.size s' ∧ LeaseAt w6 g s' t ∧ Below w5.heap.size w5 w6 := by assumption
            clear d0 d1 d2 d3 df hS5 hL5 hB6
            obtain ⟨d0, d1, d2, d3, hS6, hL6, hB6⟩ := hw6
            have hT6 : Touch g w w6 := hT5.trans (Touch.of_below hB6 g)
            go_wp2
            exact ⟨⟨k + 1, s', by omega, by go_num, hL6, hS6, hT6⟩, by simp [intOf]; omega⟩
        · by_cases k3 : xK = 3
          · subst k3
            go_wp2_with fail
            refine (leave_any g s t xW xE _ hL1).mono ?_
            rintro e w1 ⟨rfl, hL2, hT2⟩
            have hAc2 : ActAt w1 wr.heap.size ⟨3, xW, xE, xN⟩ := hT2.blk hAc (by omega)
            have hS2 : StAt w1 w.heap.size s := hT2.blk hS1 (by omega)
            obtain ⟨⟨b0, b1, b2, b3⟩, bf⟩ := hAc2.cell
            obtain ⟨⟨d0, d1, d2, d3⟩, df⟩ := hS2.cell
            simp only at b0 b1 b2 b3 d0 d1 d2 d3
            have hR := Lib.hid (leaveR_any s.E s.H s.U xW xE s.S w1)
            generalize hq : leaveS s xW xE = r at hL2 ⊢
            obtain ⟨s', code⟩ := r
            rw [show (⟨s.E, s.H, s.U, s.S⟩ : LS) = s from rfl, hq] at hR
            clear hq
            simp only at hL2
            go_wp2_with fail
            refine hR.out.mono ?_
            rintro e w2 ⟨rfl, hB2⟩
            have hAc3 : ActAt w2 wr.heap.size ⟨3, xW, xE, xN⟩ := below_blk hB2 hAc2
            have hS3 : StAt w2 w.heap.size s := below_blk hB2 hS2
            clear b0 b1 b2 b3 bf d0 d1 d2 d3 df
            obtain ⟨⟨b0, b1, b2, b3⟩, bf⟩ := hAc3.cell
            obtain ⟨⟨d0, d1, d2, d3⟩, df⟩ := hS3.cell
            go_wp2_with fail
            obtain ⟨w3, h3⟩ : ∃ w3 : World, w3 = ((((w2.setCell ⟨w.heap.size, 0, none⟩ (.int .i64 s'.E)).setCell ⟨w.heap.size, 1, none⟩ (.int .i64 s'.H)).setCell ⟨w.heap.size, 2, none⟩ (.int .i64 s'.U)).setCell ⟨w.heap.size, 3, none⟩ (.bool s'.S)) := ⟨_, rfl⟩
            rw [← h3]
            have hL3 : LeaseAt w3 g s' t := by rw [h3]; exact far4 (below_blk hB2 hL2) (by omega) _ _ _ _
            have hA3 : ActAt w3 wr.heap.size ⟨3, xW, xE, xN⟩ := by rw [h3]; exact far4 hAc3 (by omega) _ _ _ _
            have hS4 : StAt w3 w.heap.size s' := by rw [h3]; exact hS3.set4 _ _ _ _
            have hT3 : Touch g w w3 := by rw [h3]; exact ((hT1.trans hT2).trans (Touch.of_below hB2 g)).set4 (Nat.le_refl _) _ _ _ _
            clear h3 hB2 hAc3 hS3 hT2 hT1 hAc2 hS2 hR hL2 b0 b1 b2 b3 bf d0 d1 d2 d3 df hAc hL1 hS1 a0 a1 a2 a3 hL' hS hT
            clear w2 w1
            have hH := Lib.hid (holder_any g s' t xN _ hL3)
            cases hh : heldB s' xN
            · rw [show holderS s' xN = (0, 0, 5) from by simp [holderS, hh]] at hH
              refine hH.out.mono ?_
              rintro e w4 ⟨rfl, nq, rfl⟩
              obtain ⟨⟨b0, b1, b2, b3⟩, bf⟩ := hA3.cell
              obtain ⟨⟨d0, d1, d2, d3⟩, df⟩ := hS4.cell
              simp only at b0 b1 b2 b3
              go_wp2_with fail
              refine (heldR_any s'.E s'.H s'.U xN s'.S _).mono ?_
              rintro e w5 ⟨rfl, hB5⟩
              have hS5 : StAt w5 w.heap.size s' := below_blk hB5 hS4
              have hL5 : LeaseAt w5 g s' t := below_blk hB5 hL3
              have hT5 : Touch g w w5 := (hT3.drewN nq).trans (Touch.of_below hB5 g)
              clear b0 b1 b2 b3 bf d0 d1 d2 d3 df hS4 hA3 hL3 hT3 hB5 hH
              obtain ⟨⟨d0, d1, d2, d3⟩, df⟩ := hS5.cell
              rw [show (⟨s'.E, s'.H, s'.U, s'.S⟩ : LS) = s' from rfl, hh]
              go_wp2_with fail
              go_region_held3 (fun w' => w'.cell? ⟨w.heap.size, 0, none⟩ = some (.int .i64 s'.E) ∧ w'.cell? ⟨w.heap.size, 1, none⟩ = some (.int .i64 s'.H) ∧ w'.cell? ⟨w.heap.size, 2, none⟩ = some (.int .i64 s'.U) ∧ w'.cell? ⟨w.heap.size, 3, none⟩ = some (.bool s'.S) ∧ StAt w' w.heap.size s' ∧ LeaseAt w' g s' t ∧ Below w5.heap.size w5 w')
                (first | exact ⟨d0, d1, d2, d3, hS5, hL5, (Below.refl _ _).drew⟩ | exact s18_keep (by assumption) hB6)
                (first | (go_at_call 15; refine (state_any g s' t _ (s18_lease (w5 := w5) (b := w.heap.size) (by assumption))).mono ?_; rintro e w6 ⟨rfl, hB6⟩))
              have hw6 : w6.cell? ⟨w.heap.size, 0, none⟩ = some (.int .i64 s'.E) ∧ w6.cell? ⟨w.heap.size, 1, none⟩ = some (.int .i64 s'.H) ∧ w6.cell? ⟨w.heap.size, 2, none⟩ = some (.int .i64 s'.U) ∧ w6.cell? ⟨w.heap.size, 3, none⟩ = some (.bool s'.S) ∧ StAt w6 w.heap.size s' ∧ LeaseAt w6 g s' t ∧ Below w5.heap.size w5 w6 := by assumption
              clear d0 d1 d2 d3 df hS5 hL5 hB6
              obtain ⟨d0, d1, d2, d3, hS6, hL6, hB6⟩ := hw6
              have hT6 : Touch g w w6 := hT5.trans (Touch.of_below hB6 g)
              go_wp2
              exact ⟨⟨k + 1, s', by omega, by go_num, hL6, hS6, hT6⟩, by simp [intOf]; omega⟩
            · rw [show holderS s' xN = (s'.H, s'.E, 0) from by simp [holderS, hh]] at hH
              refine hH.out.mono ?_
              rintro e w4 ⟨rfl, nq, rfl⟩
              obtain ⟨⟨b0, b1, b2, b3⟩, bf⟩ := hA3.cell
              obtain ⟨⟨d0, d1, d2, d3⟩, df⟩ := hS4.cell
              simp only at b0 b1 b2 b3
              go_wp2_with fail
              refine (heldR_any s'.E s'.H s'.U xN s'.S _).mono ?_
              rintro e w5 ⟨rfl, hB5⟩
              have hS5 : StAt w5 w.heap.size s' := below_blk hB5 hS4
              have hL5 : LeaseAt w5 g s' t := below_blk hB5 hL3
              have hT5 : Touch g w w5 := (hT3.drewN nq).trans (Touch.of_below hB5 g)
              clear b0 b1 b2 b3 bf d0 d1 d2 d3 df hS4 hA3 hL3 hT3 hB5 hH
              obtain ⟨⟨d0, d1, d2, d3⟩, df⟩ := hS5.cell
              rw [show (⟨s'.E, s'.H, s'.U, s'.S⟩ : LS) = s' from rfl, hh]
              go_wp2_with fail
              go_region_held3 (fun w' => w'.cell? ⟨w.heap.size, 0, none⟩ = some (.int .i64 s'.E) ∧ w'.cell? ⟨w.heap.size, 1, none⟩ = some (.int .i64 s'.H) ∧ w'.cell? ⟨w.heap.size, 2, none⟩ = some (.int .i64 s'.U) ∧ w'.cell? ⟨w.heap.size, 3, none⟩ = some (.bool s'.S) ∧ StAt w' w.heap.size s' ∧ LeaseAt w' g s' t ∧ Below w5.heap.size w5 w')
                (first | exact ⟨d0, d1, d2, d3, hS5, hL5, (Below.refl _ _).drew⟩ | exact s18_keep (by assumption) hB6)
                (first | (go_at_call 15; refine (state_any g s' t _ (s18_lease (w5 := w5) (b := w.heap.size) (by assumption))).mono ?_; rintro e w6 ⟨rfl, hB6⟩))
              have hw6 : w6.cell? ⟨w.heap.size, 0, none⟩ = some (.int .i64 s'.E) ∧ w6.cell? ⟨w.heap.size, 1, none⟩ = some (.int .i64 s'.H) ∧ w6.cell? ⟨w.heap.size, 2, none⟩ = some (.int .i64 s'.U) ∧ w6.cell? ⟨w.heap.size, 3, none⟩ = some (.bool s'.S) ∧ StAt w6 w.heap.size s' ∧ LeaseAt w6 g s' t ∧ Below w5.heap.size w5 w6 := by assumption
              clear d0 d1 d2 d3 df hS5 hL5 hB6
              obtain ⟨d0, d1, d2, d3, hS6, hL6, hB6⟩ := hw6
              have hT6 : Touch g w w6 := hT5.trans (Touch.of_below hB6 g)
              go_wp2
              exact ⟨⟨k + 1, s', by omega, by go_num, hL6, hS6, hT6⟩, by simp [intOf]; omega⟩
          ·
            have q1 : (xK == 1) = false := by simpa using k1
            have q2 : (xK == 2) = false := by simpa using k2
            have q3 : (xK == 3) = false := by simpa using k3
            clear k1 k2 k3
            go_wp2_with fail
            obtain ⟨w3, h3⟩ : ∃ w3 : World, w3 = wr.alloc (.cells #[.int .i64 xK, .int .i64 xW, .int .i64 xE, .int .i64 xN] 33) := ⟨_, rfl⟩
            rw [← h3]
            rw [← h3] at hL1 hS1 hT1 hAc
            obtain ⟨s', rfl⟩ : ∃ s' : LS, s' = s := ⟨s, rfl⟩
            have hL3 : LeaseAt w3 g s' t := hL1
            have hA3 : ActAt w3 wr.heap.size ⟨xK, xW, xE, xN⟩ := hAc
            have hS4 : StAt w3 w.heap.size s' := hS1
            have hT3 : Touch g w w3 := hT1
            clear h3 hT1 hAc hL1 hS1 a0 a1 a2 a3 hL' hS hT
            have hH := Lib.hid (holder_any g s' t xN _ hL3)
            cases hh : heldB s' xN
            · rw [show holderS s' xN = (0, 0, 5) from by simp [holderS, hh]] at hH
              refine hH.out.mono ?_
              rintro e w4 ⟨rfl, nq, rfl⟩
              obtain ⟨⟨b0, b1, b2, b3⟩, bf⟩ := hA3.cell
              obtain ⟨⟨d0, d1, d2, d3⟩, df⟩ := hS4.cell
              simp only at b0 b1 b2 b3
              go_wp2_with fail
              refine (heldR_any s'.E s'.H s'.U xN s'.S _).mono ?_
              rintro e w5 ⟨rfl, hB5⟩
              have hS5 : StAt w5 w.heap.size s' := below_blk hB5 hS4
              have hL5 : LeaseAt w5 g s' t := below_blk hB5 hL3
              have hT5 : Touch g w w5 := (hT3.drewN nq).trans (Touch.of_below hB5 g)
              clear b0 b1 b2 b3 bf d0 d1 d2 d3 df hS4 hA3 hL3 hT3 hB5 hH
              obtain ⟨⟨d0, d1, d2, d3⟩, df⟩ := hS5.cell
              rw [show (⟨s'.E, s'.H, s'.U, s'.S⟩ : LS) = s' from rfl, hh]
              go_wp2_with fail
              go_region_held3 (fun w' => w'.cell? ⟨w.heap.size, 0, none⟩ = some (.int .i64 s'.E) ∧ w'.cell? ⟨w.heap.size, 1, none⟩ = some (.int .i64 s'.H) ∧ w'.cell? ⟨w.heap.size, 2, none⟩ = some (.int .i64 s'.U) ∧ w'.cell? ⟨w.heap.size, 3, none⟩ = some (.bool s'.S) ∧ StAt w' w.heap.size s' ∧ LeaseAt w' g s' t ∧ Below w5.heap.size w5 w')
                (first | exact ⟨d0, d1, d2, d3, hS5, hL5, (Below.refl _ _).drew⟩ | exact s18_keep (by assumption) hB6)
                (first | (go_at_call 15; refine (state_any g s' t _ (s18_lease (w5 := w5) (b := w.heap.size) (by assumption))).mono ?_; rintro e w6 ⟨rfl, hB6⟩))
              have hw6 : w6.cell? ⟨w.heap.size, 0, none⟩ = some (.int .i64 s'.E) ∧ w6.cell? ⟨w.heap.size, 1, none⟩ = some (.int .i64 s'.H) ∧ w6.cell? ⟨w.heap.size, 2, none⟩ = some (.int .i64 s'.U) ∧ w6.cell? ⟨w.heap.size, 3, none⟩ = some (.bool s'.S) ∧ StAt w6 w.heap.size s' ∧ LeaseAt w6 g s' t ∧ Below w5.heap.size w5 w6 := by assumption
              clear d0 d1 d2 d3 df hS5 hL5 hB6
              obtain ⟨d0, d1, d2, d3, hS6, hL6, hB6⟩ := hw6
              have hT6 : Touch g w w6 := hT5.trans (Touch.of_below hB6 g)
              go_wp2
              exact ⟨⟨k + 1, s', by omega, by go_num, hL6, hS6, hT6⟩, by simp [intOf]; omega⟩
            · rw [show holderS s' xN = (s'.H, s'.E, 0) from by simp [holderS, hh]] at hH
              refine hH.out.mono ?_
              rintro e w4 ⟨rfl, nq, rfl⟩
              obtain ⟨⟨b0, b1, b2, b3⟩, bf⟩ := hA3.cell
              obtain ⟨⟨d0, d1, d2, d3⟩, df⟩ := hS4.cell
              simp only at b0 b1 b2 b3
              go_wp2_with fail
              refine (heldR_any s'.E s'.H s'.U xN s'.S _).mono ?_
              rintro e w5 ⟨rfl, hB5⟩
              have hS5 : StAt w5 w.heap.size s' := below_blk hB5 hS4
              have hL5 : LeaseAt w5 g s' t := below_blk hB5 hL3
              have hT5 : Touch g w w5 := (hT3.drewN nq).trans (Touch.of_below hB5 g)
              clear b0 b1 b2 b3 bf d0 d1 d2 d3 df hS4 hA3 hL3 hT3 hB5 hH
              obtain ⟨⟨d0, d1, d2, d3⟩, df⟩ := hS5.cell
              rw [show (⟨s'.E, s'.H, s'.U, s'.S⟩ : LS) = s' from rfl, hh]
              go_wp2_with fail
              go_region_held3 (fun w' => w'.cell? ⟨w.heap.size, 0, none⟩ = some (.int .i64 s'.E) ∧ w'.cell? ⟨w.heap.size, 1, none⟩ = some (.int .i64 s'.H) ∧ w'.cell? ⟨w.heap.size, 2, none⟩ = some (.int .i64 s'.U) ∧ w'.cell? ⟨w.heap.size, 3, none⟩ = some (.bool s'.S) ∧ StAt w' w.heap.size s' ∧ LeaseAt w' g s' t ∧ Below w5.heap.size w5 w')
                (first | exact ⟨d0, d1, d2, d3, hS5, hL5, (Below.refl _ _).drew⟩ | exact s18_keep (by assumption) hB6)
                (first | (go_at_call 15; refine (state_any g s' t _ (s18_lease (w5 := w5) (b := w.heap.size) (by assumption))).mono ?_; rintro e w6 ⟨rfl, hB6⟩))
              have hw6 : w6.cell? ⟨w.heap.size, 0, none⟩ = some (.int .i64 s'.E) ∧ w6.cell? ⟨w.heap.size, 1, none⟩ = some (.int .i64 s'.H) ∧ w6.cell? ⟨w.heap.size, 2, none⟩ = some (.int .i64 s'.U) ∧ w6.cell? ⟨w.heap.size, 3, none⟩ = some (.bool s'.S) ∧ StAt w6 w.heap.size s' ∧ LeaseAt w6 g s' t ∧ Below w5.heap.size w5 w6 := by assumption
              clear d0 d1 d2 d3 df hS5 hL5 hB6
              obtain ⟨d0, d1, d2, d3, hS6, hL6, hB6⟩ := hw6
              have hT6 : Touch g w w6 := hT5.trans (Touch.of_below hB6 g)
              go_wp2
              exact ⟨⟨k + 1, s', by omega, by go_num, hL6, hS6, hT6⟩, by simp [intOf]; omega⟩
    · have hge : n ≤ k := by omega
      have hke : k = n := by omega
      subst hke
      clear hA' hL' hS hsz hlt
      go_wp2
      go_ret
      exact ⟨rfl, hT⟩
end Go.Proofs.Ytnfmhejfecadcaa
