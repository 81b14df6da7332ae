import Derived.Test.YtopcjopibblpaaaI
import Derived.Deep.AppendLies
import Derived.OwnWalk
import Derived.Deep.RegionHeld3
import Derived.Deep.QuietTactic
import Derived.BigQuiet
namespace Go.Proofs.Ytopcjopibblpaaa
open Go.RowKit

theorem own_below {w w' : World} {B e size n : Nat} {v : Value} {xs : List Value} (h : w.ownsRow B e size v n xs) (hb : Below w.heap.size w w') : w'.ownsRow B e size v n xs := by
  refine ⟨h.1, h.2.imp_right ?_⟩
  rintro ⟨g, cap, cur, hv, hg, hh, r⟩
  exact ⟨g, cap, cur, hv, hg, below_blk hb hh, r⟩
def ints (l : List Nat) : List Value := l.map fun (x : Nat) => Value.int .i64 (x : Int)

def TuRel (w : World) (a : AL) (z : Nat → Int) (n : Nat) (v fv rv iv : Value) (wr : World) : Prop :=
  ∃ i : Nat, i ≤ n ∧ iv = .int .i64 i ∧ fv = .int .i64 (rs a z i).f ∧ rv = .bool (rs a z i).r ∧ wr.ownsRow (w.heap.size + 1) 3 1 v (rs a z i).out.length (ints (rs a z i).out) ∧ AlAt 26 wr w.heap.size a ∧ Below w.heap.size w wr
def CRel (w : World) (a : AL) (z : Nat → Int) (f : Nat) (r : Bool) (m : Nat) (xs : List Value) (i : Nat) (v : Value) (nv kv : Value) (wr : World) : Prop :=
  ∃ g : Nat, f + g ≤ i + 1 ∧ nv = .int .i64 g ∧ kv = .int .i64 ((i : Int) - g) ∧ (∀ j, i + 1 - g ≤ j → j < i + 1 → agn a r (z j) = true) ∧ wr.ownsRow (w.heap.size + 1) 3 1 v m xs ∧ AlAt 26 wr w.heap.size a ∧ Below w.heap.size w wr
def ERel (w : World) (a : AL) (z : Nat → Int) (f : Nat) (r : Bool) (m : Nat) (xs : List Value) (n : Nat) (v : Value) (nv kv : Value) (wr : World) : Prop :=
  ∃ g : Nat, f + g ≤ n ∧ nv = .int .i64 g ∧ kv = .int .i64 ((n : Int) - 1 - g) ∧ (∀ j, n - g ≤ j → j < n → agn a r (z j) = true) ∧ wr.ownsRow (w.heap.size + 1) 3 1 v m xs ∧ AlAt 26 wr w.heap.size a ∧ Below w.heap.size w wr
theorem rs_next {a : AL} {z : Nat → Int} {out : List Nat} {f : Nat} {r : Bool} {i ag G : Nat} (h : Run a z f r i ag) (hG : Run a z f r (i + 1) G) :
    rstep a i (z i) ⟨out, f, r, ag⟩ = if needI a r ≤ (G : Int) then ⟨out ++ [i], i + 1, !r, 0⟩ else ⟨out, f, r, G⟩ := by
  have e := hG.unique h.next
  unfold rstep cntS
  simp only
  rw [← e]
theorem info3 : (Try.prog.info? 3).map (fun i => (i.zero, i.size, i.bytes)) = some (some (Value.int IntKind.i64 0), 1, 8) := by kernel_rfl

def HeldT (w0 W : World) (b : Nat) (a : AL) (p : Addr) (x : Int) (B : Nat) (v : Value) (m : Nat) (xs : List Value) : Prop :=
  W.cell? ⟨b, 0, none⟩ = some (.int .i64 a.L) ∧ W.cell? ⟨b, 1, none⟩ = some (.bool a.A) ∧ W.cell? ⟨b, 2, none⟩ = some (.int .i64 a.R) ∧ W.cell? ⟨b, 3, none⟩ = some (.int .i64 a.F) ∧ W.cell? p = some (.int .i64 x) ∧ AlAt 26 W b a ∧ W.ownsRow B 3 1 v m xs ∧ Below w0.heap.size w0 W
theorem HeldT.of {w0 W : World} {b : Nat} {a : AL} {p : Addr} {x : Int} {B : Nat} {v : Value} {m : Nat} {xs : List Value} (h : AlAt 26 W b a) (hp : W.cell? p = some (.int .i64 x)) (ho : W.ownsRow B 3 1 v m xs) (hB : Below w0.heap.size w0 W) : HeldT w0 W b a p x B v m xs := by
  obtain ⟨⟨c0, c1, c2, c3⟩, _⟩ := h.cell
  exact ⟨c0, c1, c2, c3, hp, h, ho, hB⟩
theorem HeldT.keep {w0 W W' : World} {b : Nat} {a : AL} {p : Addr} {x : Int} {B : Nat} {v : Value} {m : Nat} {xs : List Value} (h : HeldT w0 W b a p x B v m xs) (hB : Below W.heap.size W W') : HeldT w0 W' b a p x B v m xs :=
  HeldT.of (below_blk hB h.2.2.2.2.2.1) (below_cell hB h.2.2.2.2.1) (own_below h.2.2.2.2.2.2.1 hB) (h.2.2.2.2.2.2.2.trans (hB.mono h.2.2.2.2.2.2.2.size))

set_option maxRecDepth 100000 in
set_option maxHeartbeats 8000000 in
theorem turnsR_any (L R F : Int) (A : Bool) (a : Option Addr) (n c : Nat) (z : Nat → Int) (w : World) (hn : n ≤ 80) (hS : SumsAt w a n z) :
    Calls Try.prog 11 #[.agg #[.int .i64 L, .bool A, .int .i64 R, .int .i64 F], .slice a n c] w fun e w' =>
      ∃ v, e = .returned (.tuple #[v, .int .i64 ((rs ⟨L, A, R, F⟩ z n).ag : Int)]) ∧ w'.ownsRow (w.heap.size + 1) 3 1 v (rs ⟨L, A, R, F⟩ z n).out.length (ints (rs ⟨L, A, R, F⟩ z n).out) ∧ Below w.heap.size w w' := by
  have HS := Lib.hid hS
  clear hS
  have hA := AlAt.new 26 w L R F A
  have hB := (Below.refl w.heap.size w).alloc (Nat.le_refl _) (.cells #[.int .i64 L, .bool A, .int .i64 R, .int .i64 F] 26)
  have H0 : Hid (AlAt 26 _ w.heap.size ⟨L, A, R, F⟩ ∧ Below w.heap.size w _) := ⟨hA, hB⟩
  clear hA hB
  go_enter Try.func11, Try.ntmps11
  go_wp2_with fail
  go_loopw [6, 7, 8, 17] (TuRel w ⟨L, A, R, F⟩ z n) (fun _ _ _ i _ => n - (intOf i).toNat)
  case atStart => exact ⟨(0 : Nat), by omega, rfl, rfl, rfl, World.ownsRow_nil _ _ _ _, H0.out.1, H0.out.2⟩
  case round =>
    obtain ⟨i, hi, rfl, rfl, rfl, ho, hA, hB⟩ := hrel
    clear H0
    have hf := rs_facts ⟨L, A, R, F⟩ z i
    have hrun := rs_run ⟨L, A, R, F⟩ z i
    have hnext : Hid (rs ⟨L, A, R, F⟩ z (i + 1) = rstep ⟨L, A, R, F⟩ i (z i) (rs ⟨L, A, R, F⟩ z i)) := rfl
    have hend : Hid (i = n → rs ⟨L, A, R, F⟩ z n = rs ⟨L, A, R, F⟩ z i) := fun h => by subst h; rfl
    generalize rs ⟨L, A, R, F⟩ z i = s at ho hf hrun hnext hend ⊢
    obtain ⟨out, f, r, ag⟩ := s
    simp only at ho hf hrun
    have hf1 := hf.1
    have hlen := hf.2.2.1
    have HRUN := Lib.hid hrun
    clear hf hrun
    by_cases hlt : i < n
    · have HI := Lib.hid (⟨ho, hA, hB⟩ : wr.ownsRow (w.heap.size + 1) 3 1 _ out.length (ints out) ∧ AlAt 26 wr w.heap.size ⟨L, A, R, F⟩ ∧ Below w.heap.size w wr)
      obtain ⟨⟨d0, d1, d2, d3⟩, df⟩ := hA.cell
      simp only at d0 d1 d2 d3
      clear ho hA hB
      obtain ⟨i3, hi3, hz3⟩ := Option.map_eq_some_iff.1 info3
      simp only [Prod.mk.injEq] at hz3
      cases r
      · go_wp2_with fail
        go_loopw [11, 12] (CRel w ⟨L, A, R, F⟩ z f false out.length (ints out) i u6) (fun _ k _ => (intOf k + 1).toNat)
        case atStart => exact ⟨(0 : Nat), by omega, rfl, by simp, fun j h1 h2 => by omega, HI.out.1, HI.out.2.1, HI.out.2.2⟩
        case round =>
          obtain ⟨g, hg, rfl, rfl, hall, ho, hA, hB⟩ := hrel
          have HALL := Lib.hid hall
          clear hall HI d0 d1 d2 d3 df
          have HJ := Lib.hid (⟨ho, hA, hB⟩ : _ ∧ AlAt 26 _ w.heap.size ⟨L, A, R, F⟩ ∧ Below w.heap.size w _)
          by_cases hk : f + g ≤ i
          · have e : (i : Int) - g = ((i - g : Nat) : Int) := by omega
            rw [e]
            have hm : f ≤ i - g ∧ i - g ≤ i ∧ i - g + g = i := by omega
            obtain ⟨hm1, hm2, hm3⟩ := hm
            generalize i - g = m at hm1 hm2 hm3 ⊢
            have hge : decide ((f : Int) ≤ (m : Int)) = true := by simpa using hm1
            obtain ⟨ad, had, z0⟩ := (HS.out.below hB) m (by omega)
            subst had
            have i1 : (0 : Int) ≤ (m : Int) := by omega
            have i2 : (m : Int) < (n : Int) := by omega
            obtain ⟨⟨d0, d1, d2, d3⟩, df⟩ := hA.cell
            simp only at d0 d1 d2 d3
            clear ho hA hB
            go_wp2_with fail
            go_region_held3 (fun w' => w'.cell? ⟨w.heap.size, 0, none⟩ = some (.int .i64 L) ∧ w'.cell? ⟨w.heap.size, 1, none⟩ = some (.bool A) ∧ w'.cell? ⟨w.heap.size, 2, none⟩ = some (.int .i64 R) ∧ w'.cell? ⟨w.heap.size, 3, none⟩ = some (.int .i64 F) ∧ w'.cell? (ad.add m) = some (.int .i64 (z m)) ∧ AlAt 26 w' w.heap.size ⟨L, A, R, F⟩ ∧ w'.ownsRow (w.heap.size + 1) 3 1 u6 out.length (ints out) ∧ Below wr.heap.size wr w')
              (first | exact (HeldT.of (W := wr.drew) HJ.out.2.1 z0 HJ.out.1 (Below.refl _ _).drew : HeldT wr _ w.heap.size ⟨L, A, R, F⟩ (ad.add m) (z m) (w.heap.size + 1) u6 out.length (ints out)) | exact (HeldT.keep (w0 := wr) (b := w.heap.size) (a := ⟨L, A, R, F⟩) (p := ad.add m) (x := z m) (B := w.heap.size + 1) (v := u6) (m := out.length) (xs := ints out) (by assumption) hB1 : HeldT wr _ w.heap.size ⟨L, A, R, F⟩ (ad.add m) (z m) (w.heap.size + 1) u6 out.length (ints out)))
              (first | (go_at_call 14; refine (badR_any L R F (z m) A _).mono ?_; rintro e w1 ⟨rfl, hB1⟩))
            have HW : Hid (w1.ownsRow (w.heap.size + 1) 3 1 u6 out.length (ints out) ∧ AlAt 26 w1 w.heap.size ⟨L, A, R, F⟩ ∧ Below w.heap.size w w1) :=
              ⟨own_below (w := wr.drew) HJ.out.1 hB1, below_blk (w := wr.drew) hB1 HJ.out.2.1, HJ.out.2.2.drew.trans (hB1.mono HJ.out.2.2.size)⟩
            clear hB1 d0 d1 d2 d3 df z0 HJ
            cases hb : badB ⟨L, A, R, F⟩ (z m)
            · have hag : agn ⟨L, A, R, F⟩ false (z m) = false := by simp [agn, hb]
              have hrunG : Run ⟨L, A, R, F⟩ z f false (i + 1) g := ⟨hg, HALL.out, .inr (by rw [show i + 1 - g - 1 = m by omega]; exact hag)⟩
              clear hag hb HALL
              have hGr := rs_next (out := out) HRUN.out hrunG
              clear hrunG
              by_cases hn2 : R ≤ (g : Int)
              · have hG2 : rs ⟨L, A, R, F⟩ z (i + 1) = ⟨out ++ [i], i + 1, true, 0⟩ := by rw [hnext.out, hGr]; simp [needI, hn2]
                have HG2 := Lib.hid hG2
                have hd2 : decide (R ≤ (g : Int)) = true := by simpa using hn2
                clear hGr hG2 hn2 hnext
                have HO := Lib.hid (own_below HW.out.1 ((Below.refl _ w1).alloc (Nat.le_refl _) (.cells #[.int .i64 (i : Int)] 3)))
                have HAA : Hid (AlAt 26 (w1.alloc (.cells #[.int .i64 (i : Int)] 3)) w.heap.size ⟨L, A, R, F⟩) := Lib.hid (below_blk ((Below.refl _ w1).alloc (Nat.le_refl _) (.cells #[.int .i64 (i : Int)] 3)) HW.out.2.1)
                have HBB := Lib.hid (HW.out.2.2.alloc HW.out.2.2.size (.cells #[.int .i64 (i : Int)] 3))
                go_wp2_with (first
                  | (at_builtin
                     refine wpList_append_lies _ rfl _ _ 24 rfl (w.heap.size + 1) 3 i3 (.int .i64 0) 1 8 Try.underlying24 hi3 hz3.1 hz3.2.1 hz3.2.2 rfl (by omega) _ _ _ rfl HO.out _ 1 1 [.int .i64 (i : Int)] rfl rfl (World.news_of_block (heap_alloc_new w1 _)) (by intro u hu; simp at hu; subst hu; rfl) (by omega) (by unfold maxLen; omega) (by omega) (by have := HAA.out.lt; omega) _ rfl ?_)
                  | fail)
                intro g2 cap2 w5 hown5 hg5 hat5 hlt5
                have hB5 : Below (w.heap.size + 1) (w1.alloc (.cells #[.int .i64 (i : Int)] 3)) w5 := (Below.refl _ _).grown hg5 (by have := HAA.out.lt; omega) (by
                  intro k hk
                  rcases HO.out.2 with ⟨e, _⟩ | ⟨g, cap, cur, e, hge, _⟩
                  · rw [e] at hk; cases hk
                  · rw [e] at hk; simp [Value.ownBlock] at hk; omega)
                have H5 : Hid (w5.ownsRow (w.heap.size + 1) 3 1 (.slice (some ⟨g2, 0, none⟩) (out.length + 1) cap2) (out ++ [i]).length (ints (out ++ [i])) ∧ AlAt 26 w5 w.heap.size ⟨L, A, R, F⟩ ∧ Below w.heap.size w w5) := by
                  refine ⟨?_, ?_, HBB.out.trans (hB5.mono (by omega))⟩
                  · have e : ints (out ++ [i]) = ints out ++ [.int .i64 (i : Int)] := by simp [ints]
                    rw [e]; simpa using hown5
                  · exact (hB5.block _ (by omega)).trans HAA.out
                clear hown5 hg5 hat5 hlt5 hB5 HO HAA HBB HW
                go_wp2
                exact ⟨⟨i + 1, by omega, by go_num, by first | (rw [HG2.out]; done) | (rw [HG2.out]; go_num), by rw [HG2.out]; done, by rw [HG2.out]; exact H5.out.1, H5.out.2.1, H5.out.2.2⟩, by simp [intOf]; omega⟩
              · have hG2 : rs ⟨L, A, R, F⟩ z (i + 1) = ⟨out, f, false, g⟩ := by rw [hnext.out, hGr]; simp [needI, hn2]
                have HG2 := Lib.hid hG2
                have hd2 : decide (R ≤ (g : Int)) = false := by simpa using hn2
                clear hGr hG2 hn2 hnext
                go_wp2
                exact ⟨⟨i + 1, by omega, by go_num, by first | (rw [HG2.out]; done) | (rw [HG2.out]; go_num), by first | (rw [HG2.out]; done) | (rw [HG2.out]; go_num), by rw [HG2.out]; exact HW.out.1, HW.out.2.1, HW.out.2.2⟩, by simp [intOf]; omega⟩
            · have hag : agn ⟨L, A, R, F⟩ false (z m) = true := by simp [agn, hb]
              have HAG := Lib.hid hag
              clear hag hb
              go_wp2
              exact ⟨⟨g + 1, by omega, by go_num, by go_num, fun j h1 h2 => by
                by_cases hj : j = m
                · rw [hj]; exact HAG.out
                · exact HALL.out j (by omega) (by omega), HW.out.1, HW.out.2.1, HW.out.2.2⟩, by first | (simp [intOf]; done) | (simp [intOf]; omega)⟩
          · have hk' : f + g = i + 1 := by omega
            have hge : decide ((f : Int) ≤ (i : Int) - g) = false := by simp; omega
            have hrunG : Run ⟨L, A, R, F⟩ z f false (i + 1) g := ⟨hg, HALL.out, .inl hk'⟩
            clear ho hA hB HALL
            go_wp2_with fail
            go_quiet (fail)
            have HJ2 : Hid ((wr.drewN nq).ownsRow (w.heap.size + 1) 3 1 u6 out.length (ints out) ∧ AlAt 26 (wr.drewN nq) w.heap.size ⟨L, A, R, F⟩ ∧ Below w.heap.size w (wr.drewN nq)) := ⟨HJ.out.1, HJ.out.2.1, below_drewN' HJ.out.2.2 nq⟩
            clear HJ
            generalize (wr.drewN nq) = w1 at HJ2 ⊢
            have hGr := rs_next (out := out) HRUN.out hrunG
            clear hrunG
            by_cases hn2 : R ≤ (g : Int)
            · have hG2 : rs ⟨L, A, R, F⟩ z (i + 1) = ⟨out ++ [i], i + 1, true, 0⟩ := by rw [hnext.out, hGr]; simp [needI, hn2]
              have HG2 := Lib.hid hG2
              have hd2 : decide (R ≤ (g : Int)) = true := by simpa using hn2
              clear hGr hG2 hn2 hnext
              have HO := Lib.hid (own_below HJ2.out.1 ((Below.refl _ w1).alloc (Nat.le_refl _) (.cells #[.int .i64 (i : Int)] 3)))
              have HAA : Hid (AlAt 26 (w1.alloc (.cells #[.int .i64 (i : Int)] 3)) w.heap.size ⟨L, A, R, F⟩) := Lib.hid (below_blk ((Below.refl _ w1).alloc (Nat.le_refl _) (.cells #[.int .i64 (i : Int)] 3)) HJ2.out.2.1)
              have HBB := Lib.hid (HJ2.out.2.2.alloc HJ2.out.2.2.size (.cells #[.int .i64 (i : Int)] 3))
              go_wp2_with (first
                | (at_builtin
                   refine wpList_append_lies _ rfl _ _ 24 rfl (w.heap.size + 1) 3 i3 (.int .i64 0) 1 8 Try.underlying24 hi3 hz3.1 hz3.2.1 hz3.2.2 rfl (by omega) _ _ _ rfl HO.out _ 1 1 [.int .i64 (i : Int)] rfl rfl (World.news_of_block (heap_alloc_new w1 _)) (by intro u hu; simp at hu; subst hu; rfl) (by omega) (by unfold maxLen; omega) (by omega) (by have := HAA.out.lt; omega) _ rfl ?_)
                | fail)
              intro g2 cap2 w5 hown5 hg5 hat5 hlt5
              have hB5 : Below (w.heap.size + 1) (w1.alloc (.cells #[.int .i64 (i : Int)] 3)) w5 := (Below.refl _ _).grown hg5 (by have := HAA.out.lt; omega) (by
                intro k hk
                rcases HO.out.2 with ⟨e, _⟩ | ⟨g, cap, cur, e, hge, _⟩
                · rw [e] at hk; cases hk
                · rw [e] at hk; simp [Value.ownBlock] at hk; omega)
              have H5 : Hid (w5.ownsRow (w.heap.size + 1) 3 1 (.slice (some ⟨g2, 0, none⟩) (out.length + 1) cap2) (out ++ [i]).length (ints (out ++ [i])) ∧ AlAt 26 w5 w.heap.size ⟨L, A, R, F⟩ ∧ Below w.heap.size w w5) := by
                refine ⟨?_, ?_, HBB.out.trans (hB5.mono (by omega))⟩
                · have e : ints (out ++ [i]) = ints out ++ [.int .i64 (i : Int)] := by simp [ints]
                  rw [e]; simpa using hown5
                · exact (hB5.block _ (by omega)).trans HAA.out
              clear hown5 hg5 hat5 hlt5 hB5 HO HAA HBB HJ2
              go_wp2
              exact ⟨⟨i + 1, by omega, by go_num, by first | (rw [HG2.out]; done) | (rw [HG2.out]; go_num), by rw [HG2.out]; done, by rw [HG2.out]; exact H5.out.1, H5.out.2.1, H5.out.2.2⟩, by simp [intOf]; omega⟩
            · have hG2 : rs ⟨L, A, R, F⟩ z (i + 1) = ⟨out, f, false, g⟩ := by rw [hnext.out, hGr]; simp [needI, hn2]
              have HG2 := Lib.hid hG2
              have hd2 : decide (R ≤ (g : Int)) = false := by simpa using hn2
              clear hGr hG2 hn2 hnext
              go_wp2
              exact ⟨⟨i + 1, by omega, by go_num, by first | (rw [HG2.out]; done) | (rw [HG2.out]; go_num), by first | (rw [HG2.out]; done) | (rw [HG2.out]; go_num), by rw [HG2.out]; exact HJ2.out.1, HJ2.out.2.1, HJ2.out.2.2⟩, by simp [intOf]; omega⟩
      · go_wp2_with fail
        go_loopw [11, 12] (CRel w ⟨L, A, R, F⟩ z f true out.length (ints out) i u6) (fun _ k _ => (intOf k + 1).toNat)
        case atStart => exact ⟨(0 : Nat), by omega, rfl, by simp, fun j h1 h2 => by omega, HI.out.1, HI.out.2.1, HI.out.2.2⟩
        case round =>
          obtain ⟨g, hg, rfl, rfl, hall, ho, hA, hB⟩ := hrel
          have HALL := Lib.hid hall
          clear hall HI d0 d1 d2 d3 df
          have HJ := Lib.hid (⟨ho, hA, hB⟩ : _ ∧ AlAt 26 _ w.heap.size ⟨L, A, R, F⟩ ∧ Below w.heap.size w _)
          by_cases hk : f + g ≤ i
          · have e : (i : Int) - g = ((i - g : Nat) : Int) := by omega
            rw [e]
            have hm : f ≤ i - g ∧ i - g ≤ i ∧ i - g + g = i := by omega
            obtain ⟨hm1, hm2, hm3⟩ := hm
            generalize i - g = m at hm1 hm2 hm3 ⊢
            have hge : decide ((f : Int) ≤ (m : Int)) = true := by simpa using hm1
            obtain ⟨ad, had, z0⟩ := (HS.out.below hB) m (by omega)
            subst had
            have i1 : (0 : Int) ≤ (m : Int) := by omega
            have i2 : (m : Int) < (n : Int) := by omega
            obtain ⟨⟨d0, d1, d2, d3⟩, df⟩ := hA.cell
            simp only at d0 d1 d2 d3
            clear ho hA hB
            go_wp2_with fail
            go_region_held3 (fun w' => w'.cell? ⟨w.heap.size, 0, none⟩ = some (.int .i64 L) ∧ w'.cell? ⟨w.heap.size, 1, none⟩ = some (.bool A) ∧ w'.cell? ⟨w.heap.size, 2, none⟩ = some (.int .i64 R) ∧ w'.cell? ⟨w.heap.size, 3, none⟩ = some (.int .i64 F) ∧ w'.cell? (ad.add m) = some (.int .i64 (z m)) ∧ AlAt 26 w' w.heap.size ⟨L, A, R, F⟩ ∧ w'.ownsRow (w.heap.size + 1) 3 1 u6 out.length (ints out) ∧ Below wr.heap.size wr w')
              (first | exact (HeldT.of (W := wr.drew) HJ.out.2.1 z0 HJ.out.1 (Below.refl _ _).drew : HeldT wr _ w.heap.size ⟨L, A, R, F⟩ (ad.add m) (z m) (w.heap.size + 1) u6 out.length (ints out)) | exact (HeldT.keep (w0 := wr) (b := w.heap.size) (a := ⟨L, A, R, F⟩) (p := ad.add m) (x := z m) (B := w.heap.size + 1) (v := u6) (m := out.length) (xs := ints out) (by assumption) hB1 : HeldT wr _ w.heap.size ⟨L, A, R, F⟩ (ad.add m) (z m) (w.heap.size + 1) u6 out.length (ints out)))
              (first | (go_at_call 14; refine (badR_any L R F (z m) A _).mono ?_; rintro e w1 ⟨rfl, hB1⟩))
            have HW : Hid (w1.ownsRow (w.heap.size + 1) 3 1 u6 out.length (ints out) ∧ AlAt 26 w1 w.heap.size ⟨L, A, R, F⟩ ∧ Below w.heap.size w w1) :=
              ⟨own_below (w := wr.drew) HJ.out.1 hB1, below_blk (w := wr.drew) hB1 HJ.out.2.1, HJ.out.2.2.drew.trans (hB1.mono HJ.out.2.2.size)⟩
            clear hB1 d0 d1 d2 d3 df z0 HJ
            cases hb : badB ⟨L, A, R, F⟩ (z m)
            · have hag : agn ⟨L, A, R, F⟩ true (z m) = true := by simp [agn, hb]
              have HAG := Lib.hid hag
              clear hag hb
              go_wp2
              exact ⟨⟨g + 1, by omega, by go_num, by go_num, fun j h1 h2 => by
                by_cases hj : j = m
                · rw [hj]; exact HAG.out
                · exact HALL.out j (by omega) (by omega), HW.out.1, HW.out.2.1, HW.out.2.2⟩, by first | (simp [intOf]; done) | (simp [intOf]; omega)⟩
            · have hag : agn ⟨L, A, R, F⟩ true (z m) = false := by simp [agn, hb]
              have hrunG : Run ⟨L, A, R, F⟩ z f true (i + 1) g := ⟨hg, HALL.out, .inr (by rw [show i + 1 - g - 1 = m by omega]; exact hag)⟩
              clear hag hb HALL
              have hGr := rs_next (out := out) HRUN.out hrunG
              clear hrunG
              by_cases hn2 : F ≤ (g : Int)
              · have hG2 : rs ⟨L, A, R, F⟩ z (i + 1) = ⟨out ++ [i], i + 1, false, 0⟩ := by rw [hnext.out, hGr]; simp [needI, hn2]
                have HG2 := Lib.hid hG2
                have hd2 : decide (F ≤ (g : Int)) = true := by simpa using hn2
                clear hGr hG2 hn2 hnext
                have HO := Lib.hid (own_below HW.out.1 ((Below.refl _ w1).alloc (Nat.le_refl _) (.cells #[.int .i64 (i : Int)] 3)))
                have HAA : Hid (AlAt 26 (w1.alloc (.cells #[.int .i64 (i : Int)] 3)) w.heap.size ⟨L, A, R, F⟩) := Lib.hid (below_blk ((Below.refl _ w1).alloc (Nat.le_refl _) (.cells #[.int .i64 (i : Int)] 3)) HW.out.2.1)
                have HBB := Lib.hid (HW.out.2.2.alloc HW.out.2.2.size (.cells #[.int .i64 (i : Int)] 3))
                go_wp2_with (first
                  | (at_builtin
                     refine wpList_append_lies _ rfl _ _ 24 rfl (w.heap.size + 1) 3 i3 (.int .i64 0) 1 8 Try.underlying24 hi3 hz3.1 hz3.2.1 hz3.2.2 rfl (by omega) _ _ _ rfl HO.out _ 1 1 [.int .i64 (i : Int)] rfl rfl (World.news_of_block (heap_alloc_new w1 _)) (by intro u hu; simp at hu; subst hu; rfl) (by omega) (by unfold maxLen; omega) (by omega) (by have := HAA.out.lt; omega) _ rfl ?_)
                  | fail)
                intro g2 cap2 w5 hown5 hg5 hat5 hlt5
                have hB5 : Below (w.heap.size + 1) (w1.alloc (.cells #[.int .i64 (i : Int)] 3)) w5 := (Below.refl _ _).grown hg5 (by have := HAA.out.lt; omega) (by
                  intro k hk
                  rcases HO.out.2 with ⟨e, _⟩ | ⟨g, cap, cur, e, hge, _⟩
                  · rw [e] at hk; cases hk
                  · rw [e] at hk; simp [Value.ownBlock] at hk; omega)
                have H5 : Hid (w5.ownsRow (w.heap.size + 1) 3 1 (.slice (some ⟨g2, 0, none⟩) (out.length + 1) cap2) (out ++ [i]).length (ints (out ++ [i])) ∧ AlAt 26 w5 w.heap.size ⟨L, A, R, F⟩ ∧ Below w.heap.size w w5) := by
                  refine ⟨?_, ?_, HBB.out.trans (hB5.mono (by omega))⟩
                  · have e : ints (out ++ [i]) = ints out ++ [.int .i64 (i : Int)] := by simp [ints]
                    rw [e]; simpa using hown5
                  · exact (hB5.block _ (by omega)).trans HAA.out
                clear hown5 hg5 hat5 hlt5 hB5 HO HAA HBB HW
                go_wp2
                exact ⟨⟨i + 1, by omega, by go_num, by first | (rw [HG2.out]; done) | (rw [HG2.out]; go_num), by rw [HG2.out]; done, by rw [HG2.out]; exact H5.out.1, H5.out.2.1, H5.out.2.2⟩, by simp [intOf]; omega⟩
              · have hG2 : rs ⟨L, A, R, F⟩ z (i + 1) = ⟨out, f, true, g⟩ := by rw [hnext.out, hGr]; simp [needI, hn2]
                have HG2 := Lib.hid hG2
                have hd2 : decide (F ≤ (g : Int)) = false := by simpa using hn2
                clear hGr hG2 hn2 hnext
                go_wp2
                exact ⟨⟨i + 1, by omega, by go_num, by first | (rw [HG2.out]; done) | (rw [HG2.out]; go_num), by first | (rw [HG2.out]; done) | (rw [HG2.out]; go_num), by rw [HG2.out]; exact HW.out.1, HW.out.2.1, HW.out.2.2⟩, by simp [intOf]; omega⟩
          · have hk' : f + g = i + 1 := by omega
            have hge : decide ((f : Int) ≤ (i : Int) - g) = false := by simp; omega
            have hrunG : Run ⟨L, A, R, F⟩ z f true (i + 1) g := ⟨hg, HALL.out, .inl hk'⟩
            clear ho hA hB HALL
            go_wp2_with fail
            go_quiet (fail)
            have HJ2 : Hid ((wr.drewN nq).ownsRow (w.heap.size + 1) 3 1 u6 out.length (ints out) ∧ AlAt 26 (wr.drewN nq) w.heap.size ⟨L, A, R, F⟩ ∧ Below w.heap.size w (wr.drewN nq)) := ⟨HJ.out.1, HJ.out.2.1, below_drewN' HJ.out.2.2 nq⟩
            clear HJ
            generalize (wr.drewN nq) = w1 at HJ2 ⊢
            have hGr := rs_next (out := out) HRUN.out hrunG
            clear hrunG
            by_cases hn2 : F ≤ (g : Int)
            · have hG2 : rs ⟨L, A, R, F⟩ z (i + 1) = ⟨out ++ [i], i + 1, false, 0⟩ := by rw [hnext.out, hGr]; simp [needI, hn2]
              have HG2 := Lib.hid hG2
              have hd2 : decide (F ≤ (g : Int)) = true := by simpa using hn2
              clear hGr hG2 hn2 hnext
              have HO := Lib.hid (own_below HJ2.out.1 ((Below.refl _ w1).alloc (Nat.le_refl _) (.cells #[.int .i64 (i : Int)] 3)))
              have HAA : Hid (AlAt 26 (w1.alloc (.cells #[.int .i64 (i : Int)] 3)) w.heap.size ⟨L, A, R, F⟩) := Lib.hid (below_blk ((Below.refl _ w1).alloc (Nat.le_refl _) (.cells #[.int .i64 (i : Int)] 3)) HJ2.out.2.1)
              have HBB := Lib.hid (HJ2.out.2.2.alloc HJ2.out.2.2.size (.cells #[.int .i64 (i : Int)] 3))
              go_wp2_with (first
                | (at_builtin
                   refine wpList_append_lies _ rfl _ _ 24 rfl (w.heap.size + 1) 3 i3 (.int .i64 0) 1 8 Try.underlying24 hi3 hz3.1 hz3.2.1 hz3.2.2 rfl (by omega) _ _ _ rfl HO.out _ 1 1 [.int .i64 (i : Int)] rfl rfl (World.news_of_block (heap_alloc_new w1 _)) (by intro u hu; simp at hu; subst hu; rfl) (by omega) (by unfold maxLen; omega) (by omega) (by have := HAA.out.lt; omega) _ rfl ?_)
                | fail)
              intro g2 cap2 w5 hown5 hg5 hat5 hlt5
              have hB5 : Below (w.heap.size + 1) (w1.alloc (.cells #[.int .i64 (i : Int)] 3)) w5 := (Below.refl _ _).grown hg5 (by have := HAA.out.lt; omega) (by
                intro k hk
                rcases HO.out.2 with ⟨e, _⟩ | ⟨g, cap, cur, e, hge, _⟩
                · rw [e] at hk; cases hk
                · rw [e] at hk; simp [Value.ownBlock] at hk; omega)
              have H5 : Hid (w5.ownsRow (w.heap.size + 1) 3 1 (.slice (some ⟨g2, 0, none⟩) (out.length + 1) cap2) (out ++ [i]).length (ints (out ++ [i])) ∧ AlAt 26 w5 w.heap.size ⟨L, A, R, F⟩ ∧ Below w.heap.size w w5) := by
                refine ⟨?_, ?_, HBB.out.trans (hB5.mono (by omega))⟩
                · have e : ints (out ++ [i]) = ints out ++ [.int .i64 (i : Int)] := by simp [ints]
                  rw [e]; simpa using hown5
                · exact (hB5.block _ (by omega)).trans HAA.out
              clear hown5 hg5 hat5 hlt5 hB5 HO HAA HBB HJ2
              go_wp2
              exact ⟨⟨i + 1, by omega, by go_num, by first | (rw [HG2.out]; done) | (rw [HG2.out]; go_num), by rw [HG2.out]; done, by rw [HG2.out]; exact H5.out.1, H5.out.2.1, H5.out.2.2⟩, by simp [intOf]; omega⟩
            · have hG2 : rs ⟨L, A, R, F⟩ z (i + 1) = ⟨out, f, true, g⟩ := by rw [hnext.out, hGr]; simp [needI, hn2]
              have HG2 := Lib.hid hG2
              have hd2 : decide (F ≤ (g : Int)) = false := by simpa using hn2
              clear hGr hG2 hn2 hnext
              go_wp2
              exact ⟨⟨i + 1, by omega, by go_num, by first | (rw [HG2.out]; done) | (rw [HG2.out]; go_num), by first | (rw [HG2.out]; done) | (rw [HG2.out]; go_num), by rw [HG2.out]; exact HJ2.out.1, HJ2.out.2.1, HJ2.out.2.2⟩, by simp [intOf]; omega⟩
    · have hin : i = n := by omega
      subst hin
      have HI := Lib.hid (⟨ho, hA, hB⟩ : wr.ownsRow (w.heap.size + 1) 3 1 _ out.length (ints out) ∧ AlAt 26 wr w.heap.size ⟨L, A, R, F⟩ ∧ Below w.heap.size w wr)
      obtain ⟨⟨d0, d1, d2, d3⟩, df⟩ := hA.cell
      simp only at d0 d1 d2 d3
      clear ho hA hB hnext
      cases r
      · go_wp2_with fail
        go_loopw [13, 14] (ERel w ⟨L, A, R, F⟩ z f false out.length (ints out) i u6) (fun _ k _ => (intOf k + 1).toNat)
        case atStart => exact ⟨(0 : Nat), by omega, rfl, by simp, fun j h1 h2 => by omega, HI.out.1, HI.out.2.1, HI.out.2.2⟩
        case round =>
          obtain ⟨g, hg, rfl, rfl, hall, ho, hA, hB⟩ := hrel
          have HALL := Lib.hid hall
          clear hall HI d0 d1 d2 d3 df
          have HJ := Lib.hid (⟨ho, hA, hB⟩ : _ ∧ AlAt 26 _ w.heap.size ⟨L, A, R, F⟩ ∧ Below w.heap.size w _)
          by_cases hk : f + g < i
          · have e : (i : Int) - 1 - g = ((i - 1 - g : Nat) : Int) := by omega
            rw [e]
            have hm : f ≤ i - 1 - g ∧ i - 1 - g < i ∧ i - 1 - g + g + 1 = i := by omega
            obtain ⟨hm1, hm2, hm3⟩ := hm
            generalize i - 1 - g = m at hm1 hm2 hm3 ⊢
            have hge : decide ((f : Int) ≤ (m : Int)) = true := by simpa using hm1
            obtain ⟨ad, had, z0⟩ := (HS.out.below hB) m (by omega)
            subst had
            have i1 : (0 : Int) ≤ (m : Int) := by omega
            have i2 : (m : Int) < (i : Int) := by omega
            obtain ⟨⟨d0, d1, d2, d3⟩, df⟩ := hA.cell
            simp only at d0 d1 d2 d3
            clear ho hA hB
            go_wp2_with fail
            go_region_held3 (fun w' => w'.cell? ⟨w.heap.size, 0, none⟩ = some (.int .i64 L) ∧ w'.cell? ⟨w.heap.size, 1, none⟩ = some (.bool A) ∧ w'.cell? ⟨w.heap.size, 2, none⟩ = some (.int .i64 R) ∧ w'.cell? ⟨w.heap.size, 3, none⟩ = some (.int .i64 F) ∧ w'.cell? (ad.add m) = some (.int .i64 (z m)) ∧ AlAt 26 w' w.heap.size ⟨L, A, R, F⟩ ∧ w'.ownsRow (w.heap.size + 1) 3 1 u6 out.length (ints out) ∧ Below wr.heap.size wr w')
              (first | exact (HeldT.of (W := wr.drew) HJ.out.2.1 z0 HJ.out.1 (Below.refl _ _).drew : HeldT wr _ w.heap.size ⟨L, A, R, F⟩ (ad.add m) (z m) (w.heap.size + 1) u6 out.length (ints out)) | exact (HeldT.keep (w0 := wr) (b := w.heap.size) (a := ⟨L, A, R, F⟩) (p := ad.add m) (x := z m) (B := w.heap.size + 1) (v := u6) (m := out.length) (xs := ints out) (by assumption) hB1 : HeldT wr _ w.heap.size ⟨L, A, R, F⟩ (ad.add m) (z m) (w.heap.size + 1) u6 out.length (ints out)))
              (first | (go_at_call 14; refine (badR_any L R F (z m) A _).mono ?_; rintro e w1 ⟨rfl, hB1⟩))
            have HW : Hid (w1.ownsRow (w.heap.size + 1) 3 1 u6 out.length (ints out) ∧ AlAt 26 w1 w.heap.size ⟨L, A, R, F⟩ ∧ Below w.heap.size w w1) :=
              ⟨own_below (w := wr.drew) HJ.out.1 hB1, below_blk (w := wr.drew) hB1 HJ.out.2.1, HJ.out.2.2.drew.trans (hB1.mono HJ.out.2.2.size)⟩
            clear hB1 d0 d1 d2 d3 df z0 HJ
            cases hb : badB ⟨L, A, R, F⟩ (z m)
            · have hag : agn ⟨L, A, R, F⟩ false (z m) = false := by simp [agn, hb]
              have hrunG : Run ⟨L, A, R, F⟩ z f false i g := ⟨hg, HALL.out, .inr (by rw [show i - g - 1 = m by omega]; exact hag)⟩
              clear hag hb HALL
              have hg2 : g = ag := hrunG.unique HRUN.out
              have HE2 := Lib.hid hg2
              clear hg2 hrunG
              go_wp2
              go_ret2
              exact ⟨u6, by (rw [hend.out trivial, HE2.out]; rfl), by rw [hend.out trivial]; exact HW.out.1, HW.out.2.2⟩
            · have hag : agn ⟨L, A, R, F⟩ false (z m) = true := by simp [agn, hb]
              have HAG := Lib.hid hag
              clear hag hb
              go_wp2
              exact ⟨⟨g + 1, by omega, by go_num, by go_num, fun j h1 h2 => by
                by_cases hj : j = m
                · rw [hj]; exact HAG.out
                · exact HALL.out j (by omega) (by omega), HW.out.1, HW.out.2.1, HW.out.2.2⟩, by first | (simp [intOf]; done) | (simp [intOf]; omega)⟩
          · have hk' : f + g = i := by omega
            have hge : decide ((f : Int) ≤ (i : Int) - 1 - g) = false := by simp; omega
            have hrunG : Run ⟨L, A, R, F⟩ z f false i g := ⟨hg, HALL.out, .inl hk'⟩
            clear ho hA hB HALL
            go_wp2_with fail
            go_quiet (fail)
            have HJ2 : Hid ((wr.drewN nq).ownsRow (w.heap.size + 1) 3 1 u6 out.length (ints out) ∧ AlAt 26 (wr.drewN nq) w.heap.size ⟨L, A, R, F⟩ ∧ Below w.heap.size w (wr.drewN nq)) := ⟨HJ.out.1, HJ.out.2.1, below_drewN' HJ.out.2.2 nq⟩
            clear HJ
            generalize (wr.drewN nq) = w1 at HJ2 ⊢
            have hg2 : g = ag := hrunG.unique HRUN.out
            have HE2 := Lib.hid hg2
            clear hg2 hrunG
            go_wp2
            go_ret2
            exact ⟨u6, by (rw [hend.out trivial, HE2.out]; rfl), by rw [hend.out trivial]; exact HJ2.out.1, HJ2.out.2.2⟩
      · go_wp2_with fail
        go_loopw [13, 14] (ERel w ⟨L, A, R, F⟩ z f true out.length (ints out) i u6) (fun _ k _ => (intOf k + 1).toNat)
        case atStart => exact ⟨(0 : Nat), by omega, rfl, by simp, fun j h1 h2 => by omega, HI.out.1, HI.out.2.1, HI.out.2.2⟩
        case round =>
          obtain ⟨g, hg, rfl, rfl, hall, ho, hA, hB⟩ := hrel
          have HALL := Lib.hid hall
          clear hall HI d0 d1 d2 d3 df
          have HJ := Lib.hid (⟨ho, hA, hB⟩ : _ ∧ AlAt 26 _ w.heap.size ⟨L, A, R, F⟩ ∧ Below w.heap.size w _)
          by_cases hk : f + g < i
          · have e : (i : Int) - 1 - g = ((i - 1 - g : Nat) : Int) := by omega
            rw [e]
            have hm : f ≤ i - 1 - g ∧ i - 1 - g < i ∧ i - 1 - g + g + 1 = i := by omega
            obtain ⟨hm1, hm2, hm3⟩ := hm
            generalize i - 1 - g = m at hm1 hm2 hm3 ⊢
            have hge : decide ((f : Int) ≤ (m : Int)) = true := by simpa using hm1
            obtain ⟨ad, had, z0⟩ := (HS.out.below hB) m (by omega)
            subst had
            have i1 : (0 : Int) ≤ (m : Int) := by omega
            have i2 : (m : Int) < (i : Int) := by omega
            obtain ⟨⟨d0, d1, d2, d3⟩, df⟩ := hA.cell
            simp only at d0 d1 d2 d3
            clear ho hA hB
            go_wp2_with fail
            go_region_held3 (fun w' => w'.cell? ⟨w.heap.size, 0, none⟩ = some (.int .i64 L) ∧ w'.cell? ⟨w.heap.size, 1, none⟩ = some (.bool A) ∧ w'.cell? ⟨w.heap.size, 2, none⟩ = some (.int .i64 R) ∧ w'.cell? ⟨w.heap.size, 3, none⟩ = some (.int .i64 F) ∧ w'.cell? (ad.add m) = some (.int .i64 (z m)) ∧ AlAt 26 w' w.heap.size ⟨L, A, R, F⟩ ∧ w'.ownsRow (w.heap.size + 1) 3 1 u6 out.length (ints out) ∧ Below wr.heap.size wr w')
              (first | exact (HeldT.of (W := wr.drew) HJ.out.2.1 z0 HJ.out.1 (Below.refl _ _).drew : HeldT wr _ w.heap.size ⟨L, A, R, F⟩ (ad.add m) (z m) (w.heap.size + 1) u6 out.length (ints out)) | exact (HeldT.keep (w0 := wr) (b := w.heap.size) (a := ⟨L, A, R, F⟩) (p := ad.add m) (x := z m) (B := w.heap.size + 1) (v := u6) (m := out.length) (xs := ints out) (by assumption) hB1 : HeldT wr _ w.heap.size ⟨L, A, R, F⟩ (ad.add m) (z m) (w.heap.size + 1) u6 out.length (ints out)))
              (first | (go_at_call 14; refine (badR_any L R F (z m) A _).mono ?_; rintro e w1 ⟨rfl, hB1⟩))
            have HW : Hid (w1.ownsRow (w.heap.size + 1) 3 1 u6 out.length (ints out) ∧ AlAt 26 w1 w.heap.size ⟨L, A, R, F⟩ ∧ Below w.heap.size w w1) :=
              ⟨own_below (w := wr.drew) HJ.out.1 hB1, below_blk (w := wr.drew) hB1 HJ.out.2.1, HJ.out.2.2.drew.trans (hB1.mono HJ.out.2.2.size)⟩
            clear hB1 d0 d1 d2 d3 df z0 HJ
            cases hb : badB ⟨L, A, R, F⟩ (z m)
            · have hag : agn ⟨L, A, R, F⟩ true (z m) = true := by simp [agn, hb]
              have HAG := Lib.hid hag
              clear hag hb
              go_wp2
              exact ⟨⟨g + 1, by omega, by go_num, by go_num, fun j h1 h2 => by
                by_cases hj : j = m
                · rw [hj]; exact HAG.out
                · exact HALL.out j (by omega) (by omega), HW.out.1, HW.out.2.1, HW.out.2.2⟩, by first | (simp [intOf]; done) | (simp [intOf]; omega)⟩
            · have hag : agn ⟨L, A, R, F⟩ true (z m) = false := by simp [agn, hb]
              have hrunG : Run ⟨L, A, R, F⟩ z f true i g := ⟨hg, HALL.out, .inr (by rw [show i - g - 1 = m by omega]; exact hag)⟩
              clear hag hb HALL
              have hg2 : g = ag := hrunG.unique HRUN.out
              have HE2 := Lib.hid hg2
              clear hg2 hrunG
              go_wp2
              go_ret2
              exact ⟨u6, by (rw [hend.out trivial, HE2.out]; rfl), by rw [hend.out trivial]; exact HW.out.1, HW.out.2.2⟩
          · have hk' : f + g = i := by omega
            have hge : decide ((f : Int) ≤ (i : Int) - 1 - g) = false := by simp; omega
            have hrunG : Run ⟨L, A, R, F⟩ z f true i g := ⟨hg, HALL.out, .inl hk'⟩
            clear ho hA hB HALL
            go_wp2_with fail
            go_quiet (fail)
            have HJ2 : Hid ((wr.drewN nq).ownsRow (w.heap.size + 1) 3 1 u6 out.length (ints out) ∧ AlAt 26 (wr.drewN nq) w.heap.size ⟨L, A, R, F⟩ ∧ Below w.heap.size w (wr.drewN nq)) := ⟨HJ.out.1, HJ.out.2.1, below_drewN' HJ.out.2.2 nq⟩
            clear HJ
            generalize (wr.drewN nq) = w1 at HJ2 ⊢
            have hg2 : g = ag := hrunG.unique HRUN.out
            have HE2 := Lib.hid hg2
            clear hg2 hrunG
            go_wp2
            go_ret2
            exact ⟨u6, by (rw [hend.out trivial, HE2.out]; rfl), by rw [hend.out trivial]; exact HJ2.out.1, HJ2.out.2.2⟩
end Go.Proofs.Ytopcjopibblpaaa
