import Derived.Test.YtjalihmjgjajcaaI
namespace Go.Proofs.Ytjalihmjgjajcaa
open Go.RowKit Go.Joins

structure AC where
  K : Int
  I : Int
  To : Int
  W : ByteArray
/-- what the acts read as -/
def ActsAt (w : World) (a : Option Addr) (n : Nat) (x : Nat → AC) : Prop :=
  ∀ i, i < n → ∃ ad, a = some ad ∧ w.cell? (ad.add (i * 4)) = some (.int .i64 (x i).K) ∧ w.cell? ⟨(ad.add (i * 4)).block, (ad.add (i * 4)).off + 1, none⟩ = some (.int .i64 (x i).I) ∧
    w.cell? ⟨(ad.add (i * 4)).block, (ad.add (i * 4)).off + 2, none⟩ = some (.int .i64 (x i).To) ∧ w.cell? ⟨(ad.add (i * 4)).block, (ad.add (i * 4)).off + 3, none⟩ = some (.string (x i).W)
theorem ActsAt.below {w w' : World} {a : Option Addr} {n : Nat} {x : Nat → AC} (h : ActsAt w a n x) (hb : Below w.heap.size w w') : ActsAt w' a n x := by
  have cell : ∀ p v, w.cell? p = some v → w'.cell? p = some v := fun p v hc => by rw [hb.cell (cell_block hc)]; exact hc
  intro i hi
  obtain ⟨ad, rfl, h0, h1, h2, h3⟩ := h i hi
  exact ⟨ad, rfl, cell _ _ h0, cell _ _ h1, cell _ _ h2, cell _ _ h3⟩
def ActAt (w : World) (b : Nat) (y : AC) : Prop := w.heap[b]? = some (.cells #[.int .i64 y.K, .int .i64 y.I, .int .i64 y.To, .string y.W] 28 (0, 0))
theorem ActAt.cell {w : World} {b : Nat} {y : AC} (h : ActAt w b y) : w.cell? ⟨b, 0, none⟩ = some (.int .i64 y.K) ∧ w.cell? ⟨b, 1, none⟩ = some (.int .i64 y.I) ∧ w.cell? ⟨b, 2, none⟩ = some (.int .i64 y.To) ∧ w.cell? ⟨b, 3, none⟩ = some (.string y.W) := by
  unfold ActAt at h
  exact ⟨by simp [World.cell?, h], by simp [World.cell?, h], by simp [World.cell?, h], by simp [World.cell?, h]⟩

theorem ActAt.new (w : World) (y : AC) : ActAt (w.alloc (.cells #[.int .i64 y.K, .int .i64 y.I, .int .i64 y.To, .string y.W] 28)) w.heap.size y := heap_alloc_new w _
theorem own_form {w : World} {B e s n : Nat} {v : Value} {xs : List Value} (h : w.ownsRow B e s v n xs) : ∃ ao cap, v = .slice ao n cap := by
  rcases h.2 with ⟨rfl, rfl⟩ | ⟨g, cap, cur, rfl, _⟩
  · exact ⟨none, 0, rfl⟩
  · exact ⟨_, cap, rfl⟩

theorem split_at (l : List LT) (i : Int) (h : 0 < l.length) : ∃ a x b, l = a ++ x :: b ∧ plN i l.length = a.length := by
  have hk := plN_lt i l.length h
  refine ⟨l.take (plN i l.length), l[plN i l.length], l.drop (plN i l.length + 1), ?_, by simp; omega⟩
  rw [← List.drop_eq_getElem_cons hk, List.take_append_drop]
theorem int_cell {w : World} {B g n cap k : Nat} {l : List Int} {x : Int} (h : w.ownsRow B 3 1 (.slice (some ⟨g, 0, none⟩) n cap) n (ints l)) (hk : l[k]? = some x) : w.cell? ⟨g, k, none⟩ = some (.int .i64 x) := by
  have hl := (List.getElem?_eq_some_iff.1 hk).1
  rw [h.cellAt k (by have := h.1; simp [ints] at this; omega)]
  simp [ints, hk]
theorem own_free {w : World} {B e s g n cap : Nat} {xs : List Value} (h : w.ownsRow B e s (.slice (some ⟨g, 0, none⟩) n cap) n xs) (k : Nat) : w.frozen? ⟨g, k, none⟩ = false := by
  rcases h.2 with ⟨e0, _⟩ | ⟨g', cap', cur, e0, _, hh, _⟩
  · cases e0
  · simp only [Value.slice.injEq, Option.some.injEq, Addr.mk.injEq, and_true, true_and] at e0
    obtain ⟨rfl, rfl⟩ := e0
    simp [World.frozen?, hh]

def ORel (W : World) (p n : Nat) (vt vl iv : Value) (wr : World) : Prop :=
  ∃ (i : Nat) (l : List LT) (T L : List Int), i ≤ n ∧ iv = .int .i64 i ∧ T.length ≤ i ∧ Inv l T L ∧ St W wr p l T L vt vl

def SRel (L : List Int) (sv kv : Value) : Prop := ∃ j : Nat, j ≤ L.length ∧ kv = .int .i64 j ∧ sv = .int .i64 (sumL (L.take j))

set_option maxRecDepth 100000 in
set_option maxHeartbeats 32000000 in
theorem once_any (a : Option Addr) (n c : Nat) (x : Nat → AC) (w : World) (hA : ActsAt w a n x) :
    Calls Try.prog 3 #[.slice a n c] w fun e w' => e = .returned (.bool true) ∧ Below w.heap.size w w' := by
  have HA := Lib.hid hA
  clear hA
  obtain ⟨i3, hi3, hz3⟩ := Option.map_eq_some_iff.1 info3
  simp only [Prod.mk.injEq] at hz3
  go_enter Try.func3, Try.ntmps3
  go_wp2_with fail
  refine (new_any _).mono ?_
  rintro e w1 ⟨rfl, h1, b1⟩
  have H1 := Lib.hid (⟨h1, b1⟩ : _ ∧ _)
  clear h1 b1
  go_wp2_with fail
  refine (awake_any _).mono ?_
  rintro e w2 ⟨rfl, b2⟩
  have H2 : Hid (St w w2 w.heap.size [] [] [] (.slice none 0 0) (.slice none 0 0)) := by
    obtain ⟨v, hb, ho⟩ := H1.out.1
    exact ⟨Nat.le_refl _, H1.out.2.trans (b2.mono H1.out.2.size), ⟨v, below_blk b2 hb, own_below ho b2, (sep_nil v).symm, (sep_nil v).symm⟩, World.ownsRow_nil _ _ _ _, World.ownsRow_nil _ _ _ _, sep_nil _⟩
  clear b2
  generalize hp : w.heap.size = p at *
  have HP := Lib.hid hp
  clear hp
  by_cases hn : n ≤ 150
  · go_wp2_with fail
    go_loopw [4, 5, 32] (ORel w p n) (fun _ _ i _ => n - (intOf i).toNat)
    case atStart => exact ⟨0, [], [], [], by omega, rfl, by simp, Inv.nil, H2.out⟩
    case round =>
      obtain ⟨i, l, T, L, hi, rfl, hT, hI, hS⟩ := hrel
      clear H1 H2
      by_cases hlt : i < n
      · obtain ⟨ad, rfl, a0, a1, a2, a3⟩ := HA.out.below hS.bel i hlt
        generalize x i = y at a0 a1 a2 a3
        have HAct := Lib.hid (ActAt.new wr y)
        have HS := Lib.hid (hS.below ((Below.refl _ wr).alloc (Nat.le_refl _) (.cells #[.int .i64 y.K, .int .i64 y.I, .int .i64 y.To, .string y.W] 28)))
        have hpl := hS.lt
        have HI := Lib.hid hI
        obtain ⟨aot, capt, rfl⟩ := own_form hS.to
        obtain ⟨aol, capl, rfl⟩ := own_form hS.left
        have HTL : Hid (L.length = T.length) := hI.len.symm
        have hLl : L.length ≤ 150 := by rw [HTL.out]; omega
        have hTl : T.length ≤ 150 := by omega
        clear hI hS
        obtain ⟨xK, xI, xTo, xW⟩ := y
        simp only at a0 a1 a2 a3
        by_cases k1 : xK = 1
        · subst k1
          go_wp2_with fail
          by_cases hl : l.length < 64
          · have HL := Lib.hid hl
            clear hl
            refine (send_room _ p l 1 xTo T.length _ HS.out.post HL.out).mono ?_
            rintro e w3 ⟨rfl, hp3, ht3⟩
            have HS3 := Lib.hid (HS.out.touch ht3 hp3)
            have HA3 := Lib.hid (ht3.blk HAct.out (by omega))
            have hs3 : wr.heap.size + 1 ≤ w3.heap.size := by have := ht3.size; simpa using this
            obtain ⟨b0, b1, b2, b3⟩ := ActAt.cell HA3.out
            simp only at b0 b1 b2 b3
            clear hp3 ht3 a0 a1 a2 a3
            have HS4 := Lib.hid (HS3.out.below ((Below.refl _ w3).alloc (Nat.le_refl _) (.cells #[.int .i64 xTo] 3)))
            go_wp2_with (first
              | (at_builtin
                 refine wpList_append_lies _ rfl _ _ 26 rfl (p + 1) 3 i3 (.int .i64 0) 1 8 Try.underlying26 hi3 hz3.1 hz3.2.1 hz3.2.2 rfl (by omega) _ _ _ rfl HS4.out.to _ 1 1 [.int .i64 xTo] rfl rfl (World.news_of_block (heap_alloc_new w3 _)) (by intro u hu; simp at hu; subst hu; rfl) (by omega) (by unfold maxLen; omega) (by omega) (by simp; omega) _ rfl ?_)
              | fail)
            intro g5 cap5 w5 hown5 hg5 hat5 hlt5
            have HS5 := Lib.hid ((HS4.out.appT hown5 hg5 (hat5.imp_right fun e => by rw [e]; simp)).below ((Below.refl _ w5).alloc (Nat.le_refl _) (.cells #[.int .i64 1] 3)))
            have hs5 : p < w5.heap.size := (HS4.out.appT hown5 hg5 (hat5.imp_right fun e => by rw [e]; simp)).lt
            clear hown5 hg5 hat5 hlt5 b0 b1 b2 b3 HS3 HS4 HA3
            go_wp2_with (first
              | (at_builtin
                 refine wpList_append_lies _ rfl _ _ 26 rfl (p + 1) 3 i3 (.int .i64 0) 1 8 Try.underlying26 hi3 hz3.1 hz3.2.1 hz3.2.2 rfl (by omega) _ _ _ rfl HS5.out.left _ 1 1 [.int .i64 1] rfl rfl (World.news_of_block (heap_alloc_new w5 _)) (by intro u hu; simp at hu; subst hu; rfl) (by omega) (by unfold maxLen; omega) (by omega) (by simp; omega) _ rfl ?_)
              | fail)
            intro g6 cap6 w6 hown6 hg6 hat6 hlt6
            have HS6 := Lib.hid (HS5.out.appL hown6 hg6 (hat6.imp_right fun e => by rw [e]; simp))
            clear hown6 hg6 hat6 hlt6 HS5
            go_wp2
            exact ⟨⟨i + 1, _, _, _, by omega, by go_num, by simp; omega, HI.out.send HL.out 1 xTo, HS6.out⟩, by simp [intOf]; omega⟩
          · have HL : Hid (l.length = 64) := by have := HI.out.small; exact (by omega : l.length = 64)
            clear hl
            refine (send_full _ p l 1 xTo T.length _ HS.out.post HL.out).mono ?_
            rintro e w3 ⟨rfl, hb3⟩
            have HS3 := Lib.hid (HS.out.below hb3)
            clear hb3 a0 a1 a2 a3
            go_wp2
            exact ⟨⟨i + 1, _, _, _, by omega, by go_num, by omega, HI.out, HS3.out⟩, by simp [intOf]; omega⟩
        · by_cases k2 : xK = 2 ∨ xK = 4
          · rcases List.eq_nil_or_concat l with rfl | ⟨l0, x0, hl0⟩
            · rcases k2 with rfl | rfl
              all_goals
                go_wp2_with fail
                refine (take_none xI _ p _ HS.out.post).mono ?_
                rintro e w3 ⟨rfl, hb3⟩
                have HS3 := Lib.hid ((HS.out.below hb3).below ((Below.refl _ w3).alloc (Nat.le_refl _) (.cells #[.int .i64 0, .int .i64 0, .int .i64 0] 31)))
                clear hb3 a0 a1 a2 a3
                go_wp2
                exact ⟨⟨i + 1, _, _, _, by omega, by go_num, by omega, HI.out, HS3.out⟩, by simp [intOf]; omega⟩
            · obtain ⟨la, lx, lb, rfl, hk⟩ := split_at l xI (by rw [hl0]; simp)
              have HK := Lib.hid hk
              clear hk hl0
              obtain ⟨k, hx, hkT, hkt, hkL, hkl, hc0, hc1⟩ := HI.out.at
              obtain ⟨xf, xt, xw⟩ := lx
              simp only at hx hkt
              subst hx
              obtain ⟨gt, capt', et, _⟩ := HS.out.to.form (by omega)
              obtain ⟨gl, capl', el, _⟩ := HS.out.left.form (by omega)
              simp only [Value.slice.injEq, true_and] at et el
              obtain ⟨rfl, rfl⟩ := et
              obtain ⟨rfl, rfl⟩ := el
              rcases k2 with rfl | rfl
              all_goals
                go_wp2_with fail
                refine (take_some xI _ p la lb ⟨xf, xt, (k : Int)⟩ _ HS.out.post HK.out HI.out.small).mono ?_
                rintro e w3 ⟨rfl, hp3, ht3⟩
                have HS3 := Lib.hid ((HS.out.touch ht3 hp3).below ((Below.refl _ w3).alloc (Nat.le_refl _) (.cells #[.int .i64 xf, .int .i64 xt, .int .i64 (k : Int)] 31)))
                have q1 := int_cell HS3.out.to hkt
                have q2 := int_cell HS3.out.left hkl
                have q3 := own_free HS3.out.left k
                have j1 : (0 : Int) ≤ (k : Int) := by omega
                have j2 : (k : Int) < (T.length : Int) := by omega
                have j3 : (k : Int) < (L.length : Int) := by omega
                have d1 : decide ((k : Int) < 0) = false := by simp
                have d2 : decide ((T.length : Int) ≤ (k : Int)) = false := by simp; omega
                have d3 : decide (cnt (la ++ lb) k + 1 < 1) = false := by simp; omega
                have HT : Hid (0 < T.length ∧ 0 < L.length) := ⟨by omega, by omega⟩
                have HC : Hid (k < T.length ∧ T[k]? = some xt ∧ k < L.length ∧ L[k]? = some (cnt (la ++ lb) k + 1)) := ⟨hkT, hkt, hkL, hkl⟩
                clear hp3 ht3 a0 a1 a2 a3 hkt hkl
                generalize hcn : cnt (la ++ lb) k = m at *
                have HCN := Lib.hid hcn
                clear hcn
                go_wp2_with fail
                go_quiet (fail)
                have hbn : w3.heap[w3.heap.size]? = none := by simp
                obtain ⟨w4, hw4⟩ : ∃ w4, w4 = (w3.alloc (.cells #[.int .i64 xf, .int .i64 xt, .int .i64 (k : Int)] 31)).drewN nq := ⟨_, rfl⟩
                have HS4 : Hid (St w w4 p (la ++ lb) T L (.slice (some ⟨gt, 0, none⟩) T.length capt) (.slice (some ⟨gl, 0, none⟩) L.length capl)) := by
                  rw [hw4]; exact HS3.out.below (below_drewN (Below.refl _ _) nq)
                have hb4 : w4.heap[w3.heap.size]? = some (.cells #[.int .i64 xf, .int .i64 xt, .int .i64 (k : Int)] 31 (0, 0)) := by rw [hw4]; exact below_blk (below_drewN (Below.refl _ _) nq) (heap_alloc_new w3 _)
                have hc4 : w4.cell? ⟨w3.heap.size, 2, none⟩ = some (.int .i64 (k : Int)) := by simp [World.cell?, hb4]
                rw [← hw4]
                clear hw4 hb4 hbn q1 q2 q3 HS3
                have q2 := int_cell HS4.out.left HC.out.2.2.2
                have q3 := own_free HS4.out.left k
                have HS5 := Lib.hid (HS4.out.setL k (m + 1 - 1))
                go_wp2
                refine ⟨⟨i + 1, la ++ lb, T, L.set k m, by omega, by go_num, by omega, ?_, ?_⟩, by simp [intOf]; omega⟩
                · rw [← HCN.out]; exact HI.out.take rfl
                · have h := HS5.out
                  rw [show m + 1 - 1 = m by omega] at h
                  exact h
          · by_cases k3 : xK = 3
            · subst k3
              clear k2
              have hmf : ∀ (fn : Fn) (first cap : Array Value) (w : World), (Instr.makeFunc fn first cap).run Try.prog w = .ok (.func fn first cap) w := fun _ _ _ _ => rfl
              have HS2 := Lib.hid (HS.out.below ((Below.refl _ _).alloc (Nat.le_refl _) (.cells #[.int .i64 (-1)] 3)))
              go_wp2_with fail
              refine (len_any _ p l _ HS2.out.post).mono ?_
              rintro e w3 ⟨rfl, rfl⟩
              have HS3 := Lib.hid (HS2.out.below ((Below.refl _ _).alloc (Nat.le_refl _) (.cells #[.int .i64 (l.length : Nat)] 3)))
              go_wp2_with fail
              refine (all_any _ p l _ HS3.out.post).mono ?_
              rintro e w4 ⟨va, ba, hba, rfl, hva, hoa, hb4⟩
              have e1 : (wr.alloc (.cells #[.int .i64 3, .int .i64 xI, .int .i64 xTo, .string xW] 28)).heap.size = wr.heap.size + 1 := by simp
              have e2 : ((wr.alloc (.cells #[.int .i64 3, .int .i64 xI, .int .i64 xTo, .string xW] 28)).alloc (.cells #[.int .i64 (-1)] 3)).heap.size = wr.heap.size + 1 + 1 := by simp
              have hn4 := below_blk hb4 (heap_alloc_new ((wr.alloc (.cells #[.int .i64 3, .int .i64 xI, .int .i64 xTo, .string xW] 28)).alloc (.cells #[.int .i64 (-1)] 3)) (.cells #[.int .i64 (l.length : Nat)] 3))
              rw [e2] at hn4
              have hk4 := below_blk hb4 (below_blk ((Below.refl _ _).alloc (Nat.le_refl _) (.cells #[.int .i64 (l.length : Nat)] 3)) (heap_alloc_new (wr.alloc (.cells #[.int .i64 3, .int .i64 xI, .int .i64 xTo, .string xW] 28)) (.cells #[.int .i64 (-1)] 3)))
              rw [e1] at hk4
              have hB4 : Below (wr.heap.size + 1) (wr.alloc (.cells #[.int .i64 3, .int .i64 xI, .int .i64 xTo, .string xW] 28)) w4 :=
                (((Below.refl _ _).alloc (by simp) _).alloc (by simp) _).trans (hb4.mono (by simp))
              have hA4 : ActAt w4 wr.heap.size ⟨3, xI, xTo, xW⟩ := (hB4.block _ (by omega)).trans HAct.out
              have hIc := (ActAt.cell hA4).2.1
              have hNc : w4.cell? ⟨wr.heap.size + 1 + 1, 0, none⟩ = some (.int .i64 (l.length : Nat)) := by simp [World.cell?, hn4]
              have H4 : Hid (St w w4 p l T L (.slice aot T.length capt) (.slice aol L.length capl)) := HS.out.below (by rw [e1]; exact hB4)
              have HB4 := Lib.hid hB4
              have HA4 := Lib.hid hA4
              have HF := Lib.hid (⟨hva, hoa, hk4, hIc, hNc⟩ : _ ∧ _ ∧ _ ∧ _ ∧ _)
              have he1 := Lib.hid e1
              clear hb4 hba hn4 hva hoa hk4 hB4 hA4 hIc hNc e1 e2 a0 a1 a2 a3 HS2 HS3
              simp only at HF
              go_wp2_with fail
              rcases List.eq_nil_or_concat l with rfl | ⟨l0, x0, hl0⟩
              · refine (f36_none _ ba va _ _ HF.out.1 HF.out.2.1).mono ?_
                rintro e w5 ⟨rfl, rfl⟩
                obtain ⟨b0, b1, b2, b3⟩ := ActAt.cell HA4.out
                simp only at b0 b1 b2 b3
                go_wp2_with fail
                refine (twice_none xI _ p _ H4.out.post).mono ?_
                rintro e w6 ⟨rfl, rfl⟩
                go_wp2
                exact ⟨⟨i + 1, _, _, _, by omega, by go_num, by omega, HI.out, H4.out⟩, by simp [intOf]; omega⟩
              · obtain ⟨la, lx, lb, rfl, hk⟩ := split_at l xI (by rw [hl0]; simp)
                have HK := Lib.hid hk
                clear hk hl0
                obtain ⟨k, hx, hkT, hkt, hkL, hkl, hc0, hc1⟩ := HI.out.at
                obtain ⟨xf, xt, xw⟩ := lx
                simp only at hx hkt
                subst hx
                obtain ⟨gl, capl', el, _⟩ := HS.out.left.form (by omega)
                simp only [Value.slice.injEq, true_and] at el
                obtain ⟨rfl, rfl⟩ := el
                have HC : Hid (k < L.length ∧ L[k]? = some (cnt (la ++ lb) k + 1)) := ⟨hkL, hkl⟩
                clear hkt hkl
                generalize hcn : cnt (la ++ lb) k = m at *
                have HCN := Lib.hid hcn
                clear hcn
                refine (f36_some xI _ ba wr.heap.size (wr.heap.size + 1 + 1) (wr.heap.size + 1) va 3 la lb ⟨xf, xt, (k : Int)⟩ _ HI.out.small HK.out (by simp) HF.out.1 HF.out.2.1 HF.out.2.2.2.1 HF.out.2.2.2.2 HF.out.2.2.1).mono ?_
                rintro e w5 ⟨rfl, hk5, ht5⟩
                have HA5 := Lib.hid (ht5.blk HA4.out (by omega))
                have H5 : Hid (St w w5 p (la ++ ⟨xf, xt, (k : Int)⟩ :: lb) T L (.slice aot T.length capt) (.slice (some ⟨gl, 0, none⟩) L.length capl)) :=
                  HS.out.below (by rw [he1.out]; exact HB4.out.trans (ht5.below (by omega) (by have := HB4.out.size; have := he1.out; omega)))
                have HK5 := Lib.hid hk5
                obtain ⟨b0, b1, b2, b3⟩ := ActAt.cell HA5.out
                simp only at b0 b1 b2 b3
                clear hk5 ht5
                go_wp2_with fail
                by_cases hl : (la ++ (⟨xf, xt, (k : Int)⟩ : LT) :: lb).length < 64
                · have HL := Lib.hid hl
                  clear hl
                  refine (twice_room xI _ p la lb ⟨xf, xt, (k : Int)⟩ _ H5.out.post HK.out HL.out).mono ?_
                  rintro e w6 ⟨rfl, hp6, ht6⟩
                  have HS6 := Lib.hid (H5.out.touch ht6 hp6)
                  have hk6 := ht6.blk HK5.out (by omega)
                  have hc6 : w6.cell? ⟨wr.heap.size + 1, 0, none⟩ = some (.int .i64 (k : Int)) := by simp [World.cell?, hk6]
                  have q2 := int_cell HS6.out.left HC.out.2
                  have q3 := own_free HS6.out.left k
                  have j1 : (0 : Int) ≤ (k : Int) := by omega
                  have j3 : (k : Int) < (L.length : Int) := by omega
                  have d1 : decide ((k : Int) < 0) = false := by simp
                  have d2 : decide ((L.length : Int) ≤ (k : Int)) = false := by simp; omega
                  have HS7 := Lib.hid (HS6.out.setL k (m + 1 + 1))
                  clear hp6 ht6 hk6 b0 b1 b2 b3
                  go_wp2
                  refine ⟨⟨i + 1, _, T, L.set k (m + 1 + 1), by omega, by go_num, by omega, ?_, HS7.out⟩, by simp [intOf]; omega⟩
                  rw [← HCN.out]; exact HI.out.twice HL.out rfl
                · have HL : Hid ((la ++ (⟨xf, xt, (k : Int)⟩ : LT) :: lb).length = 64) := (by have := HI.out.small; omega : (la ++ (⟨xf, xt, (k : Int)⟩ : LT) :: lb).length = 64)
                  clear hl
                  refine (twice_full xI _ p la lb ⟨xf, xt, (k : Int)⟩ _ H5.out.post HK.out HL.out).mono ?_
                  rintro e w6 ⟨rfl, hb6⟩
                  have HS6 := Lib.hid (H5.out.below hb6)
                  clear hb6 b0 b1 b2 b3
                  go_wp2
                  exact ⟨⟨i + 1, _, _, _, by omega, by go_num, by omega, HI.out, HS6.out⟩, by simp [intOf]; omega⟩
            · have k4 : ¬ xK = 2 := fun e => k2 (.inl e)
              have k5 : ¬ xK = 4 := fun e => k2 (.inr e)
              clear k2
              go_wp2
              exact ⟨⟨i + 1, _, _, _, by omega, by go_num, by omega, HI.out, HS.out⟩, by simp [intOf]; omega⟩
      · have hin : i = n := by omega
        have HS := Lib.hid hS
        have HI := Lib.hid hI
        obtain ⟨aol, capl, rfl⟩ := own_form hS.left
        have hLl : L.length ≤ 150 := by rw [← hI.len]; omega
        clear hI hS hT hi
        subst hin
        go_wp2_with fail
        go_loop [14, 134] (SRel L) (fun _ k => L.length - (intOf k).toNat)
        case atStart => exact ⟨0, by omega, rfl, by simp [sumL]⟩
        case round =>
          obtain ⟨j, hj, rfl, rfl⟩ := hrel
          have hb := HI.out.sum_take_le j hj
          by_cases hjl : j < L.length
          · obtain ⟨gl, capl', el, _⟩ := HS.out.left.form (by omega)
            simp only [Value.slice.injEq, true_and] at el
            obtain ⟨rfl, rfl⟩ := el
            have hq := sum_take L j hjl
            have hb2 := HI.out.sum_take_le (j + 1) hjl
            have hcell := int_cell HS.out.left (show L[j]? = some L[j] by simp [hjl])
            have HQ := Lib.hid hq
            have hx : -10000 ≤ L[j] ∧ L[j] ≤ 10000 := by omega
            obtain ⟨hx1, hx2⟩ := hx
            clear hq hb2
            generalize L[j] = xj at *
            generalize sumL (L.take j) = sj at *
            go_wp2
            exact ⟨⟨j + 1, by omega, by go_num, by rw [HQ.out]⟩, by simp [intOf]; omega⟩
          · have hjn : j = L.length := by omega
            subst hjn
            have hs : sumL (L.take L.length) = l.length := by rw [List.take_length]; exact HI.out.sum
            rw [hs]
            clear hb hs
            go_wp2_with fail
            refine (len_any _ p l _ HS.out.post).mono ?_
            rintro e w3 ⟨rfl, rfl⟩
            have HB := Lib.hid HS.out.bel
            go_wp2
            go_ret
            exact ⟨rfl, HB.out⟩
  · go_wp2_with fail
    refine (awake_any _).mono ?_
    rintro e w3 ⟨rfl, hb3⟩
    have HB := Lib.hid (H2.out.below hb3).bel
    clear hb3
    go_wp2
    go_ret
    exact ⟨rfl, HB.out⟩
end Go.Proofs.Ytjalihmjgjajcaa
