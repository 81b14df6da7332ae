import Derived.Test.YtjalihmjgjajcaaT
import Derived.Test.YtjalihmjgjajcaaJ
namespace Go.Proofs.Ytjalihmjgjajcaa.S
open Go.RowKit Go.Joins
open Go.Proofs.Ytjalihmjgjajcaa (Touch below_blk own_below plN plN_lt plN_eq ret_ib block_setCells below_cells take_of_get cell_block own_same sep sep_nil AC ActsAt ActAt awake_any)
set_option linter.unusedVariables false

/-- what stands between two acts: the post has l, the law's row has r -/
structure SP (W wr : World) (p : Nat) (l r : List LT) (vl : Value) : Prop where
  pw : W.heap.size ≤ p
  bel : Below W.heap.size W wr
  small : l.length ≤ 64
  ex : ∃ vp, wr.heap[p]? = some (.cells #[vp] 69 (0, 0)) ∧ wr.ownsRow (p + 1) 48 3 vp l.length (flat l) ∧ sep vp vl
  row : wr.ownsRow (p + 1) 48 3 vl r.length (flat r)
namespace SP
variable {W wr w' : World} {p : Nat} {l l' r r' : List LT} {vl : Value}
theorem post (h : SP W wr p l r vl) : PostAt wr (p + 1) p l := by obtain ⟨vp, h1, h2, _⟩ := h.ex; exact ⟨vp, h1, h2⟩
theorem lt (h : SP W wr p l r vl) : p < wr.heap.size := by obtain ⟨vp, h1, _⟩ := h.ex; exact (Array.getElem?_eq_some_iff.1 h1).1
theorem below (h : SP W wr p l r vl) (hb : Below wr.heap.size wr w') : SP W w' p l r vl := by
  obtain ⟨vp, h1, h2, h3⟩ := h.ex
  exact ⟨h.pw, h.bel.trans (hb.mono h.bel.size), h.small, ⟨vp, below_blk hb h1, own_below h2 hb, h3⟩, own_below h.row hb⟩
/-- behind a call that turns the post alone -/
theorem touch (h : SP W wr p l r vl) (ht : Touch p wr w') (hp : PostAt w' wr.heap.size p l') (hs : l'.length ≤ 64) : SP W w' p l' r vl := by
  obtain ⟨vp, h1, h2⟩ := hp
  have hr : w'.ownsRow (p + 1) 48 3 vl r.length (flat r) := own_same h.row fun k hk => by have := h.row.lt k hk; exact ht.block k this.2 (by omega)
  exact ⟨h.pw, h.bel.trans (ht.below h.pw h.bel.size), hs, ⟨vp, h1, ownsRow_le h2 h.lt, fun k hk e => by have := (h.row.lt k e).2; have := (h2.lt k hk).1; omega⟩, hr⟩
/-- the law's row is a new one -/
theorem newrow (h : SP W wr p l r vl) (hb : Below wr.heap.size wr w') {vl' : Value} (ho : w'.ownsRow wr.heap.size 48 3 vl' r'.length (flat r')) : SP W w' p l r' vl' := by
  obtain ⟨vp, h1, h2, h3⟩ := h.ex
  exact ⟨h.pw, h.bel.trans (hb.mono h.bel.size), h.small, ⟨vp, below_blk hb h1, own_below h2 hb, fun k hk e => by have := (ho.lt k e).1; have := (h2.lt k hk).2; omega⟩, ownsRow_le ho h.lt⟩
theorem nil (h : SP W wr p l r vl) : SP W wr p l [] (.slice none 0 0) := by
  obtain ⟨vp, h1, h2, h3⟩ := h.ex
  exact ⟨h.pw, h.bel, h.small, ⟨vp, h1, h2, (sep_nil vp).symm⟩, World.ownsRow_nil _ _ _ _⟩
theorem app (h : SP W wr p l r vl) {g cap : Nat} {x : LT} (ho : w'.ownsRow (p + 1) 48 3 (.slice (some ⟨g, 0, none⟩) (r.length + 1) cap) (r.length + 1) (flat r ++ flat [x])) (hg : wr.grownBy w' vl.ownBlock) (hat : vl.ownBlock = some g ∨ g = wr.heap.size) : SP W w' p l (r ++ [x]) (.slice (some ⟨g, 0, none⟩) (r.length + 1) cap) := by
  obtain ⟨vp, h1, h2, h3⟩ := h.ex
  have hrow : ∀ k, vl.ownBlock = some k → p + 1 ≤ k := fun k hk => (h.row.lt k hk).1
  refine ⟨h.pw, h.bel.grown hg h.bel.size (fun k hk => by have := hrow k hk; have := h.pw; omega), h.small, ⟨vp, (hg.block p h.lt (fun e => by have := hrow p e.symm; omega)).trans h1, own_same h2 fun k hk => hg.block k (h2.lt k hk).2 (fun e => h3 k hk e.symm), fun k hk e => ?_⟩, ?_⟩
  · simp [Value.ownBlock] at e
    subst e
    rcases hat with e | e
    · exact h3 _ hk e
    · have := (h2.lt _ hk).2; omega
  · rw [flat_append, List.length_append]; exact ho
end SP

/-- an append onto a row of one's own, of any run of cells, at a region's operation -/
theorem wp_append_own_at {o : Oper} {a : Act} {w : World} {K : Act → World → Prop} {Q : Exit → Act → World → Prop} (s x : Operand) (t : TypeId)
    (ho : o.op = .call { callee := .builtin .append, args := #[s, x], argTypes := #[t, t] })
    (base : Nat) (e : TypeId) (i : TypeInfo) (z : Value) (size bytes : Nat) (ht : Try.prog.underlying t = some (.slice e)) (hi : Try.prog.info? e = some i) (hz : i.zero = some z)
    (hsize : i.size = size) (hby : i.bytes = bytes) (hzs : z.cells.size = size) (hsz : 0 < size)
    (v : Value) (n : Nat) (xs : List Value) (hs : a.eval s = v) (hown : w.ownsRow base e size v n xs)
    (ad : Addr) (m c : Nat) (news : List Value) (hx : a.eval x = .slice (some ad) m c) (hl : news.length = m * size) (hnews : ∀ j u, news[j]? = some u → w.cell? (ad.add j) = some u) (h1 : ∀ u ∈ news, u.oneCell' = true)
    (h63 : n + m ≤ maxLen) (hbytes : (n + m) * bytes ≤ 140737488355328) (hbase : base ≤ w.heap.size)
    (h : ∀ v' w', w'.ownsRow base e size v' (n + m) (xs ++ news) → w.grownBy w' v.ownBlock → K (a.put o.dst v') w') : o.wp Try.prog a w K Q := by
  obtain ⟨v', w', hr, h2, h3, h4, h5⟩ := run_append_own_at (P := Try.prog) w base t o.type e i z size bytes ht hi hz hsize hby hzs hsz v n xs hown ad m c news hl hnews h1 h63 hbytes hbase
  unfold Oper.wp execOp
  simp only [ho, resolve, invoke, builtin, Sem.run_bind, Sem.run_pure, Result.andThen_ok, List.map_toArray, List.map_cons, List.map_nil, hs, hx, hr]
  exact h v' w' h2 h3

theorem split_at (l : List LT) (i : Int) (h : 0 < l.length) : ∃ a x b, l = a ++ x :: b ∧ plN i l.length = a.length := by
  have hk := plN_lt i l.length h
  refine ⟨l.take (plN i l.length), l[plN i l.length], l.drop (plN i l.length + 1), ?_, by simp; omega⟩
  rw [← List.drop_eq_getElem_cons hk, List.take_append_drop]

theorem step_append_own_at {ops : Array Oper} {E : Prop} {o : Oper} {a : Act} {w : World} {K : Act → World → Prop} {Q : Exit → Act → World → Prop} (hgd : o.guard = none) (s x : Operand) (t : TypeId)
    (ho : o.op = .call { callee := .builtin .append, args := #[s, x], argTypes := #[t, t] })
    (base : Nat) (e : TypeId) (i : TypeInfo) (z : Value) (size bytes : Nat) (ht : Try.prog.underlying t = some (.slice e)) (hi : Try.prog.info? e = some i) (hz : i.zero = some z)
    (hsize : i.size = size) (hby : i.bytes = bytes) (hzs : z.cells.size = size) (hsz : 0 < size)
    (v : Value) (n : Nat) (xs : List Value) (hs : a.eval s = v) (hown : w.ownsRow base e size v n xs)
    (ad : Addr) (m c : Nat) (news : List Value) (hx : a.eval x = .slice (some ad) m c) (hl : news.length = m * size) (hnews : ∀ j u, news[j]? = some u → w.cell? (ad.add j) = some u) (h1 : ∀ u ∈ news, u.oneCell' = true)
    (h63 : n + m ≤ maxLen) (hbytes : (n + m) * bytes ≤ 140737488355328) (hbase : base ≤ w.heap.size)
    (h : ∀ v' w', w'.ownsRow base e size v' (n + m) (xs ++ news) → w.grownBy w' v.ownBlock → K (a.put o.dst v') w') :
    if Region.wanted o (yielded ops a.tmps) = true then Oper.wp Try.prog o a w K Q else E := by
  rw [if_pos (by simp [Region.wanted, hgd])]
  exact wp_append_own_at s x t ho base e i z size bytes ht hi hz hsize hby hzs hsz v n xs hs hown ad m c news hx hl hnews h1 h63 hbytes hbase h
theorem region_plain {id : Nat} {ops : Array Oper} {Q : Exit → Act → World → Prop} {a : Act} {w : World} (hm : Try.prog.follows .mixedOrders = true)
    (h : wpAny Try.prog .any ops Q ops.size (Array.replicate ops.size false) a w.drew) : (Code.region id ops true).wp Try.prog Q a w := wp_region_any hm h

theorem own_cap {w : World} {B e s g n cap : Nat} {xs : List Value} (h : w.ownsRow B e s (.slice (some ⟨g, 0, none⟩) n cap) n xs) : n ≤ cap ∧ cap ≤ maxLen := by
  rcases h.2 with ⟨e, _⟩ | ⟨g', cap', cur, e, _, _, hle, hm, _⟩
  · cases e
  · simp only [Value.slice.injEq] at e
    obtain ⟨_, _, rfl⟩ := e
    exact ⟨hle, hm⟩

def PRel (W : World) (p n : Nat) (vl iv : Value) (wr : World) : Prop :=
  ∃ (i : Nat) (l : List LT), i ≤ n ∧ iv = .int .i64 i ∧ SP W wr p l l vl

set_option maxRecDepth 100000 in
set_option maxHeartbeats 64000000 in
theorem plays_any (a : Option Addr) (n c : Nat) (x : Nat → AC) (mu : Int) (w : World) (hmu0 : 0 ≤ mu) (hmu1 : mu ≤ 255) (hA : ActsAt w a n x) :
    Calls Try.prog 4 #[.slice a n c, .int .u8 mu] w fun e w' => e = .returned (.bool true) ∧ Below w.heap.size w w' := by
  have HA := Lib.hid hA
  clear hA
  obtain ⟨i0, hi, hzz⟩ := Option.map_eq_some_iff.1 info48
  simp only [Prod.mk.injEq] at hzz
  have hmx : Try.prog.follows .mixedOrders = true := by kernel_rfl
  have hmf : ∀ (fn : Fn) (first cap : Array Value) (w : World), (Instr.makeFunc fn first cap).run Try.prog w = .ok (.func fn first cap) w := fun _ _ _ _ => rfl
  go_enter Try.func4, Try.ntmps4
  go_wp2_with fail
  refine (new_any _).mono ?_
  rintro e w1 ⟨rfl, h1, b1⟩
  have H1 := Lib.hid (⟨h1, b1⟩ : _ ∧ _)
  clear h1 b1
  go_wp2_with fail
  refine (awake_any _).mono ?_
  rintro e w2 ⟨rfl, b2⟩
  have H2 : Hid (SP w w2 w.heap.size [] [] (.slice none 0 0)) := by
    obtain ⟨v, hb, ho⟩ := H1.out.1
    exact ⟨Nat.le_refl _, H1.out.2.trans (b2.mono H1.out.2.size), by simp, ⟨v, below_blk b2 hb, own_below ho b2, (sep_nil v).symm⟩, World.ownsRow_nil _ _ _ _⟩
  clear b2
  generalize hp : w.heap.size = p at *
  have HP := Lib.hid hp
  clear hp
  by_cases hn : n ≤ 150
  · go_wp2_with fail
    go_loopw [6, 31] (PRel w p n) (fun _ i _ => n - (intOf i).toNat)
    case atStart => exact ⟨0, [], by omega, rfl, H2.out⟩
    case round =>
      obtain ⟨i, l, hi1, rfl, hS⟩ := hrel
      clear H1 H2
      by_cases hlt : i < n
      · obtain ⟨ad, rfl, a0, a1, a2, a3⟩ := HA.out.below hS.bel i hlt
        generalize x i = y at a0 a1 a2 a3
        have HAct := Lib.hid (ActAt.new wr y)
        have HS := Lib.hid (hS.below ((Below.refl _ wr).alloc (Nat.le_refl _) (.cells #[.int .i64 y.K, .int .i64 y.I, .int .i64 y.To, .string y.W] 28)))
        have hpl := hS.lt
        have hsm := hS.small
        obtain ⟨aol, capl, rfl⟩ := own_forms hS.row
        have HROW : Hid (∀ k, (Value.slice aol l.length capl).ownBlock = some k → k < wr.heap.size) := fun k hk => (hS.row.lt k hk).2
        clear hS
        obtain ⟨xK, xI, xTo, xW⟩ := y
        simp only at a0 a1 a2 a3
        rcases List.eq_nil_or_concat l with rfl | ⟨l0, x0, hl0⟩
        · by_cases k1 : xK = 1
          · subst k1
            as_aux_lemma =>
              have HX1 := Lib.hid (HS.out.below ((Below.refl _ _).alloc (Nat.le_refl _) (.cells #[.int .i64 xI, .int .i64 xTo, .string xW] 48)))
              have HAX := Lib.hid (below_blk ((Below.refl _ _).alloc (Nat.le_refl _) (.cells #[.int .i64 xI, .int .i64 xTo, .string xW] 48)) HAct.out)
              have HNX := Lib.hid (heap_alloc_new (wr.alloc (.cells #[.int .i64 1, .int .i64 xI, .int .i64 xTo, .string xW] 28)) (.cells #[.int .i64 xI, .int .i64 xTo, .string xW] 48))
              rw [show (wr.alloc (.cells #[.int .i64 1, .int .i64 xI, .int .i64 xTo, .string xW] 28)).heap.size = wr.heap.size + 1 by simp] at HNX
              go_wp2_with fail
              have HL : Hid (([] : List LT).length < 64) := (by decide : ([] : List LT).length < 64)
              refine (send_room _ p [] xI xTo xW _ HX1.out.post HL.out).mono ?_
              rintro e w3 ⟨rfl, hp3, ht3⟩
              have HS3 := Lib.hid (HX1.out.touch ht3 hp3 (by have h1 := HL.out; simp only [List.length_append, List.length_singleton]; omega))
              have HA3 := Lib.hid (ht3.blk HAX.out (by omega))
              have HN3 := Lib.hid (ht3.blk HNX.out (by omega))
              have hs3 : wr.heap.size + 2 ≤ w3.heap.size := by have := ht3.size; simp at this; omega
              have n0 := HN3.out
              have d0 : w3.cell? ⟨wr.heap.size + 1, 0, none⟩ = some (.int .i64 xI) := by simp [World.cell?, n0]
              have d1 : w3.cell? ⟨wr.heap.size + 1, 1, none⟩ = some (.int .i64 xTo) := by simp [World.cell?, n0]
              have d2 : w3.cell? ⟨wr.heap.size + 1, 2, none⟩ = some (.string xW) := by simp [World.cell?, n0]
              have HB4 := Lib.hid ((Below.refl w3.heap.size w3).alloc (Nat.le_refl _) (.cells #[.int .i64 xI, .int .i64 xTo, .string xW] 48))
              have HS4 := Lib.hid (HS3.out.below HB4.out)
              have HA4 := Lib.hid (below_blk HB4.out HA3.out)
              clear hp3 ht3 a0 a1 a2 a3 n0
              go_wp2_with (first
                | (at_builtin
                   refine wpList_append_lies _ rfl _ _ 46 rfl (p + 1) 48 i0 _ 3 32 Try.underlying46 hi hzz.1 hzz.2.1 hzz.2.2 rfl (by omega) _ _ _ rfl HS4.out.row _ 1 1 (flat [⟨xI, xTo, xW⟩]) rfl rfl (World.news_of_block (heap_alloc_new w3 _)) (flat_one _) (by omega) (by have := HL.out; unfold maxLen; omega) (by have := HL.out; omega) (by simp; omega) _ rfl ?_)
                | fail)
              intro g5 cap5 w5 hown5 hg5 hat5 hlt5
              have HZ := Lib.hid (HS4.out.app hown5 hg5 (hat5.imp_right fun e => by rw [e]; simp))
              skip
              have HZA : Hid (ActAt w5 wr.heap.size ⟨1, xI, xTo, xW⟩) := (hg5.block _ (by simp; omega) (fun e => by have := (HROW.out _ e.symm); omega)).trans HA4.out
              clear hown5 hg5 hat5 hlt5 d0 d1 d2 HS3 HS4 HA3 HA4 HN3 HB4 HX1 HAX HNX
              go_wp2_with fail
              refine (len_any _ p _ _ HZ.out.post).mono ?_
              rintro e wq ⟨rfl, rfl⟩
              have b8 := (ActAt.cell HZA.out).2.2.1
              simp only at b8
              have HB8 := Lib.hid b8
              go_wp2_with fail
              refine (to_any p xTo _).mono ?_
              rintro e w8 ⟨rfl, t1, t2, hB8⟩
              skip
              have HZ8 := Lib.hid (HZ.out.below hB8)
              have HT8 := Lib.hid (⟨t1, t2, (by rw [hB8.cell (cell_block HB8.out)]; exact HB8.out : w8.cell? ⟨wr.heap.size, 2, none⟩ = some (.int .i64 xTo))⟩ : _ ∧ _ ∧ _)
              clear t1 t2 hB8 b8
              go_wp2_with fail
              refine (goes_to 100 (by decide) (by decide) _ (p + 1) (p + 1) _ xTo _ _ wr.heap.size p _ HZ8.out.small HZ8.out.row HT8.out.1 HT8.out.2.1 HZ8.out.post HT8.out.2.2).mono ?_
              rintro e w9 ⟨rfl, hB9⟩
              have HZ9 := Lib.hid (HZ8.out.below hB9)
              clear hB9 HZ8 HT8 HB8
              go_wp2
              exact ⟨⟨i + 1, _, by omega, by go_num, HZ9.out⟩, by simp [intOf]; omega⟩
          by_cases k2 : xK = 2
          · subst k2
            clear k1
            as_aux_lemma =>
              go_wp2_with fail
              refine (take_none xI _ p _ HS.out.post).mono ?_
              rintro e w3 ⟨rfl, hb3⟩
              have HS3 := Lib.hid ((HS.out.below hb3).below ((Below.refl _ w3).alloc (Nat.le_refl _) (.cells #[.int .i64 0, .int .i64 0, .string ⟨#[]⟩] 48)))
              have HA3 : Hid (ActAt (w3.alloc (.cells #[.int .i64 0, .int .i64 0, .string ⟨#[]⟩] 48)) wr.heap.size ⟨2, xI, xTo, xW⟩) := below_blk (((Below.refl _ w3).alloc (Nat.le_refl _) (.cells #[.int .i64 0, .int .i64 0, .string ⟨#[]⟩] 48))) (below_blk hb3 HAct.out)
              have hq4 := neqL 0 0 ⟨#[]⟩
              clear hb3 a0 a1 a2 a3
              go_wp2_with fail
              go_quiet (fail)
              obtain ⟨w4, hw4⟩ : ∃ w4, w4 = (w3.alloc (.cells #[.int .i64 0, .int .i64 0, .string ⟨#[]⟩] 48)).drewN nq := ⟨_, rfl⟩
              have HZ : Hid (SP w w4 p [] [] (.slice aol 0 capl)) := by rw [hw4]; exact HS3.out.below (below_drewN (Below.refl _ _) nq)
              have HZA : Hid (ActAt w4 wr.heap.size ⟨2, xI, xTo, xW⟩) := by rw [hw4]; exact below_blk (below_drewN (Below.refl _ _) nq) HA3.out
              rw [← hw4]
              clear hw4 HS3 HA3 hq4 
              go_wp2_with fail
              refine (len_any _ p _ _ HZ.out.post).mono ?_
              rintro e wq ⟨rfl, rfl⟩
              have b8 := (ActAt.cell HZA.out).2.2.1
              simp only at b8
              have HB8 := Lib.hid b8
              go_wp2_with fail
              refine (to_any p xTo _).mono ?_
              rintro e w8 ⟨rfl, t1, t2, hB8⟩
              skip
              have HZ8 := Lib.hid (HZ.out.below hB8)
              have HT8 := Lib.hid (⟨t1, t2, (by rw [hB8.cell (cell_block HB8.out)]; exact HB8.out : w8.cell? ⟨wr.heap.size, 2, none⟩ = some (.int .i64 xTo))⟩ : _ ∧ _ ∧ _)
              clear t1 t2 hB8 b8
              go_wp2_with fail
              refine (goes_to 100 (by decide) (by decide) _ (p + 1) (p + 1) _ xTo _ _ wr.heap.size p _ HZ8.out.small HZ8.out.row HT8.out.1 HT8.out.2.1 HZ8.out.post HT8.out.2.2).mono ?_
              rintro e w9 ⟨rfl, hB9⟩
              have HZ9 := Lib.hid (HZ8.out.below hB9)
              clear hB9 HZ8 HT8 HB8
              go_wp2
              exact ⟨⟨i + 1, _, by omega, by go_num, HZ9.out⟩, by simp [intOf]; omega⟩
          by_cases k3 : xK = 3
          · subst k3
            clear k1 k2
            as_aux_lemma =>
              go_wp2_with fail
              refine (twice_none xI _ p _ HS.out.post).mono ?_
              rintro e w3 ⟨rfl, rfl⟩
              have HZ := Lib.hid HS.out
              have HZA : Hid (ActAt _ wr.heap.size ⟨3, xI, xTo, xW⟩) := HAct.out
              clear a0 a1 a2 a3
              go_wp2_with fail
              refine (len_any _ p _ _ HZ.out.post).mono ?_
              rintro e wq ⟨rfl, rfl⟩
              have b8 := (ActAt.cell HZA.out).2.2.1
              simp only at b8
              have HB8 := Lib.hid b8
              go_wp2_with fail
              refine (to_any p xTo _).mono ?_
              rintro e w8 ⟨rfl, t1, t2, hB8⟩
              rw [show (wr.alloc (.cells #[.int .i64 3, .int .i64 xI, .int .i64 xTo, .string xW] 28)).heap.size = wr.heap.size + 1 by simp] at t1 t2
              have HZ8 := Lib.hid (HZ.out.below hB8)
              have HT8 := Lib.hid (⟨t1, t2, (by rw [hB8.cell (cell_block HB8.out)]; exact HB8.out : w8.cell? ⟨wr.heap.size, 2, none⟩ = some (.int .i64 xTo))⟩ : _ ∧ _ ∧ _)
              clear t1 t2 hB8 b8
              go_wp2_with fail
              refine (goes_to 100 (by decide) (by decide) _ (p + 1) (p + 1) _ xTo _ _ wr.heap.size p _ HZ8.out.small HZ8.out.row HT8.out.1 HT8.out.2.1 HZ8.out.post HT8.out.2.2).mono ?_
              rintro e w9 ⟨rfl, hB9⟩
              have HZ9 := Lib.hid (HZ8.out.below hB9)
              clear hB9 HZ8 HT8 HB8
              go_wp2
              exact ⟨⟨i + 1, _, by omega, by go_num, HZ9.out⟩, by simp [intOf]; omega⟩
          by_cases k4 : xK = 4
          · subst k4
            clear k1 k2 k3
            as_aux_lemma =>
              go_wp2_with fail
              refine (clear_any _ p [] _ HS.out.post).mono ?_
              rintro e w3 ⟨rfl, hp3, ht3⟩
              have HZ := Lib.hid ((HS.out.touch ht3 hp3 (by simp)).nil)
              have HZA : Hid (ActAt w3 wr.heap.size ⟨4, xI, xTo, xW⟩) := ht3.blk HAct.out (by omega)
              clear hp3 ht3 a0 a1 a2 a3
              go_wp2_with fail
              refine (len_any _ p _ _ HZ.out.post).mono ?_
              rintro e wq ⟨rfl, rfl⟩
              have b8 := (ActAt.cell HZA.out).2.2.1
              simp only at b8
              have HB8 := Lib.hid b8
              go_wp2_with fail
              refine (to_any p xTo _).mono ?_
              rintro e w8 ⟨rfl, t1, t2, hB8⟩
              skip
              have HZ8 := Lib.hid (HZ.out.below hB8)
              have HT8 := Lib.hid (⟨t1, t2, (by rw [hB8.cell (cell_block HB8.out)]; exact HB8.out : w8.cell? ⟨wr.heap.size, 2, none⟩ = some (.int .i64 xTo))⟩ : _ ∧ _ ∧ _)
              clear t1 t2 hB8 b8
              go_wp2_with fail
              refine (goes_to 100 (by decide) (by decide) _ (p + 1) (p + 1) _ xTo _ _ wr.heap.size p _ HZ8.out.small HZ8.out.row HT8.out.1 HT8.out.2.1 HZ8.out.post HT8.out.2.2).mono ?_
              rintro e w9 ⟨rfl, hB9⟩
              have HZ9 := Lib.hid (HZ8.out.below hB9)
              clear hB9 HZ8 HT8 HB8
              go_wp2
              exact ⟨⟨i + 1, _, by omega, by go_num, HZ9.out⟩, by simp [intOf]; omega⟩
          as_aux_lemma =>
            have HZ := Lib.hid HS.out
            have HZA : Hid (ActAt _ wr.heap.size ⟨xK, xI, xTo, xW⟩) := HAct.out
            go_wp2_with fail
            refine (len_any _ p _ _ HZ.out.post).mono ?_
            rintro e wq ⟨rfl, rfl⟩
            have b8 := (ActAt.cell HZA.out).2.2.1
            simp only at b8
            have HB8 := Lib.hid b8
            go_wp2_with fail
            refine (to_any p xTo _).mono ?_
            rintro e w8 ⟨rfl, t1, t2, hB8⟩
            rw [show (wr.alloc (.cells #[.int .i64 xK, .int .i64 xI, .int .i64 xTo, .string xW] 28)).heap.size = wr.heap.size + 1 by simp] at t1 t2
            have HZ8 := Lib.hid (HZ.out.below hB8)
            have HT8 := Lib.hid (⟨t1, t2, (by rw [hB8.cell (cell_block HB8.out)]; exact HB8.out : w8.cell? ⟨wr.heap.size, 2, none⟩ = some (.int .i64 xTo))⟩ : _ ∧ _ ∧ _)
            clear t1 t2 hB8 b8
            go_wp2_with fail
            refine (goes_to 100 (by decide) (by decide) _ (p + 1) (p + 1) _ xTo _ _ wr.heap.size p _ HZ8.out.small HZ8.out.row HT8.out.1 HT8.out.2.1 HZ8.out.post HT8.out.2.2).mono ?_
            rintro e w9 ⟨rfl, hB9⟩
            have HZ9 := Lib.hid (HZ8.out.below hB9)
            clear hB9 HZ8 HT8 HB8
            go_wp2
            exact ⟨⟨i + 1, _, by omega, by go_num, HZ9.out⟩, by simp [intOf]; omega⟩
        · obtain ⟨la, lx, lb, rfl, hk⟩ := split_at l xI (by rw [hl0]; simp)
          clear hl0
          have hq := plN_eq xI (la ++ lx :: lb).length (by simp; omega) hsm
          have HK := Lib.hid hk
          rw [hk] at hq
          clear hk
          have hal : la.length < (la ++ lx :: lb).length := by simp
          have HLL : Hid ((la ++ lx :: lb).length = la.length + 1 + lb.length) := (by simp; omega : (la ++ lx :: lb).length = la.length + 1 + lb.length)
          generalize hL : la ++ lx :: lb = L at *
          have HLQ := Lib.hid hL
          clear hL
          generalize hN : L.length = N at *
          have HN : Hid (L.length = N) := hN
          clear hN
          have hn0 : ((N : Int) == 0) = false := by simp; omega
          have hn1 : (0 : Int) < (N : Int) := by omega
          have hk0 : (0 : Int) ≤ (la.length : Int) := by omega
          have hk1 : (la.length : Int) < (N : Int) := by omega
          by_cases k1 : xK = 1
          · subst k1
            as_aux_lemma =>
              have HX1 := Lib.hid (HS.out.below ((Below.refl _ _).alloc (Nat.le_refl _) (.cells #[.int .i64 xI, .int .i64 xTo, .string xW] 48)))
              have HAX := Lib.hid (below_blk ((Below.refl _ _).alloc (Nat.le_refl _) (.cells #[.int .i64 xI, .int .i64 xTo, .string xW] 48)) HAct.out)
              have HNX := Lib.hid (heap_alloc_new (wr.alloc (.cells #[.int .i64 1, .int .i64 xI, .int .i64 xTo, .string xW] 28)) (.cells #[.int .i64 xI, .int .i64 xTo, .string xW] 48))
              rw [show (wr.alloc (.cells #[.int .i64 1, .int .i64 xI, .int .i64 xTo, .string xW] 28)).heap.size = wr.heap.size + 1 by simp] at HNX
              go_wp2_with fail
              by_cases hl : N < 64
              · have HL := Lib.hid hl
                have hl2 : (N : Int) < 64 := by omega
                clear hl
                refine (send_room _ p L xI xTo xW _ HX1.out.post (by rw [HN.out]; exact HL.out)).mono ?_
                rintro e w3 ⟨rfl, hp3, ht3⟩
                have HS3 := Lib.hid (HX1.out.touch ht3 hp3 (by have h1 := (show L.length < 64 by rw [HN.out]; exact HL.out); simp only [List.length_append, List.length_singleton]; omega))
                have HA3 := Lib.hid (ht3.blk HAX.out (by omega))
                have HN3 := Lib.hid (ht3.blk HNX.out (by omega))
                have hs3 : wr.heap.size + 2 ≤ w3.heap.size := by have := ht3.size; simp at this; omega
                have n0 := HN3.out
                have d0 : w3.cell? ⟨wr.heap.size + 1, 0, none⟩ = some (.int .i64 xI) := by simp [World.cell?, n0]
                have d1 : w3.cell? ⟨wr.heap.size + 1, 1, none⟩ = some (.int .i64 xTo) := by simp [World.cell?, n0]
                have d2 : w3.cell? ⟨wr.heap.size + 1, 2, none⟩ = some (.string xW) := by simp [World.cell?, n0]
                have HB4 := Lib.hid ((Below.refl w3.heap.size w3).alloc (Nat.le_refl _) (.cells #[.int .i64 xI, .int .i64 xTo, .string xW] 48))
                have HS4 := Lib.hid (HS3.out.below HB4.out)
                have HA4 := Lib.hid (below_blk HB4.out HA3.out)
                clear hp3 ht3 a0 a1 a2 a3 n0
                go_wp2_with (first
                  | (at_builtin
                     refine wpList_append_lies _ rfl _ _ 46 rfl (p + 1) 48 i0 _ 3 32 Try.underlying46 hi hzz.1 hzz.2.1 hzz.2.2 rfl (by omega) _ _ _ rfl (by have h := HS4.out.row; rw [HN.out] at h; exact h) _ 1 1 (flat [⟨xI, xTo, xW⟩]) rfl rfl (World.news_of_block (heap_alloc_new w3 _)) (flat_one _) (by omega) (by have := HL.out; unfold maxLen; omega) (by have := HL.out; omega) (by simp; omega) _ rfl ?_)
                  | fail)
                intro g5 cap5 w5 hown5 hg5 hat5 hlt5
                have HZ := Lib.hid (HS4.out.app (by rw [HN.out]; exact hown5) hg5 (hat5.imp_right fun e => by rw [e]; simp))
                rw [HN.out] at HZ
                have HZA : Hid (ActAt w5 wr.heap.size ⟨1, xI, xTo, xW⟩) := (hg5.block _ (by simp; omega) (fun e => by have := (HROW.out _ e.symm); omega)).trans HA4.out
                clear hown5 hg5 hat5 hlt5 d0 d1 d2 HS3 HS4 HA3 HA4 HN3 HB4 HX1 HAX HNX
                have hN := HN.out
                go_wp2_with fail
                refine (len_any _ p _ _ HZ.out.post).mono ?_
                rintro e wq ⟨rfl, rfl⟩
                have b8 := (ActAt.cell HZA.out).2.2.1
                simp only at b8
                have HB8 := Lib.hid b8
                go_wp2_with fail
                refine (to_any p xTo _).mono ?_
                rintro e w8 ⟨rfl, t1, t2, hB8⟩
                skip
                have HZ8 := Lib.hid (HZ.out.below hB8)
                have HT8 := Lib.hid (⟨t1, t2, (by rw [hB8.cell (cell_block HB8.out)]; exact HB8.out : w8.cell? ⟨wr.heap.size, 2, none⟩ = some (.int .i64 xTo))⟩ : _ ∧ _ ∧ _)
                clear t1 t2 hB8 b8
                go_wp2_with fail
                refine (goes_to 100 (by decide) (by decide) _ (p + 1) (p + 1) _ xTo _ _ wr.heap.size p _ HZ8.out.small HZ8.out.row HT8.out.1 HT8.out.2.1 HZ8.out.post HT8.out.2.2).mono ?_
                rintro e w9 ⟨rfl, hB9⟩
                have HZ9 := Lib.hid (HZ8.out.below hB9)
                clear hB9 HZ8 HT8 HB8
                go_wp2
                exact ⟨⟨i + 1, _, by omega, by go_num, HZ9.out⟩, by simp [intOf]; omega⟩
              · have HL : Hid (N = 64) := (by omega : N = 64)
                have hl2 : ¬ (N : Int) < 64 := by omega
                clear hl
                refine (send_full _ p L xI xTo xW _ HX1.out.post (by rw [HN.out]; exact HL.out)).mono ?_
                rintro e w3 ⟨rfl, hb3⟩
                have HZ := Lib.hid (HX1.out.below hb3)
                have HZA : Hid (ActAt w3 wr.heap.size ⟨1, xI, xTo, xW⟩) := below_blk hb3 HAX.out
                clear hb3 a0 a1 a2 a3 HX1 HAX HNX
                have hN := HN.out
                go_wp2_with fail
                refine (len_any _ p _ _ HZ.out.post).mono ?_
                rintro e wq ⟨rfl, rfl⟩
                have b8 := (ActAt.cell HZA.out).2.2.1
                simp only at b8
                have HB8 := Lib.hid b8
                go_wp2_with fail
                refine (to_any p xTo _).mono ?_
                rintro e w8 ⟨rfl, t1, t2, hB8⟩
                skip
                have HZ8 := Lib.hid (HZ.out.below hB8)
                have HT8 := Lib.hid (⟨t1, t2, (by rw [hB8.cell (cell_block HB8.out)]; exact HB8.out : w8.cell? ⟨wr.heap.size, 2, none⟩ = some (.int .i64 xTo))⟩ : _ ∧ _ ∧ _)
                clear t1 t2 hB8 b8
                go_wp2_with fail
                refine (goes_to 100 (by decide) (by decide) _ (p + 1) (p + 1) _ xTo _ _ wr.heap.size p _ HZ8.out.small HZ8.out.row HT8.out.1 HT8.out.2.1 HZ8.out.post HT8.out.2.2).mono ?_
                rintro e w9 ⟨rfl, hB9⟩
                have HZ9 := Lib.hid (HZ8.out.below hB9)
                clear hB9 HZ8 HT8 HB8
                go_wp2
                exact ⟨⟨i + 1, _, by omega, by go_num, HZ9.out⟩, by simp [intOf]; omega⟩
          by_cases k2 : xK = 2
          · subst k2
            clear k1
            as_aux_lemma =>
              obtain ⟨xf, xt, xw⟩ := lx
              go_wp2_with fail
              refine (take_some xI _ p la lb ⟨xf, xt, xw⟩ _ (by rw [HLQ.out]; exact HS.out.post) (by rw [HLQ.out, HN.out]; exact HK.out) (by rw [HLQ.out, HN.out]; exact hsm)).mono ?_
              rintro e w3 ⟨rfl, hp3, ht3⟩
              have HB3 := Lib.hid ((Below.refl _ w3).alloc (Nat.le_refl _) (.cells #[.int .i64 xf, .int .i64 xt, .string xw] 48))
              have HS3 := Lib.hid ((HS.out.touch ht3 hp3 (by have := HLL.out; simp at this ⊢; omega)).below HB3.out)
              have HA3 : Hid (ActAt (w3.alloc (.cells #[.int .i64 xf, .int .i64 xt, .string xw] 48)) wr.heap.size ⟨2, xI, xTo, xW⟩) := below_blk HB3.out (ht3.blk HAct.out (by omega))
              have hq4 := neqL xf xt xw
              have hrow := HS3.out.row
              rw [HN.out] at hrow
              obtain ⟨gl, capl', el, _⟩ := hrow.form (by omega)
              simp only [Value.slice.injEq, true_and] at el
              obtain ⟨rfl, rfl⟩ := el
              obtain ⟨r0, r1, r2⟩ := row_cells hrow (show L[la.length]? = some ⟨xf, xt, xw⟩ by rw [← HLQ.out]; simp)
              simp only at r0 r1 r2
              have HCAP := Lib.hid (own_cap hrow)
              clear hp3 ht3 a0 a1 a2 a3 hrow
              go_wp2_with fail
              go_quiet (fail)
              obtain ⟨w4, hw4⟩ : ∃ w4, w4 = (w3.alloc (.cells #[.int .i64 xf, .int .i64 xt, .string xw] 48)).drewN nq := ⟨_, rfl⟩
              have HZ : Hid (SP w w4 p (la ++ lb) L (.slice (some ⟨gl, 0, none⟩) N capl)) := by rw [hw4]; exact HS3.out.below (below_drewN (Below.refl _ _) nq)
              have HZA : Hid (ActAt w4 wr.heap.size ⟨2, xI, xTo, xW⟩) := by rw [hw4]; exact below_blk (below_drewN (Below.refl _ _) nq) HA3.out
              rw [← hw4]
              clear hw4 HS3 HA3 hq4 r0 r1 r2 HB3
              go_wp2_with fail
              have hcap := HCAP.out.1
              have j0 : la.length ≤ capl := by omega
              have j10 : la.length + 1 ≤ capl := by omega
              have j12 : la.length + 1 ≤ N := by omega
              have j2 : (la.length : Int) + 1 ≤ (capl : Int) := by omega
              have j3 : ((la.length : Int) + 1).toNat = la.length + 1 := by omega
              have j4 : (0 : Int) ≤ (la.length : Int) + 1 ∧ (la.length : Int) + 1 ≤ (N : Int) := by omega
              have j5 : (la.length : Int) ≤ (capl : Int) := by omega
              have HE : Hid ((w4.drew.alloc (.cells #[] 48)).ownsRow w4.heap.size 48 3 (.slice (some ⟨w4.heap.size, 0, none⟩) 0 0) 0 []) :=
                ⟨rfl, .inr ⟨w4.heap.size, 0, #[], rfl, Nat.le_refl _, heap_alloc_new w4.drew _, Nat.le_refl _, by decide, rfl, rfl⟩⟩
              have HBE := Lib.hid ((Below.refl w4.heap.size w4).drew.alloc (Nat.le_refl w4.heap.size) (.cells #[] 48))
              have HROW4 : Hid (w4.ownsRow (p + 1) 48 3 (.slice (some ⟨gl, 0, none⟩) N capl) N (flat L)) := (by have h := HZ.out.row; rw [HN.out] at h; exact h : w4.ownsRow (p + 1) 48 3 (.slice (some ⟨gl, 0, none⟩) N capl) N (flat L))
              have jw : IntKind.i64.wrap ((la.length : Int) + 1) = (la.length : Int) + 1 := by rw [IntKind.wrap_i64]; omega
              obtain ⟨AD, hAD, hNW⟩ : ∃ AD : Addr, (if capl = la.length + 1 then some (⟨gl, 0, none⟩ : Addr) else some ⟨gl, (la.length + 1) * 3, none⟩) = some AD ∧ ∀ wz : World, Below w4.heap.size w4 wz → ∀ j u, (flat lb)[j]? = some u → wz.cell? (AD.add j) = some u := by
                by_cases hce : capl = la.length + 1
                · refine ⟨⟨gl, 0, none⟩, if_pos hce, fun wz hb j u hu => ?_⟩
                  have h1 := (List.getElem?_eq_some_iff.1 hu).1
                  have h2 := HLL.out
                  rw [flat_length] at h1
                  omega
                · refine ⟨⟨gl, (la.length + 1) * 3, none⟩, if_neg hce, fun wz hb j u hu => ?_⟩
                  have h1 := (List.getElem?_eq_some_iff.1 hu).1
                  have h2 := HLL.out
                  rw [flat_length] at h1
                  have h3 := (own_below HROW4.out hb).cellAt ((la.length + 1) * 3 + j) (by omega)
                  rw [Addr.add_lit, h3, ← HLQ.out]
                  rw [show flat (la ++ (⟨xf, xt, xw⟩ : LT) :: lb) = (flat la ++ flat [⟨xf, xt, xw⟩]) ++ flat lb by simp [flat]]
                  rw [List.getElem?_append_right (by rw [List.length_append, flat_length, flat_length]; simp; omega), List.length_append, flat_length, flat_length]
                  rw [show (la.length + 1) * 3 + j - (la.length * 3 + [(⟨xf, xt, xw⟩ : LT)].length * 3) = j by simp; omega]
                  exact hu
              have HNW := Lib.hid hNW
              clear hNW
              have HN1 : Hid (∀ j u, (flat la)[j]? = some u → (w4.drew.alloc (.cells #[] 48)).cell? ((⟨gl, 0, none⟩ : Addr).add j) = some u) := fun j u hu => by
                have h1 := (List.getElem?_eq_some_iff.1 hu).1
                rw [flat_length] at h1
                have h3 := (own_below HROW4.out HBE.out).cellAt j (by omega)
                rw [Addr.add_lit, Nat.zero_add, h3, ← HLQ.out]
                rw [show flat (la ++ (⟨xf, xt, xw⟩ : LT) :: lb) = flat la ++ (flat [⟨xf, xt, xw⟩] ++ flat lb) by simp [flat]]
                rw [List.getElem?_append_left (by rw [flat_length]; exact h1)]
                exact hu
              refine region_plain hmx ?_
              refine wpAny_take (i := 1) (v := ?_) rfl (by kernel_rfl) (by kernel_rfl) (by kernel_rfl) (fun _ _ _ h => h) (Or.inl ⟨by rfl, ?_⟩) ?_
              rotate_left
              · intro w; go_simp; with_reducible rfl
              try simp only [Act.put, List.getElem_toArray, List.getElem_cons_succ, List.getElem_cons_zero, List.setIfInBounds_toArray, List.set_cons_zero, List.set_cons_succ]
              refine wpAny_take (i := 2) (v := ?_) rfl (by kernel_rfl) (by kernel_rfl) (by kernel_rfl) (fun _ _ _ h => h) (Or.inl ⟨by rfl, ?_⟩) ?_
              rotate_left
              · intro w; go_simp; with_reducible rfl
              try simp only [Act.put, List.getElem_toArray, List.getElem_cons_succ, List.getElem_cons_zero, List.setIfInBounds_toArray, List.set_cons_zero, List.set_cons_succ]
              refine wpAny_take (i := 3) (v := ?_) rfl (by kernel_rfl) (by kernel_rfl) (by kernel_rfl) (fun _ _ _ h => h) (Or.inl ⟨by rfl, ?_⟩) ?_
              rotate_left
              · intro w; go_simp; with_reducible rfl
              try simp only [Act.put, List.getElem_toArray, List.getElem_cons_succ, List.getElem_cons_zero, List.setIfInBounds_toArray, List.set_cons_zero, List.set_cons_succ]
              refine wpAny_take (i := 5) (v := ?_) rfl (by kernel_rfl) (by kernel_rfl) (by kernel_rfl) (fun _ _ _ h => h) (Or.inl ⟨by rfl, ?_⟩) ?_
              rotate_left
              · intro w; go_simp; with_reducible rfl
              try simp only [Act.put, List.getElem_toArray, List.getElem_cons_succ, List.getElem_cons_zero, List.setIfInBounds_toArray, List.set_cons_zero, List.set_cons_succ]
              refine wpAny_take (i := 6) (v := ?_) rfl (by kernel_rfl) (by kernel_rfl) (by kernel_rfl) (fun _ _ _ h => h) (Or.inl ⟨by rfl, ?_⟩) ?_
              rotate_left
              · intro w; go_simp; with_reducible rfl
              try simp only [Act.put, List.getElem_toArray, List.getElem_cons_succ, List.getElem_cons_zero, List.setIfInBounds_toArray, List.set_cons_zero, List.set_cons_succ]
              refine wpAny_take (i := 7) (v := ?_) rfl (by kernel_rfl) (by kernel_rfl) (by kernel_rfl) (fun _ _ _ h => h) (Or.inl ⟨by rfl, ?_⟩) ?_
              rotate_left
              · intro w; go_simp; with_reducible rfl
              try simp only [Act.put, List.getElem_toArray, List.getElem_cons_succ, List.getElem_cons_zero, List.setIfInBounds_toArray, List.set_cons_zero, List.set_cons_succ]
              refine wpAny_take (i := 8) (v := ?_) rfl (by kernel_rfl) (by kernel_rfl) (by kernel_rfl) (fun _ _ _ h => h) (Or.inl ⟨by rfl, ?_⟩) ?_
              rotate_left
              · intro w; go_simp; with_reducible rfl
              try simp only [Act.put, List.getElem_toArray, List.getElem_cons_succ, List.getElem_cons_zero, List.setIfInBounds_toArray, List.set_cons_zero, List.set_cons_succ]
              refine wpAny_ready (rs := [0]) (by kernel_rfl) (by simp) (AllReady.cons rfl (fun K hK => ?_) AllReady.nil)
              go_simp
              refine hK _ _ ?_
              clear hK K
              try simp only [Act.put, List.getElem_toArray, List.getElem_cons_succ, List.getElem_cons_zero, List.setIfInBounds_toArray, List.set_cons_zero, List.set_cons_succ]
              refine wpAny_ready (rs := [4]) (by kernel_rfl) (by simp) (AllReady.cons rfl (fun K hK => ?_) AllReady.nil)
              refine step_append_own_at rfl (.tmp 118) (.tmp 121) 46 rfl w4.heap.size 48 i0 _ 3 32 Try.underlying46 hi hzz.1 hzz.2.1 hzz.2.2 rfl (by omega) _ 0 [] rfl HE.out _ la.length _ (flat la) rfl (flat_length la) HN1.out (flat_one la) (by unfold maxLen; omega) (by omega) (by simp) ?_
              intro v5 w5 hown5 hg5
              have HB5 := Lib.hid (HBE.out.grown hg5 (by simp) (fun k hk => Nat.le_of_eq (Option.some.inj hk)))
              refine hK _ _ ?_
              clear hK K
              try simp only [Act.put, List.getElem_toArray, List.getElem_cons_succ, List.getElem_cons_zero, List.setIfInBounds_toArray, List.set_cons_zero, List.set_cons_succ]
              refine wpAny_ready (rs := [9]) (by kernel_rfl) (by simp) (AllReady.cons rfl (fun K hK => ?_) AllReady.nil)
              refine step_append_own_at rfl (.tmp 122) (.tmp 126) 46 rfl w4.heap.size 48 i0 _ 3 32 Try.underlying46 hi hzz.1 hzz.2.1 hzz.2.2 rfl (by omega) _ _ _ rfl hown5 _ _ _ (flat lb) rfl (by rw [flat_length]; have := HLL.out; omega) (HNW.out _ HB5.out) (flat_one lb) (by unfold maxLen; omega) (by omega) HB5.out.size ?_
              intro v6 w6 hown6 hg6
              have HB6 := Lib.hid (HB5.out.grown hg6 HB5.out.size (fun k hk => (hown5.lt k hk).1))
              have hown7 : w6.ownsRow w4.heap.size 48 3 v6 (la.length + lb.length) (flat (la ++ lb)) := by
                have h1 := HLL.out
                have h2 := hown6
                rw [show 0 + la.length + (N - (la.length + 1)) = la.length + lb.length by omega] at h2
                rw [flat_append]; exact h2
              clear hown6 hg6 hown5 hg5
              obtain ⟨ao6, cap6, rfl⟩ := own_forms hown7
              have HO7 := Lib.hid hown7
              clear hown7
              refine hK _ _ ?_
              clear hK K
              try simp only [Act.put, List.getElem_toArray, List.getElem_cons_succ, List.getElem_cons_zero, List.setIfInBounds_toArray, List.set_cons_zero, List.set_cons_succ]
              refine wpAny_take (i := 10) (v := ?_) rfl (by kernel_rfl) (by kernel_rfl) (by kernel_rfl) (fun _ _ _ h => h) (Or.inl ⟨by rfl, ?_⟩) ?_
              rotate_left
              · intro w; go_simp; with_reducible rfl
              try simp only [Act.put, List.getElem_toArray, List.getElem_cons_succ, List.getElem_cons_zero, List.setIfInBounds_toArray, List.set_cons_zero, List.set_cons_succ]
              refine wpAny_done (by kernel_rfl) ?_ _
              have HZ2 : Hid (SP w w6 p (la ++ lb) (la ++ lb) (.slice ao6 (la.length + lb.length) cap6)) := HZ.out.newrow HB6.out (by rw [List.length_append]; exact HO7.out)
              have HZA2 : Hid (ActAt w6 wr.heap.size ⟨2, xI, xTo, xW⟩) := below_blk HB6.out HZA.out
              clear HZ HZA HB5 HB6 HO7 HE HBE HROW4 HNW HN1 hAD
              have HZ := HZ2
              have HZA := HZA2
              clear HZ2 HZA2
              have hN := HN.out
              go_wp2_with fail
              refine (len_any _ p _ _ HZ.out.post).mono ?_
              rintro e wq ⟨rfl, rfl⟩
              have b8 := (ActAt.cell HZA.out).2.2.1
              simp only at b8
              have HB8 := Lib.hid b8
              go_wp2_with fail
              refine (to_any p xTo _).mono ?_
              rintro e w8 ⟨rfl, t1, t2, hB8⟩
              skip
              have HZ8 := Lib.hid (HZ.out.below hB8)
              have HT8 := Lib.hid (⟨t1, t2, (by rw [hB8.cell (cell_block HB8.out)]; exact HB8.out : w8.cell? ⟨wr.heap.size, 2, none⟩ = some (.int .i64 xTo))⟩ : _ ∧ _ ∧ _)
              clear t1 t2 hB8 b8
              go_wp2_with fail
              refine (goes_to 100 (by decide) (by decide) _ (p + 1) (p + 1) _ xTo _ _ wr.heap.size p _ HZ8.out.small HZ8.out.row HT8.out.1 HT8.out.2.1 HZ8.out.post HT8.out.2.2).mono ?_
              rintro e w9 ⟨rfl, hB9⟩
              have HZ9 := Lib.hid (HZ8.out.below hB9)
              clear hB9 HZ8 HT8 HB8
              go_wp2
              exact ⟨⟨i + 1, _, by omega, by go_num, HZ9.out⟩, by simp [intOf]; omega⟩
          by_cases k3 : xK = 3
          · subst k3
            clear k1 k2
            as_aux_lemma =>
              by_cases hl : N < 64
              · have HL := Lib.hid hl
                have hl2 : (N : Int) < 64 := by omega
                clear hl
                obtain ⟨xf, xt, xw⟩ := lx
                go_wp2_with fail
                refine (twice_room xI _ p la lb ⟨xf, xt, xw⟩ _ (by rw [HLQ.out]; exact HS.out.post) (by rw [HLQ.out, HN.out]; exact HK.out) (by rw [HLQ.out, HN.out]; exact HL.out)).mono ?_
                rintro e w3 ⟨rfl, hp3, ht3⟩
                rw [HLQ.out] at hp3
                have HZ := Lib.hid (HS.out.touch ht3 hp3 (by have h1 : L.length < 64 := (by rw [HN.out]; exact HL.out); simp only [List.length_append, List.length_singleton]; omega))
                have HZA : Hid (ActAt w3 wr.heap.size ⟨3, xI, xTo, xW⟩) := ht3.blk HAct.out (by omega)
                have hrow := HZ.out.row
                rw [HN.out] at hrow
                obtain ⟨gl, capl', el, _⟩ := hrow.form (by omega)
                simp only [Value.slice.injEq, true_and] at el
                obtain ⟨rfl, rfl⟩ := el
                have hcap := (own_cap hrow).1
                have HROW3 := Lib.hid hrow
                have KS : Hid (∀ wz : World, Below w3.heap.size w3 wz → wz.cell? ⟨gl, la.length * 3, none⟩ = some (.int .i64 xf) ∧ wz.cell? ⟨gl, la.length * 3 + 1, none⟩ = some (.int .i64 xt) ∧ wz.cell? ⟨gl, la.length * 3 + 2, none⟩ = some (.string xw)) := fun wz hb => row_cells (own_below HROW3.out hb) (show L[la.length]? = some ⟨xf, xt, xw⟩ by rw [← HLQ.out]; simp)
                have NEWS : Hid (∀ wz : World, Below w3.heap.size w3 wz → ∀ j u, (flat L)[j]? = some u → wz.cell? ((⟨gl, 0, none⟩ : Addr).add j) = some u) := fun wz hb j u hu => by
                  have h1 := (List.getElem?_eq_some_iff.1 hu).1
                  rw [flat_length, HN.out] at h1
                  rw [Addr.add_lit, Nat.zero_add, (own_below HROW3.out hb).cellAt j (by omega)]
                  exact hu
                clear hp3 ht3 a0 a1 a2 a3 hrow
                go_wp2_with fail
                refine region_plain hmx ?_
                refine wpAny_take (i := 1) (v := ?_) rfl (by kernel_rfl) (by kernel_rfl) (by kernel_rfl) (fun _ _ _ h => h) (Or.inl ⟨by rfl, ?_⟩) ?_
                rotate_left
                · intro w; go_simp; with_reducible rfl
                try simp only [Act.put, List.getElem_toArray, List.getElem_cons_succ, List.getElem_cons_zero, List.setIfInBounds_toArray, List.set_cons_zero, List.set_cons_succ]
                refine wpAny_take (i := 3) (v := ?_) rfl (by kernel_rfl) (by kernel_rfl) (by kernel_rfl) (fun _ _ _ h => h) (Or.inl ⟨by rfl, ?_⟩) ?_
                rotate_left
                · intro w; go_simp; with_reducible rfl
                try simp only [Act.put, List.getElem_toArray, List.getElem_cons_succ, List.getElem_cons_zero, List.setIfInBounds_toArray, List.set_cons_zero, List.set_cons_succ]
                refine wpAny_take (i := 4) (v := ?_) rfl (by kernel_rfl) (by kernel_rfl) (by kernel_rfl) (fun _ _ _ h => h) (Or.inl ⟨by rfl, ?_⟩) ?_
                rotate_left
                · intro w; go_simp; with_reducible rfl
                try simp only [Act.put, List.getElem_toArray, List.getElem_cons_succ, List.getElem_cons_zero, List.setIfInBounds_toArray, List.set_cons_zero, List.set_cons_succ]
                refine wpAny_take (i := 5) (v := ?_) rfl (by kernel_rfl) (by kernel_rfl) (by kernel_rfl) (fun _ _ _ h => h) (Or.inl ⟨by rfl, ?_⟩) ?_
                rotate_left
                · intro w; go_simp; with_reducible rfl
                try simp only [Act.put, List.getElem_toArray, List.getElem_cons_succ, List.getElem_cons_zero, List.setIfInBounds_toArray, List.set_cons_zero, List.set_cons_succ]
                have hHeld := KS.out w3.drew (Below.refl w3.heap.size w3).drew
                refine wpAny_of_held (S := fun wz : World => wz.cell? ⟨gl, la.length * 3, none⟩ = some (.int .i64 xf) ∧ wz.cell? ⟨gl, la.length * 3 + 1, none⟩ = some (.int .i64 xt) ∧ wz.cell? ⟨gl, la.length * 3 + 2, none⟩ = some (.string xw)) _ _ _ _ ?_
                refine wpAnyH_take (i := 6) (v := ?_) rfl (by kernel_rfl) (by kernel_rfl) (by kernel_rfl) (fun _ _ _ h => h) (Or.inl ⟨by rfl, ?_⟩) hHeld ?_
                rotate_left
                · intro w hSw; (try dsimp only at hSw); go_simp; with_reducible rfl
                try simp only [Act.put, List.getElem_toArray, List.getElem_cons_succ, List.getElem_cons_zero, List.setIfInBounds_toArray, List.set_cons_zero, List.set_cons_succ]
                refine wpAnyH_ready (rs := [0, 7]) (by kernel_rfl) (by simp) (AllReadyH.cons rfl (fun K hK => ?_) (AllReadyH.cons rfl (fun K hK => ?_) AllReadyH.nil))
                · have HE : Hid ((w3.drew.alloc (.cells #[] 48)).ownsRow w3.heap.size 48 3 (.slice (some ⟨w3.heap.size, 0, none⟩) 0 0) 0 []) :=
                    ⟨rfl, .inr ⟨w3.heap.size, 0, #[], rfl, Nat.le_refl _, heap_alloc_new w3.drew _, Nat.le_refl _, by decide, rfl, rfl⟩⟩
                  have HBE := Lib.hid ((Below.refl w3.heap.size w3).drew.alloc (Nat.le_refl w3.heap.size) (.cells #[] 48))
                  go_simp
                  refine hK.out _ _ (KS.out _ HBE.out) (fun hHeld => ?_)
                  clear hK K
                  try simp only [Act.put, List.getElem_toArray, List.getElem_cons_succ, List.getElem_cons_zero, List.setIfInBounds_toArray, List.set_cons_zero, List.set_cons_succ]
                  refine wpAnyH_ready (rs := [2, 7]) (by kernel_rfl) (by simp) (AllReadyH.cons rfl (fun K hK => ?_) (AllReadyH.cons rfl (fun K hK => ?_) AllReadyH.nil))
                  · refine step_append_own_at rfl (.tmp 156) (.tmp 157) 46 rfl w3.heap.size 48 i0 _ 3 32 Try.underlying46 hi hzz.1 hzz.2.1 hzz.2.2 rfl (by omega) _ 0 [] rfl HE.out _ N _ (flat L) rfl (by rw [flat_length, HN.out]) (NEWS.out _ HBE.out) (flat_one L) (by unfold maxLen; omega) (by omega) HBE.out.size ?_
                    intro v5 w5 hown5 hg5
                    have HB5 := Lib.hid (HBE.out.grown hg5 HBE.out.size (fun k hk => (HE.out.lt k hk).1))
                    have HO5 := Lib.hid hown5
                    refine hK.out _ _ (KS.out _ HB5.out) (fun hHeld => ?_)
                    clear hK K
                    try simp only [Act.put, List.getElem_toArray, List.getElem_cons_succ, List.getElem_cons_zero, List.setIfInBounds_toArray, List.set_cons_zero, List.set_cons_succ]
                    refine wpAnyH_ready (rs := [7]) (by kernel_rfl) (by simp) (AllReadyH.cons rfl (fun K hK => ?_) AllReadyH.nil)
                    go_simp
                    have HBX := Lib.hid (HB5.out.alloc HB5.out.size (.cells #[.int .i64 xf, .int .i64 xt, .string xw] 48))
                    refine hK.out _ _ (KS.out _ HBX.out) (fun hHeld => ?_)
                    clear hK K
                    try simp only [Act.put, List.getElem_toArray, List.getElem_cons_succ, List.getElem_cons_zero, List.setIfInBounds_toArray, List.set_cons_zero, List.set_cons_succ]
                    have HOWN := Lib.hid (own_below HO5.out ((Below.refl w5.heap.size w5).alloc (Nat.le_refl _) (.cells #[.int .i64 xf, .int .i64 xt, .string xw] 48)))
                    have HNX := Lib.hid (World.news_of_block (heap_alloc_new w5 (.cells #[.int .i64 xf, .int .i64 xt, .string xw] 48)))
                    clear HB5 HO5 HBE hg5 hown5
                    refine wpAnyH_ready (rs := [8]) (by kernel_rfl) (by simp) (AllReadyH.cons rfl (fun K hK => ?_) AllReadyH.nil)
                    refine step_append_own_at rfl (.tmp 158) (.tmp 163) 46 rfl w3.heap.size 48 i0 _ 3 32 Try.underlying46 hi hzz.1 hzz.2.1 hzz.2.2 rfl (by omega) _ _ _ rfl HOWN.out _ 1 _ (flat [⟨xf, xt, xw⟩]) rfl rfl HNX.out (flat_one _) (by unfold maxLen; omega) (by omega) HBX.out.size ?_
                    intro v6 w6 hown6 hg6
                    have HB6 := Lib.hid (HBX.out.grown hg6 HBX.out.size (fun k hk => (HOWN.out.lt k hk).1))
                    have hown7 : w6.ownsRow w3.heap.size 48 3 v6 (N + 1) (flat (L ++ [⟨xf, xt, xw⟩])) := by
                      have h2 := hown6
                      rw [show 0 + N + 1 = N + 1 by omega] at h2
                      rw [flat_append]; exact h2
                    clear hown6 hg6
                    obtain ⟨ao6, cap6, rfl⟩ := own_forms hown7
                    have HO7 := Lib.hid hown7
                    clear hown7
                    refine hK.out _ _ (KS.out _ HB6.out) (fun hHeld => ?_)
                    clear hK K
                    try simp only [Act.put, List.getElem_toArray, List.getElem_cons_succ, List.getElem_cons_zero, List.setIfInBounds_toArray, List.set_cons_zero, List.set_cons_succ]
                    refine wpAnyH_take (i := 9) (v := ?_) rfl (by kernel_rfl) (by kernel_rfl) (by kernel_rfl) (fun _ _ _ h => h) (Or.inl ⟨by rfl, ?_⟩) hHeld ?_
                    rotate_left
                    · intro w hSw; (try dsimp only at hSw); go_simp; with_reducible rfl
                    try simp only [Act.put, List.getElem_toArray, List.getElem_cons_succ, List.getElem_cons_zero, List.setIfInBounds_toArray, List.set_cons_zero, List.set_cons_succ]
                    refine wpAnyH_done (by kernel_rfl) ?_ _
                    have HZ2 : Hid (SP w w6 p (L ++ [⟨xf, xt, xw⟩]) (L ++ [⟨xf, xt, xw⟩]) (.slice ao6 (N + 1) cap6)) := HZ.out.newrow HB6.out (by rw [List.length_append, HN.out]; exact HO7.out)
                    have HZA2 : Hid (ActAt w6 wr.heap.size ⟨3, xI, xTo, xW⟩) := below_blk HB6.out HZA.out
                    clear hHeld
                    clear HZ HZA HB6 HO7 HE HROW3 KS NEWS HOWN HNX HBX
                    have HZ := HZ2
                    have HZA := HZA2
                    clear HZ2 HZA2
                    have hN := HN.out
                    go_wp2_with fail
                    refine (len_any _ p _ _ HZ.out.post).mono ?_
                    rintro e wq ⟨rfl, rfl⟩
                    have b8 := (ActAt.cell HZA.out).2.2.1
                    simp only at b8
                    have HB8 := Lib.hid b8
                    go_wp2_with fail
                    refine (to_any p xTo _).mono ?_
                    rintro e w8 ⟨rfl, t1, t2, hB8⟩
                    skip
                    have HZ8 := Lib.hid (HZ.out.below hB8)
                    have HT8 := Lib.hid (⟨t1, t2, (by rw [hB8.cell (cell_block HB8.out)]; exact HB8.out : w8.cell? ⟨wr.heap.size, 2, none⟩ = some (.int .i64 xTo))⟩ : _ ∧ _ ∧ _)
                    clear t1 t2 hB8 b8
                    go_wp2_with fail
                    refine (goes_to 100 (by decide) (by decide) _ (p + 1) (p + 1) _ xTo _ _ wr.heap.size p _ HZ8.out.small HZ8.out.row HT8.out.1 HT8.out.2.1 HZ8.out.post HT8.out.2.2).mono ?_
                    rintro e w9 ⟨rfl, hB9⟩
                    have HZ9 := Lib.hid (HZ8.out.below hB9)
                    clear hB9 HZ8 HT8 HB8
                    go_wp2
                    exact ⟨⟨i + 1, _, by omega, by go_num, HZ9.out⟩, by simp [intOf]; omega⟩
                  · have HBX0 := Lib.hid (HBE.out.alloc HBE.out.size (.cells #[.int .i64 xf, .int .i64 xt, .string xw] 48))
                    have HNX0 := Lib.hid (heap_alloc_new (w3.drew.alloc (.cells #[] 48)) (.cells #[.int .i64 xf, .int .i64 xt, .string xw] 48))
                    rw [show (w3.drew.alloc (.cells #[] 48)).heap.size = w3.heap.size + 1 by simp] at HNX0
                    have HE2 := Lib.hid (own_below HE.out ((Below.refl (w3.drew.alloc (.cells #[] 48)).heap.size (w3.drew.alloc (.cells #[] 48))).alloc (Nat.le_refl _) (.cells #[.int .i64 xf, .int .i64 xt, .string xw] 48)))
                    go_simp
                    refine hK.out _ _ (KS.out _ HBX0.out) (fun hHeld => ?_)
                    clear hK K
                    try simp only [Act.put, List.getElem_toArray, List.getElem_cons_succ, List.getElem_cons_zero, List.setIfInBounds_toArray, List.set_cons_zero, List.set_cons_succ]
                    refine wpAnyH_ready (rs := [2]) (by kernel_rfl) (by simp) (AllReadyH.cons rfl (fun K hK => ?_) AllReadyH.nil)
                    refine step_append_own_at rfl (.tmp 156) (.tmp 157) 46 rfl w3.heap.size 48 i0 _ 3 32 Try.underlying46 hi hzz.1 hzz.2.1 hzz.2.2 rfl (by omega) _ 0 [] rfl HE2.out _ N _ (flat L) rfl (by rw [flat_length, HN.out]) (NEWS.out _ HBX0.out) (flat_one L) (by unfold maxLen; omega) (by omega) HBX0.out.size ?_
                    intro v5 w5 hown5 hg5
                    have HB5 := Lib.hid (HBX0.out.grown hg5 HBX0.out.size (fun k hk => (HE2.out.lt k hk).1))
                    have HO5 := Lib.hid hown5
                    refine hK.out _ _ (KS.out _ HB5.out) (fun hHeld => ?_)
                    clear hK K
                    try simp only [Act.put, List.getElem_toArray, List.getElem_cons_succ, List.getElem_cons_zero, List.setIfInBounds_toArray, List.set_cons_zero, List.set_cons_succ]
                    have HOWN := Lib.hid HO5.out
                    have HBX := Lib.hid HB5.out
                    have HNX := Lib.hid (World.news_of_block ((hg5.block (w3.heap.size + 1) (by simp) (fun e => by have h : w3.heap.size + 1 = w3.heap.size := Option.some.inj e; omega)).trans HNX0.out))
                    clear HB5 HO5 HBE HBX0 HNX0 HE2 hg5 hown5
                    refine wpAnyH_ready (rs := [8]) (by kernel_rfl) (by simp) (AllReadyH.cons rfl (fun K hK => ?_) AllReadyH.nil)
                    refine step_append_own_at rfl (.tmp 158) (.tmp 163) 46 rfl w3.heap.size 48 i0 _ 3 32 Try.underlying46 hi hzz.1 hzz.2.1 hzz.2.2 rfl (by omega) _ _ _ rfl HOWN.out _ 1 _ (flat [⟨xf, xt, xw⟩]) rfl rfl HNX.out (flat_one _) (by unfold maxLen; omega) (by omega) HBX.out.size ?_
                    intro v6 w6 hown6 hg6
                    have HB6 := Lib.hid (HBX.out.grown hg6 HBX.out.size (fun k hk => (HOWN.out.lt k hk).1))
                    have hown7 : w6.ownsRow w3.heap.size 48 3 v6 (N + 1) (flat (L ++ [⟨xf, xt, xw⟩])) := by
                      have h2 := hown6
                      rw [show 0 + N + 1 = N + 1 by omega] at h2
                      rw [flat_append]; exact h2
                    clear hown6 hg6
                    obtain ⟨ao6, cap6, rfl⟩ := own_forms hown7
                    have HO7 := Lib.hid hown7
                    clear hown7
                    refine hK.out _ _ (KS.out _ HB6.out) (fun hHeld => ?_)
                    clear hK K
                    try simp only [Act.put, List.getElem_toArray, List.getElem_cons_succ, List.getElem_cons_zero, List.setIfInBounds_toArray, List.set_cons_zero, List.set_cons_succ]
                    refine wpAnyH_take (i := 9) (v := ?_) rfl (by kernel_rfl) (by kernel_rfl) (by kernel_rfl) (fun _ _ _ h => h) (Or.inl ⟨by rfl, ?_⟩) hHeld ?_
                    rotate_left
                    · intro w hSw; (try dsimp only at hSw); go_simp; with_reducible rfl
                    try simp only [Act.put, List.getElem_toArray, List.getElem_cons_succ, List.getElem_cons_zero, List.setIfInBounds_toArray, List.set_cons_zero, List.set_cons_succ]
                    refine wpAnyH_done (by kernel_rfl) ?_ _
                    have HZ2 : Hid (SP w w6 p (L ++ [⟨xf, xt, xw⟩]) (L ++ [⟨xf, xt, xw⟩]) (.slice ao6 (N + 1) cap6)) := HZ.out.newrow HB6.out (by rw [List.length_append, HN.out]; exact HO7.out)
                    have HZA2 : Hid (ActAt w6 wr.heap.size ⟨3, xI, xTo, xW⟩) := below_blk HB6.out HZA.out
                    clear hHeld
                    clear HZ HZA HB6 HO7 HE HROW3 KS NEWS HOWN HNX HBX
                    have HZ := HZ2
                    have HZA := HZA2
                    clear HZ2 HZA2
                    have hN := HN.out
                    go_wp2_with fail
                    refine (len_any _ p _ _ HZ.out.post).mono ?_
                    rintro e wq ⟨rfl, rfl⟩
                    have b8 := (ActAt.cell HZA.out).2.2.1
                    simp only at b8
                    have HB8 := Lib.hid b8
                    go_wp2_with fail
                    refine (to_any p xTo _).mono ?_
                    rintro e w8 ⟨rfl, t1, t2, hB8⟩
                    skip
                    have HZ8 := Lib.hid (HZ.out.below hB8)
                    have HT8 := Lib.hid (⟨t1, t2, (by rw [hB8.cell (cell_block HB8.out)]; exact HB8.out : w8.cell? ⟨wr.heap.size, 2, none⟩ = some (.int .i64 xTo))⟩ : _ ∧ _ ∧ _)
                    clear t1 t2 hB8 b8
                    go_wp2_with fail
                    refine (goes_to 100 (by decide) (by decide) _ (p + 1) (p + 1) _ xTo _ _ wr.heap.size p _ HZ8.out.small HZ8.out.row HT8.out.1 HT8.out.2.1 HZ8.out.post HT8.out.2.2).mono ?_
                    rintro e w9 ⟨rfl, hB9⟩
                    have HZ9 := Lib.hid (HZ8.out.below hB9)
                    clear hB9 HZ8 HT8 HB8
                    go_wp2
                    exact ⟨⟨i + 1, _, by omega, by go_num, HZ9.out⟩, by simp [intOf]; omega⟩
                · have HBX0 := Lib.hid ((Below.refl w3.heap.size w3).drew.alloc (Nat.le_refl w3.heap.size) (.cells #[.int .i64 xf, .int .i64 xt, .string xw] 48))
                  have HNX0 := Lib.hid (heap_alloc_new w3.drew (.cells #[.int .i64 xf, .int .i64 xt, .string xw] 48))
                  go_simp
                  refine hK.out _ _ (KS.out _ HBX0.out) (fun hHeld => ?_)
                  clear hK K
                  try simp only [Act.put, List.getElem_toArray, List.getElem_cons_succ, List.getElem_cons_zero, List.setIfInBounds_toArray, List.set_cons_zero, List.set_cons_succ]
                  refine wpAnyH_ready (rs := [0]) (by kernel_rfl) (by simp) (AllReadyH.cons rfl (fun K hK => ?_) AllReadyH.nil)
                  go_simp
                  have HBE := Lib.hid (HBX0.out.alloc HBX0.out.size (.cells #[] 48))
                  have HE : Hid (((w3.drew.alloc (.cells #[.int .i64 xf, .int .i64 xt, .string xw] 48)).alloc (.cells #[] 48)).ownsRow w3.heap.size 48 3 (.slice (some ⟨w3.heap.size + 1, 0, none⟩) 0 0) 0 []) := by
                    have h := heap_alloc_new (w3.drew.alloc (.cells #[.int .i64 xf, .int .i64 xt, .string xw] 48)) (.cells #[] 48)
                    rw [show (w3.drew.alloc (.cells #[.int .i64 xf, .int .i64 xt, .string xw] 48)).heap.size = w3.heap.size + 1 by simp] at h
                    exact ⟨rfl, .inr ⟨w3.heap.size + 1, 0, #[], rfl, by omega, h, Nat.le_refl _, by decide, rfl, rfl⟩⟩
                  refine hK.out _ _ (KS.out _ HBE.out) (fun hHeld => ?_)
                  clear hK K
                  try simp only [Act.put, List.getElem_toArray, List.getElem_cons_succ, List.getElem_cons_zero, List.setIfInBounds_toArray, List.set_cons_zero, List.set_cons_succ]
                  refine wpAnyH_ready (rs := [2]) (by kernel_rfl) (by simp) (AllReadyH.cons rfl (fun K hK => ?_) AllReadyH.nil)
                  refine step_append_own_at rfl (.tmp 156) (.tmp 157) 46 rfl w3.heap.size 48 i0 _ 3 32 Try.underlying46 hi hzz.1 hzz.2.1 hzz.2.2 rfl (by omega) _ 0 [] rfl HE.out _ N _ (flat L) rfl (by rw [flat_length, HN.out]) (NEWS.out _ HBE.out) (flat_one L) (by unfold maxLen; omega) (by omega) HBE.out.size ?_
                  intro v5 w5 hown5 hg5
                  have HB5 := Lib.hid (HBE.out.grown hg5 HBE.out.size (fun k hk => (HE.out.lt k hk).1))
                  have HO5 := Lib.hid hown5
                  refine hK.out _ _ (KS.out _ HB5.out) (fun hHeld => ?_)
                  clear hK K
                  try simp only [Act.put, List.getElem_toArray, List.getElem_cons_succ, List.getElem_cons_zero, List.setIfInBounds_toArray, List.set_cons_zero, List.set_cons_succ]
                  have HOWN := Lib.hid HO5.out
                  have HBX := Lib.hid HB5.out
                  have HNX := Lib.hid (World.news_of_block ((hg5.block w3.heap.size (by simp; omega) (fun e => by have h : w3.heap.size = w3.heap.size + 1 := Option.some.inj e; omega)).trans (below_blk ((Below.refl _ _).alloc (Nat.le_refl _) (.cells #[] 48)) HNX0.out)))
                  clear HB5 HO5 HBE HBX0 HNX0 hg5 hown5
                  refine wpAnyH_ready (rs := [8]) (by kernel_rfl) (by simp) (AllReadyH.cons rfl (fun K hK => ?_) AllReadyH.nil)
                  refine step_append_own_at rfl (.tmp 158) (.tmp 163) 46 rfl w3.heap.size 48 i0 _ 3 32 Try.underlying46 hi hzz.1 hzz.2.1 hzz.2.2 rfl (by omega) _ _ _ rfl HOWN.out _ 1 _ (flat [⟨xf, xt, xw⟩]) rfl rfl HNX.out (flat_one _) (by unfold maxLen; omega) (by omega) HBX.out.size ?_
                  intro v6 w6 hown6 hg6
                  have HB6 := Lib.hid (HBX.out.grown hg6 HBX.out.size (fun k hk => (HOWN.out.lt k hk).1))
                  have hown7 : w6.ownsRow w3.heap.size 48 3 v6 (N + 1) (flat (L ++ [⟨xf, xt, xw⟩])) := by
                    have h2 := hown6
                    rw [show 0 + N + 1 = N + 1 by omega] at h2
                    rw [flat_append]; exact h2
                  clear hown6 hg6
                  obtain ⟨ao6, cap6, rfl⟩ := own_forms hown7
                  have HO7 := Lib.hid hown7
                  clear hown7
                  refine hK.out _ _ (KS.out _ HB6.out) (fun hHeld => ?_)
                  clear hK K
                  try simp only [Act.put, List.getElem_toArray, List.getElem_cons_succ, List.getElem_cons_zero, List.setIfInBounds_toArray, List.set_cons_zero, List.set_cons_succ]
                  refine wpAnyH_take (i := 9) (v := ?_) rfl (by kernel_rfl) (by kernel_rfl) (by kernel_rfl) (fun _ _ _ h => h) (Or.inl ⟨by rfl, ?_⟩) hHeld ?_
                  rotate_left
                  · intro w hSw; (try dsimp only at hSw); go_simp; with_reducible rfl
                  try simp only [Act.put, List.getElem_toArray, List.getElem_cons_succ, List.getElem_cons_zero, List.setIfInBounds_toArray, List.set_cons_zero, List.set_cons_succ]
                  refine wpAnyH_done (by kernel_rfl) ?_ _
                  have HZ2 : Hid (SP w w6 p (L ++ [⟨xf, xt, xw⟩]) (L ++ [⟨xf, xt, xw⟩]) (.slice ao6 (N + 1) cap6)) := HZ.out.newrow HB6.out (by rw [List.length_append, HN.out]; exact HO7.out)
                  have HZA2 : Hid (ActAt w6 wr.heap.size ⟨3, xI, xTo, xW⟩) := below_blk HB6.out HZA.out
                  clear hHeld
                  clear HZ HZA HB6 HO7 HE HROW3 KS NEWS HOWN HNX HBX
                  have HZ := HZ2
                  have HZA := HZA2
                  clear HZ2 HZA2
                  have hN := HN.out
                  go_wp2_with fail
                  refine (len_any _ p _ _ HZ.out.post).mono ?_
                  rintro e wq ⟨rfl, rfl⟩
                  have b8 := (ActAt.cell HZA.out).2.2.1
                  simp only at b8
                  have HB8 := Lib.hid b8
                  go_wp2_with fail
                  refine (to_any p xTo _).mono ?_
                  rintro e w8 ⟨rfl, t1, t2, hB8⟩
                  skip
                  have HZ8 := Lib.hid (HZ.out.below hB8)
                  have HT8 := Lib.hid (⟨t1, t2, (by rw [hB8.cell (cell_block HB8.out)]; exact HB8.out : w8.cell? ⟨wr.heap.size, 2, none⟩ = some (.int .i64 xTo))⟩ : _ ∧ _ ∧ _)
                  clear t1 t2 hB8 b8
                  go_wp2_with fail
                  refine (goes_to 100 (by decide) (by decide) _ (p + 1) (p + 1) _ xTo _ _ wr.heap.size p _ HZ8.out.small HZ8.out.row HT8.out.1 HT8.out.2.1 HZ8.out.post HT8.out.2.2).mono ?_
                  rintro e w9 ⟨rfl, hB9⟩
                  have HZ9 := Lib.hid (HZ8.out.below hB9)
                  clear hB9 HZ8 HT8 HB8
                  go_wp2
                  exact ⟨⟨i + 1, _, by omega, by go_num, HZ9.out⟩, by simp [intOf]; omega⟩
              · have HL : Hid (N = 64) := (by omega : N = 64)
                have hl2 : ¬ (N : Int) < 64 := by omega
                clear hl
                go_wp2_with fail
                refine (twice_full xI _ p la lb lx _ (by rw [HLQ.out]; exact HS.out.post) (by rw [HLQ.out, HN.out]; exact HK.out) (by rw [HLQ.out, HN.out]; exact HL.out)).mono ?_
                rintro e w3 ⟨rfl, hb3⟩
                have HZ := Lib.hid (HS.out.below hb3)
                have HZA : Hid (ActAt w3 wr.heap.size ⟨3, xI, xTo, xW⟩) := below_blk hb3 HAct.out
                clear hb3 a0 a1 a2 a3
                have hN := HN.out
                go_wp2_with fail
                refine (len_any _ p _ _ HZ.out.post).mono ?_
                rintro e wq ⟨rfl, rfl⟩
                have b8 := (ActAt.cell HZA.out).2.2.1
                simp only at b8
                have HB8 := Lib.hid b8
                go_wp2_with fail
                refine (to_any p xTo _).mono ?_
                rintro e w8 ⟨rfl, t1, t2, hB8⟩
                skip
                have HZ8 := Lib.hid (HZ.out.below hB8)
                have HT8 := Lib.hid (⟨t1, t2, (by rw [hB8.cell (cell_block HB8.out)]; exact HB8.out : w8.cell? ⟨wr.heap.size, 2, none⟩ = some (.int .i64 xTo))⟩ : _ ∧ _ ∧ _)
                clear t1 t2 hB8 b8
                go_wp2_with fail
                refine (goes_to 100 (by decide) (by decide) _ (p + 1) (p + 1) _ xTo _ _ wr.heap.size p _ HZ8.out.small HZ8.out.row HT8.out.1 HT8.out.2.1 HZ8.out.post HT8.out.2.2).mono ?_
                rintro e w9 ⟨rfl, hB9⟩
                have HZ9 := Lib.hid (HZ8.out.below hB9)
                clear hB9 HZ8 HT8 HB8
                go_wp2
                exact ⟨⟨i + 1, _, by omega, by go_num, HZ9.out⟩, by simp [intOf]; omega⟩
          by_cases k4 : xK = 4
          · subst k4
            clear k1 k2 k3
            as_aux_lemma =>
              go_wp2_with fail
              refine (clear_any _ p L _ HS.out.post).mono ?_
              rintro e w3 ⟨rfl, hp3, ht3⟩
              have HZ := Lib.hid ((HS.out.touch ht3 hp3 (by simp)).nil)
              have HZA : Hid (ActAt w3 wr.heap.size ⟨4, xI, xTo, xW⟩) := ht3.blk HAct.out (by omega)
              clear hp3 ht3 a0 a1 a2 a3
              have hN := HN.out
              go_wp2_with fail
              refine (len_any _ p _ _ HZ.out.post).mono ?_
              rintro e wq ⟨rfl, rfl⟩
              have b8 := (ActAt.cell HZA.out).2.2.1
              simp only at b8
              have HB8 := Lib.hid b8
              go_wp2_with fail
              refine (to_any p xTo _).mono ?_
              rintro e w8 ⟨rfl, t1, t2, hB8⟩
              skip
              have HZ8 := Lib.hid (HZ.out.below hB8)
              have HT8 := Lib.hid (⟨t1, t2, (by rw [hB8.cell (cell_block HB8.out)]; exact HB8.out : w8.cell? ⟨wr.heap.size, 2, none⟩ = some (.int .i64 xTo))⟩ : _ ∧ _ ∧ _)
              clear t1 t2 hB8 b8
              go_wp2_with fail
              refine (goes_to 100 (by decide) (by decide) _ (p + 1) (p + 1) _ xTo _ _ wr.heap.size p _ HZ8.out.small HZ8.out.row HT8.out.1 HT8.out.2.1 HZ8.out.post HT8.out.2.2).mono ?_
              rintro e w9 ⟨rfl, hB9⟩
              have HZ9 := Lib.hid (HZ8.out.below hB9)
              clear hB9 HZ8 HT8 HB8
              go_wp2
              exact ⟨⟨i + 1, _, by omega, by go_num, HZ9.out⟩, by simp [intOf]; omega⟩
          as_aux_lemma =>
            have HZ := Lib.hid HS.out
            have HZA : Hid (ActAt _ wr.heap.size ⟨xK, xI, xTo, xW⟩) := HAct.out
            have hN := HN.out
            go_wp2_with fail
            refine (len_any _ p _ _ HZ.out.post).mono ?_
            rintro e wq ⟨rfl, rfl⟩
            have b8 := (ActAt.cell HZA.out).2.2.1
            simp only at b8
            have HB8 := Lib.hid b8
            go_wp2_with fail
            refine (to_any p xTo _).mono ?_
            rintro e w8 ⟨rfl, t1, t2, hB8⟩
            rw [show (wr.alloc (.cells #[.int .i64 xK, .int .i64 xI, .int .i64 xTo, .string xW] 28)).heap.size = wr.heap.size + 1 by simp] at t1 t2
            have HZ8 := Lib.hid (HZ.out.below hB8)
            have HT8 := Lib.hid (⟨t1, t2, (by rw [hB8.cell (cell_block HB8.out)]; exact HB8.out : w8.cell? ⟨wr.heap.size, 2, none⟩ = some (.int .i64 xTo))⟩ : _ ∧ _ ∧ _)
            clear t1 t2 hB8 b8
            go_wp2_with fail
            refine (goes_to 100 (by decide) (by decide) _ (p + 1) (p + 1) _ xTo _ _ wr.heap.size p _ HZ8.out.small HZ8.out.row HT8.out.1 HT8.out.2.1 HZ8.out.post HT8.out.2.2).mono ?_
            rintro e w9 ⟨rfl, hB9⟩
            have HZ9 := Lib.hid (HZ8.out.below hB9)
            clear hB9 HZ8 HT8 HB8
            go_wp2
            exact ⟨⟨i + 1, _, by omega, by go_num, HZ9.out⟩, by simp [intOf]; omega⟩
      · obtain rfl : i = n := by omega
        have HS := Lib.hid hS
        have hsm := hS.small
        obtain ⟨aol, capl, rfl⟩ := own_forms hS.row
        clear hS
        have hmd : (mu.tmod 9) = mu % 9 := Int.tmod_eq_emod_of_nonneg hmu0
        have hm1 : 0 ≤ mu % 9 := by omega
        have hm2 : mu % 9 ≤ 8 := by omega
        have hm3 : IntKind.u8.wrap (mu % 9) = mu % 9 := by rw [IntKind.wrap_u8]; omega
        have hm4 : IntKind.i64.wrap (mu % 9) = mu % 9 := by rw [IntKind.wrap_i64]; omega
        go_wp2_with fail
        refine (all_any _ p l _ HS.out.post).mono ?_
        rintro e w3 ⟨v3, rfl, hv, ho, hvp, hB3⟩
        have HS3 := Lib.hid (HS.out.below hB3)
        have HV := Lib.hid (⟨hv, ho⟩ : _ ∧ _)
        clear hv ho hvp hB3
        go_wp2_with fail
        refine (goes_all 100 (by decide) (by decide) l (p + 1) (p + 1) _ _ v3 _ HS3.out.small HS3.out.row HV.out.1 HV.out.2).mono ?_
        rintro e w4 ⟨rfl, hB4⟩
        have HS4 := Lib.hid (HS3.out.below hB4)
        clear hB4 HS3 HV
        go_wp2_with fail
        refine (all_any _ p l _ HS4.out.post).mono ?_
        rintro e w5 ⟨v5, rfl, hv, ho, hvp, hB5⟩
        have HS5 := Lib.hid (HS4.out.below hB5)
        have HV := Lib.hid (⟨hv, ho⟩ : _ ∧ _)
        clear hv ho hvp hB5
        go_wp2_with fail
        refine (goes_all (mu % 9) hm1 (by omega) l (p + 1) (p + 1) _ _ v5 _ HS5.out.small HS5.out.row HV.out.1 HV.out.2).mono ?_
        rintro e w6 ⟨rfl, hB6⟩
        have HS6 := Lib.hid (HS5.out.below hB6)
        clear hB6 HS5 HV
        go_wp2
        go_ret
        exact ⟨rfl, HS6.out.bel⟩
  · go_wp2_with fail
    refine (awake_any _).mono ?_
    rintro e w3 ⟨rfl, hb3⟩
    have HB := Lib.hid (H2.out.below hb3).bel
    clear hb3
    go_wp2
    go_ret
    exact ⟨rfl, HB.out⟩
end Go.Proofs.Ytjalihmjgjajcaa.S
