import Derived.Test.YtjalihmjgjajcaaG
import Derived.Test.YtjalihmjgjajcaaI
import Derived.Test.YtjalihmjgjajcaaQ
import Derived.Laws.StructEq
namespace Go.Proofs.Ytjalihmjgjajcaa.S
open Go.RowKit Go.Joins
open Go.Proofs.Ytjalihmjgjajcaa (Touch below_blk own_below plN plN_lt plN_eq ret_ib block_setCells below_cells take_of_get cell_block)

abbrev lv (x : LT) : Value := .agg #[.int .i64 x.fr, .int .i64 x.to, .string x.what]
theorem fields48 : Try.prog.underlying 48 = some (.struct (Try.prog.fieldsOf 48)) := by kernel_rfl
theorem eqL (a b : Int) (c : ByteArray) (w : World) : (Op.equal 48 (.agg #[.int .i64 a, .int .i64 b, .string c]) (.agg #[.int .i64 a, .int .i64 b, .string c])).run Try.prog w = .ok true w := by
  unfold Op.equal Op.maxDepth
  rw [run_equalIn_struct w 9999 48 _ _ fields48 (by kernel_rfl)]
  have e3 : ∀ (x : Int) (w : World), (Op.equalIn 9999 3 (.int .i64 x) (.int .i64 x)).run Try.prog w = .ok true w := fun x w => by
    rw [run_equalIn_int w 9998 3 .i64 .i64 x x Try.underlying3]; simp
  have e9 : ∀ (x : ByteArray) (w : World), (Op.equalIn 9999 9 (.string x) (.string x)).run Try.prog w = .ok true w := fun x w => by
    rw [run_equalIn_string w 9998 9 x x Try.underlying9]; simp
  have hf : (Try.prog.fieldsOf 48).toList.map (fun f => (f.type, f.offset, f.name == "_")) = [(3, 0, false), (3, 1, false), (9, 2, false)] := by kernel_rfl
  have p0 : ∀ (w : World), (part 3 #[.int .i64 a, .int .i64 b, .string c] 0).run Try.prog w = .ok (.int .i64 a) w := fun w => by kernel_rfl
  have p1 : ∀ (w : World), (part 3 #[.int .i64 a, .int .i64 b, .string c] 1).run Try.prog w = .ok (.int .i64 b) w := fun w => by kernel_rfl
  have p2 : ∀ (w : World), (part 9 #[.int .i64 a, .int .i64 b, .string c] 2).run Try.prog w = .ok (.string c) w := fun w => by kernel_rfl
  generalize (Try.prog.fieldsOf 48).toList = fs at hf ⊢
  rw [List.map_eq_cons_iff] at hf
  obtain ⟨f0, r0, rfl, h0, hf⟩ := hf
  rw [List.map_eq_cons_iff] at hf
  obtain ⟨f1, r1, rfl, h1, hf⟩ := hf
  rw [List.map_eq_cons_iff] at hf
  obtain ⟨f2, r2, rfl, h2, hf⟩ := hf
  rw [List.map_eq_nil_iff] at hf
  subst hf
  simp only [Prod.mk.injEq, beq_eq_false_iff_ne, ne_eq] at h0 h1 h2
  obtain ⟨t0, o0, n0⟩ := h0
  obtain ⟨t1, o1, n1⟩ := h1
  obtain ⟨t2, o2, n2⟩ := h2
  simp [Op.eqFields, t0, o0, n0, t1, o1, n1, t2, o2, n2, p0, p1, p2, e3, e9]
theorem eqlL (a b : Int) (c : ByteArray) (w : World) : (binOp .eql 48 (.agg #[.int .i64 a, .int .i64 b, .string c]) (.agg #[.int .i64 a, .int .i64 b, .string c])).run Try.prog w = .ok (.bool true) w := by
  simp only [binOp]
  simp [eqL]
theorem neqL (a b : Int) (c : ByteArray) (w : World) : (binOp .neq 48 (.agg #[.int .i64 a, .int .i64 b, .string c]) (.agg #[.int .i64 a, .int .i64 b, .string c])).run Try.prog w = .ok (.bool false) w := by
  simp only [binOp]
  simp [eqL]

/-! ### small contracts -/
theorem clear_any (B p : Nat) (l : List LT) (w : World) (h : PostAt w B p l) :
    Calls Try.prog 17 #[.pointer (some ⟨p, 0, none⟩)] w fun e w' => e = .returned (.int .i64 l.length) ∧ PostAt w' w.heap.size p [] ∧ Touch p w w' := by
  obtain ⟨v, hb, ho⟩ := h
  obtain ⟨ao, cap, rfl⟩ := own_forms ho
  have hc : w.cell? ⟨p, 0, none⟩ = some (.slice ao l.length cap) := by simp [World.cell?, hb]
  have hf : w.frozen? ⟨p, 0, none⟩ = false := by simp [World.frozen?, hb]
  have HB := Lib.hid hb
  clear hb ho
  generalize l.length = n at *
  go_enter Try.func17, Try.ntmps17
  go_wp2
  go_ret
  have := block_setCell (i := 0) HB.out (.slice none 0 0)
  exact ⟨rfl, ⟨.slice none 0 0, by simpa using this, World.ownsRow_nil _ _ _ _⟩, (Touch.refl p w).set_ 0 _⟩

theorem who2_any (x : LT) (w : World) :
    Calls Try.prog 22 #[lv x] w fun e w' => e = .returned (.bool true) ∧ Below w.heap.size w w' := by
  go_enter Try.func22, Try.ntmps22
  go_wp2
  go_ret
  exact ⟨rfl, (Below.refl _ w).alloc (Nat.le_refl _) _⟩
theorem who1_any (x : LT) (b : Nat) (to : Int) (w : World) (hc : w.cell? ⟨b, 2, none⟩ = some (.int .i64 to)) :
    Calls Try.prog 21 #[lv x, .pointer (some ⟨b, 0, none⟩)] w fun e w' => e = .returned (.bool (x.to == to)) ∧ Below w.heap.size w w' := by
  have c1 := Lib.cell?_alloc_some (.cells #[.int .i64 x.fr, .int .i64 x.to, .string x.what] 48) hc
  clear hc
  go_enter Try.func21, Try.ntmps21
  go_wp2
  go_ret
  exact ⟨rfl, (Below.refl _ w).alloc (Nat.le_refl _) _⟩
theorem to_any (p : Nat) (who : Int) (w : World) :
    Calls Try.prog 20 #[.pointer (some ⟨p, 0, none⟩), .int .i64 who] w fun e w' => e = .returned (.func (Fn.func 34) #[] #[.pointer (some ⟨w.heap.size, 0, none⟩), .pointer (some ⟨w.heap.size + 1, 0, none⟩)]) ∧
      w'.heap[w.heap.size]? = some (.cells #[.pointer (some ⟨p, 0, none⟩)] 44 (0, 0)) ∧ w'.heap[w.heap.size + 1]? = some (.cells #[.int .i64 who] 3 (0, 0)) ∧ Below w.heap.size w w' := by
  have hmf : ∀ (fn : Fn) (first cap : Array Value) (w : World), (Instr.makeFunc fn first cap).run Try.prog w = .ok (.func fn first cap) w := fun _ _ _ _ => rfl
  go_enter Try.func20, Try.ntmps20
  go_wp2
  go_ret
  refine ⟨rfl, below_blk ((Below.refl _ _).alloc (Nat.le_refl _) _) (heap_alloc_new w _), ?_, ((Below.refl _ w).alloc (Nat.le_refl _) _).alloc (by simp) _⟩
  have := heap_alloc_new (w.alloc (.cells #[.pointer (some ⟨p, 0, none⟩)] 44)) (.cells #[.int .i64 who] 3)
  simpa using this
theorem all_any (B p : Nat) (l : List LT) (w : World) (h : PostAt w B p l) :
    Calls Try.prog 23 #[.pointer (some ⟨p, 0, none⟩)] w fun e w' => ∃ v, e = .returned (.func (Fn.func 37) #[] #[.pointer (some ⟨w.heap.size, 0, none⟩)]) ∧ w'.heap[w.heap.size]? = some (.cells #[v] 46 (0, 0)) ∧ w'.ownsRow B 48 3 v l.length (flat l) ∧ w.heap[p]? = some (.cells #[v] 69 (0, 0)) ∧ Below w.heap.size w w' := by
  obtain ⟨v, hb, ho⟩ := h
  obtain ⟨ao, cap, rfl⟩ := own_forms ho
  have hc : w.cell? ⟨p, 0, none⟩ = some (.slice ao l.length cap) := by simp [World.cell?, hb]
  have HP := Lib.hid hb
  have HO := Lib.hid (own_below ho ((Below.refl _ w).alloc (Nat.le_refl _) (.cells #[.slice ao l.length cap] 46)))
  clear hb ho
  generalize l.length = n at hc HO HP ⊢
  have hmf : ∀ (fn : Fn) (first cap : Array Value) (w : World), (Instr.makeFunc fn first cap).run Try.prog w = .ok (.func fn first cap) w := fun _ _ _ _ => rfl
  go_enter Try.func23, Try.ntmps23
  go_wp2
  go_ret
  exact ⟨_, rfl, heap_alloc_new w _, HO.out, HP.out, (Below.refl _ w).alloc (Nat.le_refl _) _⟩

/-- letter j of the row behind v, cell by cell -/
theorem row_cells {w : World} {B g n cap : Nat} {l : List LT} (ho : w.ownsRow B 48 3 (.slice (some ⟨g, 0, none⟩) n cap) n (flat l)) {j : Nat} {y : LT} (hj : l[j]? = some y) :
    w.cell? ⟨g, j * 3, none⟩ = some (.int .i64 y.fr) ∧ w.cell? ⟨g, j * 3 + 1, none⟩ = some (.int .i64 y.to) ∧ w.cell? ⟨g, j * 3 + 2, none⟩ = some (.string y.what) := by
  obtain ⟨f0, f1, f2⟩ := flat_get l j y hj
  have hl : j * 3 + 2 < (flat l).length := (List.getElem?_eq_some_iff.1 f2).1
  have hfl := flat_length l
  have hn := ho.1
  exact ⟨by rw [ho.cellAt _ (by omega)]; exact f0, by rw [ho.cellAt _ (by omega)]; exact f1, by rw [ho.cellAt _ (by omega)]; exact f2⟩

/-! ### plain: which places -/
def ats (q : LT → Bool) (l : List LT) : Nat → List Nat
  | 0 => []
  | i + 1 => match l[i]? with
    | some x => if q x then ats q l i ++ [i] else ats q l i
    | none => ats q l i
theorem ats_succ {q : LT → Bool} {l : List LT} {i : Nat} {x : LT} (h : l[i]? = some x) : ats q l (i + 1) = if q x then ats q l i ++ [i] else ats q l i := by
  rw [ats]; simp [h]
theorem ats_prefix (q : LT → Bool) (l : List LT) (i j : Nat) : ∃ t, ats q l (i + j) = ats q l i ++ t := by
  induction j with
  | zero => exact ⟨[], by simp⟩
  | succ j ih =>
    obtain ⟨t, ht⟩ := ih
    rw [← Nat.add_assoc, ats]
    split
    · split
      · exact ⟨t ++ [i + j], by rw [ht]; simp⟩
      · exact ⟨t, ht⟩
    · exact ⟨t, ht⟩
theorem ats_at {q : LT → Bool} {l : List LT} {i n : Nat} {x : LT} (hi : i < n) (hx : l[i]? = some x) (hq : q x = true) : (ats q l i).length < (ats q l n).length ∧ (ats q l n)[(ats q l i).length]? = some i := by
  obtain ⟨t, h⟩ := ats_prefix q l (i + 1) (n - (i + 1))
  rw [show i + 1 + (n - (i + 1)) = n by omega, ats_succ hx, if_pos hq] at h
  rw [h]
  refine ⟨by simp, ?_⟩
  rw [List.append_assoc, List.getElem?_append_right (by omega)]
  simp
theorem ats_le (q : LT → Bool) (l : List LT) (i : Nat) : (ats q l i).length ≤ i := by
  induction i with
  | zero => simp [ats]
  | succ i ih =>
    rw [ats]
    split
    · split
      · simp; omega
      · omega
    · omega
end Go.Proofs.Ytjalihmjgjajcaa.S
