/- Separation logic over the model's code: loops over slices, elements of mapped and flattened lists, counters. -/
import Derived.Test.YtdbpjcplmfkgaaaDoorSlG
namespace Go.Sl
open Go Go.RowKit
section
variable {P : Program} {n : Nat} {s : St} {Γ Δ Θ : List A} {Q : QX} {K : St → List A → Prop} {ops : Array Oper} {d : Option Tmp} {ty : TypeId} {pos : String} {af : Array Edge} {g : Option (Nat × Bool)} {v u : Value} {x y z : Operand} {T : TypeId}

theorem WPC.loopS {c : Code} (I : Nat → List (Nat × Value) → List A → Prop) (m : Nat) {e0 : List (Nat × Value)} {Γ0 : List A} (h0 : I m e0 Γ0) (hs : SubE e0 s.env) (hΓ : Imp Γ Γ0)
    (round : ∀ m e Γ, I m e Γ → WPC P n c ⟨s.ds, e⟩ Γ (thenQ (fun s' Γ' => s'.ds = s.ds ∧ ∃ m' e' Γ'', m' < m ∧ I m' e' Γ'' ∧ SubE e' s'.env ∧ Imp Γ' Γ'') Q)) : WPC P n (.loop c) s Γ Q := by
  refine WPC.loop (fun m s' Γ' => s'.ds = s.ds ∧ ∃ e' Γ'', I m e' Γ'' ∧ SubE e' s'.env ∧ Imp Γ' Γ'') m ⟨rfl, e0, Γ0, h0, hs, hΓ⟩ ?_
  rintro m s' Γ' ⟨hd, e', Γ'', hI, hsub, himp⟩
  refine WPC.imp himp (WPC.env e' hsub ?_)
  rw [hd]
  refine (round m e' Γ'' hI).mono fun ex s1 Γ1 q => ?_
  cases ex with
  | normal =>
    obtain ⟨hd1, m', e1, Γ2, hlt, hI1, hsub1, himp1⟩ := q
    exact ⟨m', hlt, hd1, e1, Γ2, hI1, hsub1, himp1⟩
  | _ => exact q
/-- The ways meet again, told by a relation. -/
theorem WPC.seqCutS {c c' : Code} (M : List (Nat × Value) → List A → Prop) (h : WPC P n c s Γ (thenQ (fun s' Γ' => s'.ds = s.ds ∧ ∃ e Γ'', M e Γ'' ∧ SubE e s'.env ∧ Imp Γ' Γ'') Q)) (k : ∀ e Γ, M e Γ → WPC P n c' ⟨s.ds, e⟩ Γ Q) : WPC P n (.seq c c') s Γ Q :=
  .seqCut _ h fun _ _ ⟨hd, e, _, hM, hs, hi⟩ => WPC.imp hi (WPC.env e hs (hd ▸ k e _ hM))

theorem wrap_i64 {x : Int} (h : -9223372036854775808 ≤ x) (h' : x ≤ 9223372036854775807) : IntKind.i64.wrap x = x := by unfold IntKind.wrap; simp [IntKind.bits, IntKind.signed]; omega
theorem wrap_u64 {x : Int} (h : 0 ≤ x) (h' : x ≤ 18446744073709551615) : IntKind.u64.wrap x = x := by unfold IntKind.wrap; simp [IntKind.bits, IntKind.signed]; omega
theorem wrap_u32 {x : Int} (h : 0 ≤ x) (h' : x ≤ 4294967295) : IntKind.u32.wrap x = x := by unfold IntKind.wrap; simp [IntKind.bits, IntKind.signed]; omega
theorem wrap_u8 {x : Int} (h : 0 ≤ x) (h' : x ≤ 255) : IntKind.u8.wrap x = x := by unfold IntKind.wrap; simp [IntKind.bits, IntKind.signed]; omega
theorem q_inc {T' : TypeId} {k : Nat} (hx : ev s x = some (.int .i64 (k : Int))) (hy : ev s y = some (.int .i64 1)) (hk : k < 9223372036854775807) : Q1 P ⟨d, .binOp .add T x y T', ty, pos, af, g⟩ s Γ (.int .i64 ((k + 1 : Nat) : Int)) := by
  have h := q_int (P := P) (Γ := Γ) (d := d) (ty := ty) (pos := pos) (af := af) (g := g) (T := T) (T' := T') (op := .add) hx hy rfl
  rw [wrap_i64 (by omega) (by omega)] at h
  exact h
/-- A sum, a difference that fits. -/
theorem q_addI {T' : TypeId} {a b : Int} (hx : ev s x = some (.int .i64 a)) (hy : ev s y = some (.int .i64 b)) (h : -9223372036854775808 ≤ a + b ∧ a + b ≤ 9223372036854775807) : Q1 P ⟨d, .binOp .add T x y T', ty, pos, af, g⟩ s Γ (.int .i64 (a + b)) := by
  have h' := q_int (P := P) (Γ := Γ) (d := d) (ty := ty) (pos := pos) (af := af) (g := g) (T := T) (T' := T') (op := .add) hx hy rfl
  rw [wrap_i64 h.1 h.2] at h'
  exact h'
theorem q_subI {T' : TypeId} {a b : Int} (hx : ev s x = some (.int .i64 a)) (hy : ev s y = some (.int .i64 b)) (h : -9223372036854775808 ≤ a - b ∧ a - b ≤ 9223372036854775807) : Q1 P ⟨d, .binOp .sub T x y T', ty, pos, af, g⟩ s Γ (.int .i64 (a - b)) := by
  have h' := q_int (P := P) (Γ := Γ) (d := d) (ty := ty) (pos := pos) (af := af) (g := g) (T := T) (T' := T') (op := .sub) hx hy rfl
  rw [wrap_i64 h.1 h.2] at h'
  exact h'
theorem q_mulI {T' : TypeId} {a b : Int} (hx : ev s x = some (.int .i64 a)) (hy : ev s y = some (.int .i64 b)) (h : -9223372036854775808 ≤ a * b ∧ a * b ≤ 9223372036854775807) : Q1 P ⟨d, .binOp .mul T x y T', ty, pos, af, g⟩ s Γ (.int .i64 (a * b)) := by
  have h' := q_int (P := P) (Γ := Γ) (d := d) (ty := ty) (pos := pos) (af := af) (g := g) (T := T) (T' := T') (op := .mul) hx hy rfl
  rw [wrap_i64 h.1 h.2] at h'
  exact h'
theorem q_addU {T' : TypeId} {a b : Int} (hx : ev s x = some (.int .u64 a)) (hy : ev s y = some (.int .u64 b)) (h : 0 ≤ a + b ∧ a + b ≤ 18446744073709551615) : Q1 P ⟨d, .binOp .add T x y T', ty, pos, af, g⟩ s Γ (.int .u64 (a + b)) := by
  have h' := q_int (P := P) (Γ := Γ) (d := d) (ty := ty) (pos := pos) (af := af) (g := g) (T := T) (T' := T') (op := .add) hx hy rfl
  rw [wrap_u64 h.1 h.2] at h'
  exact h'
theorem q_subU {T' : TypeId} {a b : Int} (hx : ev s x = some (.int .u64 a)) (hy : ev s y = some (.int .u64 b)) (h : 0 ≤ a - b ∧ a - b ≤ 18446744073709551615) : Q1 P ⟨d, .binOp .sub T x y T', ty, pos, af, g⟩ s Γ (.int .u64 (a - b)) := by
  have h' := q_int (P := P) (Γ := Γ) (d := d) (ty := ty) (pos := pos) (af := af) (g := g) (T := T) (T' := T') (op := .sub) hx hy rfl
  rw [wrap_u64 h.1 h.2] at h'
  exact h'
theorem q_convU {T' : TypeId} {k : IntKind} {a : Int} (h1 : intB P T = some k) (h2 : intB P T' = some .u64) (hx : ev s x = some (.int k a)) (h : 0 ≤ a ∧ a ≤ 18446744073709551615) : Q1 P ⟨d, .convert T T' x, ty, pos, af, g⟩ s Γ (.int .u64 a) := by
  have h' := q_conv (P := P) (Γ := Γ) (d := d) (ty := ty) (pos := pos) (af := af) (g := g) h1 h2 hx
  rw [wrap_u64 h.1 h.2] at h'
  exact h'
theorem q_convI {T' : TypeId} {k : IntKind} {a : Int} (h1 : intB P T = some k) (h2 : intB P T' = some .i64) (hx : ev s x = some (.int k a)) (h : -9223372036854775808 ≤ a ∧ a ≤ 9223372036854775807) : Q1 P ⟨d, .convert T T' x, ty, pos, af, g⟩ s Γ (.int .i64 a) := by
  have h' := q_conv (P := P) (Γ := Γ) (d := d) (ty := ty) (pos := pos) (af := af) (g := g) h1 h2 hx
  rw [wrap_i64 h.1 h.2] at h'
  exact h'
theorem q_conv32 {T' : TypeId} {k : IntKind} {a : Int} (h1 : intB P T = some k) (h2 : intB P T' = some .u32) (hx : ev s x = some (.int k a)) (h : 0 ≤ a ∧ a ≤ 4294967295) : Q1 P ⟨d, .convert T T' x, ty, pos, af, g⟩ s Γ (.int .u32 a) := by
  have h' := q_conv (P := P) (Γ := Γ) (d := d) (ty := ty) (pos := pos) (af := af) (g := g) h1 h2 hx
  rw [wrap_u32 h.1 h.2] at h'
  exact h'
theorem wrap_in {k : IntKind} {x : Int} (h0 : 0 ≤ x) (h1 : x ≤ 127) : k.wrap x = x := by cases k <;> (unfold IntKind.wrap; simp [IntKind.bits, IntKind.signed]; omega)
theorem q_quoI {T' : TypeId} {a b : Int} (hx : ev s x = some (.int .i64 a)) (hy : ev s y = some (.int .i64 b)) (h : 0 ≤ a ∧ a ≤ 9223372036854775807 ∧ 0 < b) : Q1 P ⟨d, .binOp .quo T x y T', ty, pos, af, g⟩ s Γ (.int .i64 (a / b)) := by
  have h' := q_quo (P := P) (Γ := Γ) (d := d) (ty := ty) (pos := pos) (af := af) (g := g) (T := T) (T' := T') hx hy (by omega)
  have e : a.tdiv b = a / b := Int.tdiv_eq_ediv_of_nonneg h.1
  have := Int.ediv_le_self b h.1
  have := Int.ediv_nonneg h.1 (show 0 ≤ b by omega)
  rw [e, wrap_i64 (by omega) (by omega)] at h'
  exact h'
theorem q_quoU {T' : TypeId} {a b : Int} (hx : ev s x = some (.int .u64 a)) (hy : ev s y = some (.int .u64 b)) (h : 0 ≤ a ∧ a ≤ 18446744073709551615 ∧ 0 < b) : Q1 P ⟨d, .binOp .quo T x y T', ty, pos, af, g⟩ s Γ (.int .u64 (a / b)) := by
  have h' := q_quo (P := P) (Γ := Γ) (d := d) (ty := ty) (pos := pos) (af := af) (g := g) (T := T) (T' := T') hx hy (by omega)
  have e : a.tdiv b = a / b := Int.tdiv_eq_ediv_of_nonneg h.1
  have := Int.ediv_le_self b h.1
  have := Int.ediv_nonneg h.1 (show 0 ≤ b by omega)
  rw [e, wrap_u64 (by omega) (by omega)] at h'
  exact h'
theorem q_remN {T' : TypeId} {k : IntKind} {a b : Int} (hx : ev s x = some (.int k a)) (hy : ev s y = some (.int k b)) (h : 0 ≤ a ∧ 0 < b) : Q1 P ⟨d, .binOp .rem T x y T', ty, pos, af, g⟩ s Γ (.int k (a % b)) := by
  have h' := q_rem (P := P) (Γ := Γ) (d := d) (ty := ty) (pos := pos) (af := af) (g := g) (T := T) (T' := T') hx hy (by omega)
  rw [Int.tmod_eq_emod_of_nonneg h.1] at h'
  exact h'
theorem q_idxN {e sz : Nat} {a : Option Addr} {m c : Nat} {k : IntKind} {i : Nat} (hT : slB P T = some (e, sz)) (hx : ev s x = some (.slice a m c)) (hy : ev s y = some (.int k (i : Int))) (h1 : i < m) (ha : Pl a) :
    Q1 P ⟨d, .indexAddr T x y, ty, pos, af, g⟩ s Γ (.pointer (some ⟨blk a, off a + i * sz, none⟩)) := by
  have := q_idx (P := P) (Γ := Γ) (d := d) (ty := ty) (pos := pos) (af := af) (g := g) hT hx hy (by omega) (by omega) ha
  simpa using this
theorem q_idxAN {m sz b o : Nat} {k : IntKind} {i : Nat} (hT : arB P T = some (m, sz)) (hx : ev s x = some (.pointer (some ⟨b, o, none⟩))) (hy : ev s y = some (.int k (i : Int))) (h1 : i < m) :
    Q1 P ⟨d, .indexAddr T x y, ty, pos, af, g⟩ s Γ (.pointer (some ⟨b, o + i * sz, none⟩)) := by
  have := q_idxA (P := P) (Γ := Γ) (d := d) (ty := ty) (pos := pos) (af := af) (g := g) hT hx hy (by omega) (by omega)
  simpa using this
/-- An element of a mapped list. -/
theorem q_ldMap {α : Type} {p : Bool} {b o i : Nat} {xs : List α} {f : α → Value} {e : α} (hT : ldB P T = some none) (hx : ev s x = some (.pointer (some ⟨b, o + i * 1, none⟩))) (hm : cells p b o (xs.map f) ∈ Γ) (hi : xs[i]? = some e) :
    Q1 P ⟨d, .load T x, ty, pos, af, g⟩ s Γ (f e) := q_load1 (i := i) hT hx hm (by omega) (by simp [hi])
theorem flat_get {α : Type} {enc : α → List Value} {k : Nat} (hk : ∀ x, (enc x).length = k) : ∀ (xs : List α) (i j : Nat) {e : α}, xs[i]? = some e → j < k → (xs.flatMap enc)[i * k + j]? = (enc e)[j]?
  | [], i, j, e, h, _ => by simp at h
  | y :: ys, 0, j, e, h, hj => by
    simp at h; subst h
    rw [List.flatMap_cons, List.getElem?_append_left (by rw [hk]; omega)]; simp
  | y :: ys, i + 1, j, e, h, hj => by
    rw [List.flatMap_cons, List.getElem?_append_right (by rw [hk, Nat.succ_mul]; omega)]
    have := flat_get hk ys i j (by simpa using h) hj
    rw [← this, hk]; congr 1; rw [Nat.succ_mul]; omega
theorem flat_drop {α : Type} {enc : α → List Value} {k : Nat} (hk : ∀ x, (enc x).length = k) {xs : List α} {i : Nat} {e : α} (h : xs[i]? = some e) : ((xs.flatMap enc).drop (i * k)).take k = enc e := by
  apply List.ext_getElem?
  intro j
  by_cases hj : j < k
  · rw [List.getElem?_take, if_pos hj, List.getElem?_drop, flat_get hk xs i j h hj]
  · rw [List.getElem?_eq_none (by simp; omega), List.getElem?_eq_none (by rw [hk]; omega)]
theorem flat_length {α : Type} {enc : α → List Value} {k : Nat} (hk : ∀ x, (enc x).length = k) : ∀ (xs : List α), (xs.flatMap enc).length = xs.length * k
  | [] => by simp
  | y :: ys => by rw [List.flatMap_cons, List.length_append, hk, flat_length hk ys, List.length_cons, Nat.succ_mul]; omega
/-- A whole element of a flattened list. -/
theorem q_ldFlat {α : Type} {p : Bool} {b o i k : Nat} {xs : List α} {enc : α → List Value} {e : α} (hT : ldB P T = some (some k)) (hx : ev s x = some (.pointer (some ⟨b, o + i * k, none⟩))) (hm : cells p b o (xs.flatMap enc) ∈ Γ) (hk : ∀ x, (enc x).length = k) (hi : xs[i]? = some e) :
    Q1 P ⟨d, .load T x, ty, pos, af, g⟩ s Γ (.agg (enc e).toArray) := q_loadN (i := i * k) hT hx hm rfl (hk e) (flat_drop hk hi)
/-- One cell of an element. -/
theorem q_ldFlat1 {α : Type} {p : Bool} {b o i j k : Nat} {xs : List α} {enc : α → List Value} {e : α} (hT : ldB P T = some none) (hx : ev s x = some (.pointer (some ⟨b, o + (i * k + j), none⟩))) (hm : cells p b o (xs.flatMap enc) ∈ Γ) (hk : ∀ x, (enc x).length = k) (hi : xs[i]? = some e) (hj : j < k) (hv : (enc e)[j]? = some v) :
    Q1 P ⟨d, .load T x, ty, pos, af, g⟩ s Γ v := q_load1 (i := i * k + j) hT hx hm rfl (by rw [flat_get hk xs i j hi hj]; exact hv)
theorem take_succ {α : Type} {xs : List α} {k : Nat} {e : α} (h : xs[k]? = some e) : xs.take (k + 1) = xs.take k ++ [e] := by
  rw [List.take_add_one]; simp [h]
end
end Go.Sl
