/- An append of zeros, cap, bytes to a string, byte slices that are only read. -/
import Derived.Test.YtdbpjcplmfkgaaaDoorSlM
namespace Go.Sl
open Go Go.RowKit
section
variable {P : Program} {n : Nat} {s : St} {Γ Δ Θ : List A} {d : Option Tmp} {ty : TypeId} {pos : String} {af : Array Edge} {g : Option (Nat × Bool)} {v u : Value} {x y z : Operand} {T : TypeId}
theorem e_grow {zs : List Value} {by_ m : Nat} {TI : TypeId} {q : IntKind} (hT : mkB P T = some (zs, by_)) (hI : P.underlying TI = some (.int q)) (hz : 0 < zs.length) (hx : ev s x = some (.slice none 0 0)) (hy : ev s y = some (.int .i64 (m : Int))) (hm : 0 < m) (h63 : m ≤ 4611686018427387904) (hfit : m * by_ ≤ 140737488355328) :
    E1 P ⟨d, .call { callee := .builtin .append, args := #[x, y], argTypes := #[T, TI] }, ty, pos, af, g⟩ s Γ (fun v Δ => ∃ b c, v = .slice (some ⟨b, 0, none⟩) m c ∧ m ≤ c ∧ Δ = buf zs.length (some ⟨b, 0, none⟩) 0 c [] :: Γ) := fun F w ρ ee t => by
  obtain ⟨e, i, zv, h4, h5, h6, h6', h7, h8, rfl⟩ := mkB_of hT
  have hrun : ∀ r, (Builtin.append_ #[T, TI] ty #[.slice none 0 0, .int .i64 (m : Int)]).run P w = r → (execOp ρ ⟨d, .call { callee := .builtin .append, args := #[x, y], argTypes := #[T, TI] }, ty, pos, af, g⟩).run P w = r.andThen fun v w' => .ok (.value v) w' := by
    rintro r rfl
    simp [execOp, resolve, invoke, builtin, ee _ _ hx, ee _ _ hy]
  have wm : IntKind.i64.wrap (m : Int) = m := wrap_i64 (by omega) (by omega)
  have hb : ¬ (281474976710656 < (m : Int) * (i.bytes : Int)) := by
    have : (m : Int) * (i.bytes : Int) = ((m * i.bytes : Nat) : Int) := by simp
    rw [this]; omega
  have hn : ¬ (m ≤ 0) := by omega
  have hn2 : ¬ (m = 0) := by omega
  have h63' : ¬ (9223372036854775807 < (m : Int)) := by omega
  have h48 := growslice_fits (need := m) (old := 0) (bytes := i.bytes) (by omega) hfit
  have h48' : ¬ (281474976710656 < Builtin.nextslicecap m 0 * i.bytes) := by omega
  have hzs : zv.cells.size = i.size := by rw [h8, h7]
  have hr : (Builtin.append_ #[T, TI] ty #[.slice none 0 0, .int .i64 (m : Int)]).run P w = .ok (.slice (some ⟨w.heap.size, 0, none⟩) m (grownCap w m 0 e))
      (w.drew.alloc (.cells (#[] ++ Builtin.zeroCells zv.cells m ++ Builtin.zeroCells zv.cells (grownCap w m 0 e - m)) e)) := by
    have hsz : i.size ≠ 0 := by rw [h7]; omega
    simp [Builtin.append_, run_underlying h4, run_underlying hI, sizeOf, typeInfo, zeroValue, h5, h6, asInt, asIntOf, wm, hb, hn, hn2, hsz, h63', h48', Question.forced, newRow, grownCap, Builtin.firstCells]
    rw [if_neg (by omega), if_neg (by intro h; rcases Nat.mul_eq_zero.1 h with h | h <;> omega)]
  have hge := grownCap_ge w m 0 e
  refine ⟨_, _, _, by rw [hrun _ hr]; rfl, ⟨_, _, rfl, hge, rfl⟩, Sat.buf.2 ⟨⟨by simp, Nat.zero_le _, .inl rfl⟩, (Builtin.zeroCells zv.cells m ++ Builtin.zeroCells zv.cells (grownCap w m 0 e - m)).toList, ⟨?_, .inl (Pl.mk _ _)⟩, ?_⟩, (Adv.drew w).trans (.alloc _ _)⟩
  · rw [Array.length_toList, Array.size_append, size_zeroCells, size_zeroCells, h8, ← Nat.add_mul]; congr 1; omega
  · have := t.drew.alloc (#[] ++ Builtin.zeroCells zv.cells m ++ Builtin.zeroCells zv.cells (grownCap w m 0 e - m)) e
    simp only [List.append_nil, List.nil_append, Array.append_assoc, Array.empty_append] at this ⊢
    exact this
theorem q_cap {a : Option Addr} {m c : Nat} {ts : Array TypeId} {e : TypeId} (ht : ts[0]? = some T) (hT : P.underlying T = some (.slice e)) (hx : ev s x = some (.slice a m c)) :
    Q1 P ⟨d, .call { callee := .builtin .cap, args := #[x], argTypes := ts }, ty, pos, af, g⟩ s Γ (.int .i64 c) := fun _ _ _ e _ => by
  simp [execOp, resolve, invoke, builtin, Builtin.cap_, ht, underlying, hT, e _ _ hx, goInt]
theorem wrap_nat {k : IntKind} {x : Nat} (hs : k.signed = false) (h : x < 2 ^ k.bits) : k.wrap (x : Int) = x := by
  cases k <;> simp [IntKind.signed] at hs <;> (unfold IntKind.wrap; simp [IntKind.bits, IntKind.signed] at h ⊢; omega)
theorem ofInt_nat (w a : Nat) : BitVec.ofInt w (a : Int) = BitVec.ofNat w a := by
  apply BitVec.eq_of_toNat_eq
  simp
theorem q_xorN {T' : TypeId} {k : IntKind} {a b : Nat} (hs : k.signed = false) (hx : ev s x = some (.int k (a : Int))) (hy : ev s y = some (.int k (b : Int))) (ha : a < 2 ^ k.bits) (hb : b < 2 ^ k.bits) :
    Q1 P ⟨d, .binOp .xor T x y T', ty, pos, af, g⟩ s Γ (.int k ((a ^^^ b : Nat) : Int)) := q_bits hx hy (by simp) fun w => by
  have h : (BitVec.ofNat k.bits a ^^^ BitVec.ofNat k.bits b).toNat = a ^^^ b := by simp [Nat.mod_eq_of_lt ha, Nat.mod_eq_of_lt hb]
  simp [Op.intBits, ofInt_nat, h, Nat.mod_eq_of_lt ha, Nat.mod_eq_of_lt hb, wrap_nat hs (Nat.xor_lt_two_pow ha hb)]
theorem q_orN {T' : TypeId} {k : IntKind} {a b : Nat} (hs : k.signed = false) (hx : ev s x = some (.int k (a : Int))) (hy : ev s y = some (.int k (b : Int))) (ha : a < 2 ^ k.bits) (hb : b < 2 ^ k.bits) :
    Q1 P ⟨d, .binOp .or T x y T', ty, pos, af, g⟩ s Γ (.int k ((a ||| b : Nat) : Int)) := q_bits hx hy (by simp) fun w => by
  simp [Op.intBits, ofInt_nat, Nat.mod_eq_of_lt ha, Nat.mod_eq_of_lt hb, wrap_nat hs (Nat.or_lt_two_pow ha hb)]
theorem q_andN {T' : TypeId} {k : IntKind} {a b : Nat} (hs : k.signed = false) (hx : ev s x = some (.int k (a : Int))) (hy : ev s y = some (.int k (b : Int))) (ha : a < 2 ^ k.bits) (hb : b < 2 ^ k.bits) :
    Q1 P ⟨d, .binOp .and T x y T', ty, pos, af, g⟩ s Γ (.int k ((a &&& b : Nat) : Int)) := q_bits hx hy (by simp) fun w => by
  simp [Op.intBits, ofInt_nat, Nat.mod_eq_of_lt ha, Nat.mod_eq_of_lt hb, wrap_nat hs (Nat.and_lt_two_pow _ hb)]
theorem q_comN {k : IntKind} {a : Nat} (hs : k.signed = false) (hx : ev s x = some (.int k (a : Int))) (ha : a < 2 ^ k.bits) :
    Q1 P ⟨d, .unOp .xor T x, ty, pos, af, g⟩ s Γ (.int k ((2 ^ k.bits - 1) ^^^ a : Nat)) := q_com hx fun w => by
  have hm : k.max = ((2 ^ k.bits - 1 : Nat) : Int) := by cases k <;> simp [IntKind.signed] at hs <;> simp [IntKind.max, IntKind.bits, IntKind.signed]
  have hp : 0 < 2 ^ k.bits := Nat.two_pow_pos _
  have hb : 2 ^ k.bits - 1 < 2 ^ k.bits := by omega
  rw [hs, hm]
  simp [Op.intBits, ofInt_nat, Nat.mod_eq_of_lt ha, Nat.mod_eq_of_lt hb, wrap_nat hs (Nat.xor_lt_two_pow hb ha)]
theorem q_shrN {T' : TypeId} {k k' : IntKind} {a b : Nat} (hx : ev s x = some (.int k (a : Int))) (hy : ev s y = some (.int k' (b : Int))) (hb : b < k.bits) :
    Q1 P ⟨d, .binOp .shr T x y T', ty, pos, af, g⟩ s Γ (.int k ((a / 2 ^ b : Nat) : Int)) := by
  have := q_shr (P := P) (Γ := Γ) (d := d) (ty := ty) (pos := pos) (af := af) (g := g) (T := T) (T' := T') hx hy (by omega)
  rw [show (a : Int).fdiv (2 ^ min ((b : Int)).toNat k.bits) = ((a / 2 ^ b : Nat) : Int) by
    rw [Int.toNat_natCast, Nat.min_eq_left (by omega), Int.fdiv_eq_ediv_of_nonneg _ (by exact Int.le_of_lt (Int.pow_pos (by omega)))]
    simp] at this
  exact this
theorem q_mulN {T' : TypeId} {a b : Nat} (hx : ev s x = some (.int .i64 (a : Int))) (hy : ev s y = some (.int .i64 (b : Int))) (h : a * b < 9223372036854775808) :
    Q1 P ⟨d, .binOp .mul T x y T', ty, pos, af, g⟩ s Γ (.int .i64 ((a * b : Nat) : Int)) := by
  have e : ((a * b : Nat) : Int) = (a : Int) * (b : Int) := by simp
  have := q_mulI (P := P) (Γ := Γ) (d := d) (ty := ty) (pos := pos) (af := af) (g := g) (T := T) (T' := T') hx hy (by omega)
  rw [e]
  exact this
theorem q_addN {T' : TypeId} {a b : Nat} (hx : ev s x = some (.int .i64 (a : Int))) (hy : ev s y = some (.int .i64 (b : Int))) (h : a + b < 9223372036854775808) :
    Q1 P ⟨d, .binOp .add T x y T', ty, pos, af, g⟩ s Γ (.int .i64 ((a + b : Nat) : Int)) := by
  have := q_addI (P := P) (Γ := Γ) (d := d) (ty := ty) (pos := pos) (af := af) (g := g) (T := T) (T' := T') hx hy (by omega)
  rw [show ((a + b : Nat) : Int) = (a : Int) + (b : Int) by simp]
  exact this
theorem wrap8 (a : Nat) : IntKind.u8.wrap (a : Int) = ((a % 256 : Nat) : Int) := by unfold IntKind.wrap; simp [IntKind.bits, IntKind.signed]
theorem wrap32 (a : Nat) : IntKind.u32.wrap (a : Int) = ((a % 4294967296 : Nat) : Int) := by unfold IntKind.wrap; simp [IntKind.bits, IntKind.signed]
theorem q_add32 {T' : TypeId} {a b : Nat} (hx : ev s x = some (.int .u32 (a : Int))) (hy : ev s y = some (.int .u32 (b : Int))) : Q1 P ⟨d, .binOp .add T x y T', ty, pos, af, g⟩ s Γ (.int .u32 (((a + b) % 4294967296 : Nat) : Int)) := by
  have h := q_int (P := P) (Γ := Γ) (d := d) (ty := ty) (pos := pos) (af := af) (g := g) (T := T) (T' := T') (op := .add) hx hy rfl
  rw [← wrap32]
  rw [show ((a + b : Nat) : Int) = (a : Int) + (b : Int) by simp]
  exact h
theorem q_remNN {T' : TypeId} {k : IntKind} {a b : Nat} (hx : ev s x = some (.int k (a : Int))) (hy : ev s y = some (.int k (b : Int))) (hb : 0 < b) : Q1 P ⟨d, .binOp .rem T x y T', ty, pos, af, g⟩ s Γ (.int k ((a % b : Nat) : Int)) := by
  have h := q_remN (P := P) (Γ := Γ) (d := d) (ty := ty) (pos := pos) (af := af) (g := g) (T := T) (T' := T') hx hy (by omega)
  rw [show ((a % b : Nat) : Int) = (a : Int) % (b : Int) by simp]
  exact h
theorem q_addUN {T' : TypeId} {a b : Nat} (hx : ev s x = some (.int .u64 (a : Int))) (hy : ev s y = some (.int .u64 (b : Int))) (h : a + b < 18446744073709551616) : Q1 P ⟨d, .binOp .add T x y T', ty, pos, af, g⟩ s Γ (.int .u64 ((a + b : Nat) : Int)) := by
  have := q_addU (P := P) (Γ := Γ) (d := d) (ty := ty) (pos := pos) (af := af) (g := g) (T := T) (T' := T') hx hy (by omega)
  rw [show ((a + b : Nat) : Int) = (a : Int) + (b : Int) by simp]
  exact this
theorem q_decN {T' : TypeId} {k : Nat} (hx : ev s x = some (.int .i64 (k : Int))) (hy : ev s y = some (.int .i64 1)) (h0 : 0 < k) (hk : k < 4611686018427387904) : Q1 P ⟨d, .binOp .sub T x y T', ty, pos, af, g⟩ s Γ (.int .i64 ((k - 1 : Nat) : Int)) := by
  rw [show ((k - 1 : Nat) : Int) = (k : Int) - 1 by omega]
  exact q_subI hx hy (by omega)
theorem q_conv8 {T' : TypeId} {k : IntKind} {a : Nat} (h1 : intB P T = some k) (h2 : intB P T' = some .u8) (hx : ev s x = some (.int k (a : Int))) : Q1 P ⟨d, .convert T T' x, ty, pos, af, g⟩ s Γ (.int .u8 ((a % 256 : Nat) : Int)) := by
  have := q_conv (P := P) (Γ := Γ) (d := d) (ty := ty) (pos := pos) (af := af) (g := g) h1 h2 hx
  rwa [wrap8] at this
theorem q_shlN {T' : TypeId} {k k' : IntKind} {a b : Nat} (hs : k.signed = false) (hx : ev s x = some (.int k (a : Int))) (hy : ev s y = some (.int k' (b : Int))) (hb : b < k.bits) (h : a * 2 ^ b < 2 ^ k.bits) :
    Q1 P ⟨d, .binOp .shl T x y T', ty, pos, af, g⟩ s Γ (.int k ((a * 2 ^ b : Nat) : Int)) := by
  have := q_shl (P := P) (Γ := Γ) (d := d) (ty := ty) (pos := pos) (af := af) (g := g) (T := T) (T' := T') hx hy (by omega)
  rw [show k.wrap ((a : Int) * 2 ^ min ((b : Int)).toNat k.bits) = ((a * 2 ^ b : Nat) : Int) by
    rw [Int.toNat_natCast, Nat.min_eq_left (by omega), ← wrap_nat hs h]
    simp] at this
  exact this
end
/-- A byte. -/
abbrev By := Fin 256
abbrev u8 (b : By) : Value := .int .u8 ((b.val : Nat) : Int)
theorem u8_one (l : List By) : ∀ q ∈ l.map u8, q.oneCell' = true := by
  intro q hq
  obtain ⟨b, -, rfl⟩ := List.mem_map.1 hq
  rfl
/-- Bytes of which one knows where they lie. -/
structure BS where
  bs : List By
  a : Option Addr
  n : Nat
  c : Nat
abbrev bsV (x : BS) : Value := .slice x.a x.n x.c
def BS.ok (x : BS) : Prop := Sok 1 x.a x.n x.c (x.bs.map u8)
theorem BS.ok.n {x : BS} (h : x.ok) : x.n = x.bs.length := by have := h.len; simp at this; omega
abbrev BS.at_ (x : BS) : A := sl false x.a (x.bs.map u8)
/-- They can all be read. -/
def bytes (xs : List BS) : A := grp (xs.map BS.at_)
theorem Pers.bytes (xs : List BS) : Pers (bytes xs) := Pers.grp fun c hc => by
  obtain ⟨x, -, rfl⟩ := List.mem_map.1 hc
  exact Pers.cells _ _ _
theorem bytes_nil {Γ : List A} : Imp Γ (bytes [] :: Γ) := fun _ _ t => Sat.grp.2 t
theorem bytes_one {xs : List BS} {x : BS} (h : x ∈ xs) {Γ : List A} : Imp (bytes xs :: Γ) (x.at_ :: bytes xs :: Γ) := fun F w t => by
  have t2 := Sat.dup (Pers.bytes xs) t
  have t3 := Sat.grp.1 t2
  obtain ⟨l1, l2, rfl⟩ := List.append_of_mem h
  rw [List.map_append, List.map_cons] at t3
  have t4 := Imp.perm (show ((l1.map BS.at_ ++ x.at_ :: l2.map BS.at_) ++ bytes (l1 ++ x :: l2) :: Γ).Perm ((l1.map BS.at_ ++ l2.map BS.at_) ++ (x.at_ :: bytes (l1 ++ x :: l2) :: Γ)) by
    rw [List.append_assoc, List.append_assoc, List.cons_append]
    refine List.Perm.append_left _ ?_
    exact (List.perm_middle (l₁ := l2.map BS.at_) (a := x.at_) (l₂ := bytes (l1 ++ x :: l2) :: Γ)).symm) F w t3
  have drop : ∀ (L : List A) (Γ : List A), Imp (L ++ Γ) Γ := fun L => by
    induction L with
    | nil => exact fun Γ => Imp.refl _
    | cons c L ih => exact fun Γ => (Imp.drop _ _).trans (ih Γ)
  exact drop _ _ F w t4
theorem bytes_snoc {xs : List BS} {x : BS} {Γ : List A} : Imp (x.at_ :: bytes xs :: Γ) (bytes (xs ++ [x]) :: Γ) := fun F w t => by
  have t1 := Imp.cons x.at_ (fun F w t => Sat.grp.1 t) F w t
  refine Sat.grp.2 (Imp.perm ?_ F w t1)
  rw [List.map_append, List.append_assoc]
  exact (List.perm_middle (l₁ := xs.map BS.at_) (a := x.at_) (l₂ := Γ)).symm
theorem bytes_sub {xs ys : List BS} {Γ : List A} (h : ∀ y ∈ ys, y ∈ xs) : Imp (bytes xs :: Γ) (bytes ys :: bytes xs :: Γ) := by
  induction ys with
  | nil => exact bytes_nil
  | cons y ys ih =>
    refine (ih fun z hz => h z (List.mem_cons_of_mem _ hz)).trans ?_
    refine (Imp.perm (.swap _ _ _)).trans ((bytes_one (h y (List.mem_cons_self ..))).trans ?_)
    refine (Imp.perm (show (y.at_ :: bytes xs :: bytes ys :: Γ).Perm (y.at_ :: bytes ys :: bytes xs :: Γ) from (List.Perm.swap _ _ _).cons _)).trans ?_
    exact fun F w t => Sat.grp.2 (Imp.cons y.at_ (fun F w t => Sat.grp.1 t) F w t)
end Go.Sl
