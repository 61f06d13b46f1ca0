/- Separation logic over the model's code: the operations. -/
import Derived.Test.YtdbpjcplmfkgaaaDoorSlB
namespace Go.Sl
open Go Go.RowKit

/- Finding, changing and taking assertions out of a list. -/
theorem Sat.mem {c : A} {Γ : List A} (h : c ∈ Γ) {F : A} {w : World} (t : Sat Γ F w) : ∃ Θ, Sat (c :: Θ) F w := by
  obtain ⟨l, r, rfl⟩ := List.append_of_mem h
  exact ⟨l ++ r, Imp.perm List.perm_middle _ _ t⟩
inductive Upd : List A → A → A → List A → Prop
  | here {c c' : A} {r : List A} : Upd (c :: r) c c' (c' :: r)
  | there {x c c' : A} {r r' : List A} : Upd r c c' r' → Upd (x :: r) c c' (x :: r')
theorem Upd.perm {Γ Δ : List A} {c c' : A} (u : Upd Γ c c' Δ) : ∃ Θ, Γ.Perm (c :: Θ) ∧ Δ.Perm (c' :: Θ) := by
  induction u with
  | @here c c' r => exact ⟨r, .refl _, .refl _⟩
  | @there x c c' r r' u ih =>
    obtain ⟨Θ, h1, h2⟩ := ih
    exact ⟨x :: Θ, (h1.cons x).trans (.swap _ _ _), (h2.cons x).trans (.swap _ _ _)⟩
theorem Upd.sat {Γ Δ : List A} {c c' : A} (u : Upd Γ c c' Δ) {F : A} {w : World} (t : Sat Γ F w) : ∃ Θ, Sat (c :: Θ) F w ∧ ∀ w', Sat (c' :: Θ) F w' → Sat Δ F w' :=
  let ⟨Θ, h1, h2⟩ := u.perm
  ⟨Θ, Imp.perm h1 _ _ t, fun _ t' => Imp.perm h2.symm _ _ t'⟩
theorem Upd.imp {Γ Δ : List A} {c c' : A} (u : Upd Γ c c' Δ) (f : ∀ h, c h → c' h) : Imp Γ Δ := fun _ w t =>
  let ⟨_, t1, t2⟩ := u.sat t; t2 w (t1.cons f)
inductive SetAt : List Value → Nat → Value → List Value → Prop
  | here {x v : Value} {r : List Value} : SetAt (x :: r) 0 v (v :: r)
  | there {x v : Value} {i : Nat} {r r' : List Value} : SetAt r i v r' → SetAt (x :: r) (i + 1) v (x :: r')
theorem SetAt.set {vs : List Value} {i : Nat} {v : Value} {vs' : List Value} (h : SetAt vs i v vs') : i < vs.length ∧ vs' = vs.set i v := by
  induction h with
  | here => simp
  | there _ ih => exact ⟨by simp; exact ih.1, by simp [ih.2]⟩
inductive Pick1 : List A → A → List A → Prop
  | here {c : A} {r : List A} : Pick1 (c :: r) c r
  | there {x c : A} {r r' : List A} : Pick1 r c r' → Pick1 (x :: r) c (x :: r')
theorem Pick1.perm {Γ Θ : List A} {c : A} (u : Pick1 Γ c Θ) : Γ.Perm (c :: Θ) := by
  induction u with
  | here => exact .refl _
  | there _ ih => exact (ih.cons _).trans (.swap _ _ _)
inductive Pick : List A → List A → List A → Prop
  | nil {Γ : List A} : Pick Γ [] Γ
  | cons {Γ Γ1 Θ cs : List A} {c : A} : Pick1 Γ c Γ1 → Pick Γ1 cs Θ → Pick Γ (c :: cs) Θ
  | keep {Γ Θ cs : List A} {c : A} : c ∈ Γ → Pers c → Pick Γ cs Θ → Pick Γ (c :: cs) Θ
theorem Sat.dupMem {c : A} {Γ : List A} (h : c ∈ Γ) (p : Pers c) {F : A} {w : World} (t : Sat Γ F w) : Sat (c :: Γ) F w := by
  obtain ⟨l, r, rfl⟩ := List.append_of_mem h
  exact (Imp.perm (List.perm_middle (l₁ := l) (a := c) (l₂ := r)).symm).cons c _ _ (Sat.dup p (Imp.perm List.perm_middle _ _ t))
theorem Pick.imp {Γ cs Θ : List A} (u : Pick Γ cs Θ) : Imp Γ (cs ++ Θ) := by
  induction u with
  | nil => exact .refl _
  | cons h _ ih => exact (Imp.perm h.perm).trans (ih.cons _)
  | keep h p _ ih => exact fun F w t => ih.cons _ F w (Sat.dupMem h p t)

/- What the program's table says of types. -/
def szB (P : Program) (T : TypeId) : Option Nat := (P.info? T).map (·.size)
def faB (P : Program) (T f : Nat) : Option Nat := match P.underlying T with
  | some (.struct fs) => match fs[f]? with
    | some fl => match P.info? fl.type with
      | some i => match Nat.beq i.size 0 with
        | true => none
        | false => some fl.offset
      | none => none
    | none => none
  | _ => none
/-- 'none': a single cell; 'some n': a row of n cells. -/
def ldB (P : Program) (T : TypeId) : Option (Option Nat) := match P.underlying T with
  | some (.struct _) => (P.info? T).map fun i => some i.size
  | some (.array _ _) => (P.info? T).map fun i => some i.size
  | some _ => match P.info? T with
    | some i => match Nat.beq i.size 1 with
      | true => some none
      | false => none
    | none => none
  | none => none
def zB (P : Program) (T : TypeId) : Option Value := (P.info? T).bind (·.zero)
def slB (P : Program) (T : TypeId) : Option (TypeId × Nat) := match P.underlying T with
  | some (.slice e) => (P.info? e).map fun i => (e, i.size)
  | _ => none

theorem add_lit (b o k : Nat) : (⟨b, o, none⟩ : Addr).add k = ⟨b, o + k, none⟩ := by unfold Addr.add; split <;> simp_all

section
variable {P : Program} {s : St} {Γ Δ : List A} {d : Option Tmp} {ty : TypeId} {pos : String} {af : Array Edge} {g : Option (Nat × Bool)} {v u : Value} {x y z : Operand} {T : TypeId}

theorem run_info {i : TypeInfo} (h : P.info? T = some i) (w : World) : (typeInfo T).run P w = .ok i w := by simp [typeInfo, h]
theorem run_size {k : Nat} (h : szB P T = some k) (w : World) : (sizeOf T).run P w = .ok k w := by
  unfold szB at h
  cases e : P.info? T with
  | none => rw [e] at h; cases h
  | some i => rw [e] at h; simp at h; simp [sizeOf, typeInfo, e, h]

theorem q_move (h : ev s x = some v) : Q1 P ⟨d, .move x, ty, pos, af, g⟩ s Γ v := fun _ _ _ e _ => by simp [execOp, e _ _ h]
theorem q_assign (h : ev s x = some v) : Q1 P ⟨d, .assign x, ty, pos, af, g⟩ s Γ v := fun _ _ _ e _ => by simp [execOp, e _ _ h]
theorem q_pickT (hc : ev s x = some (.bool true)) (h : ev s y = some v) : Q1 P ⟨d, .pick x y z, ty, pos, af, g⟩ s Γ v := fun _ _ _ e _ => by simp [execOp, e _ _ hc, e _ _ h, asBool]
theorem q_pickF (hc : ev s x = some (.bool false)) (h : ev s z = some v) : Q1 P ⟨d, .pick x y z, ty, pos, af, g⟩ s Γ v := fun _ _ _ e _ => by simp [execOp, e _ _ hc, e _ _ h, asBool]
theorem q_nilP {a : Addr} (h : ev s x = some (.pointer (some a))) : Q1 P ⟨d, .nilCheck x, ty, pos, af, g⟩ s Γ (.pointer (some a)) := fun _ _ _ e _ => by simp [execOp, e _ _ h]
theorem q_nilF {f : FuncId} {p q : Array Value} (h : ev s x = some (.func (.func f) p q)) : Q1 P ⟨d, .nilCheck x, ty, pos, af, g⟩ s Γ (.func (.func f) p q) := fun _ _ _ e _ => by simp [execOp, e _ _ h]
theorem q_fa {b o f off : Nat} (hf : faB P T f = some off) (h : ev s x = some (.pointer (some ⟨b, o, none⟩))) : Q1 P ⟨d, .fieldAddr T x f, ty, pos, af, g⟩ s Γ (.pointer (some ⟨b, o + off, none⟩)) := fun _ w _ e _ => by
  unfold faB at hf
  cases e1 : P.underlying T with
  | none => rw [e1] at hf; cases hf
  | some D =>
    rw [e1] at hf
    cases D <;> simp only [reduceCtorEq] at hf
    rename_i fs
    cases e2 : fs[f]? with
    | none => rw [e2] at hf; cases hf
    | some fl =>
      rw [e2] at hf
      simp only at hf
      cases e3 : P.info? fl.type with
      | none => rw [e3] at hf; cases hf
      | some i =>
        rw [e3] at hf
        simp only at hf
        cases e4 : Nat.beq i.size 0 with
        | true => rw [e4] at hf; cases hf
        | false =>
          rw [e4] at hf
          simp at hf
          subst hf
          have h0 : i.size ≠ 0 := by intro e5; rw [e5] at e4; simp at e4
          simp [execOp, e _ _ h, Instr.fieldAt, Instr.sureAddr, underlying, e1, e2, fieldPlace, sizeOf, typeInfo, e3, h0, add_lit]
theorem isAgg_of {k : Option Nat} (h : ldB P T = some k) (w : World) : (isAgg T).run P w = .ok k.isSome w ∧ (∀ m, k = some m → szB P T = some m) ∧ (k = none → szB P T = some 1) := by
  unfold ldB at h
  cases e1 : P.underlying T with
  | none => rw [e1] at h; cases h
  | some D =>
    rw [e1] at h
    cases e2 : P.info? T with
    | none => rw [e2] at h; cases D <;> simp at h
    | some i =>
      rw [e2] at h
      have one : (match Nat.beq i.size 1 with | true => some (none : Option Nat) | false => none) = some k → k = none ∧ i.size = 1 := by
        intro h
        cases e3 : Nat.beq i.size 1 with
        | true => rw [e3] at h; simp at h; exact ⟨h.symm, Nat.eq_of_beq_eq_true e3⟩
        | false => rw [e3] at h; cases h
      cases D <;> simp only [Option.map_some, Option.some.injEq] at h <;> first
        | (subst h; simp [isAgg, underlying, e1, szB, e2])
        | (obtain ⟨rfl, h1⟩ := one h; simp [isAgg, underlying, e1, szB, e2, h1])
theorem q_load1 {p : Bool} {b o a i : Nat} {vs : List Value} (hT : ldB P T = some none) (hx : ev s x = some (.pointer (some ⟨b, a, none⟩))) (hm : cells p b o vs ∈ Γ) (ha : a = o + i) (hv : vs[i]? = some v) :
    Q1 P ⟨d, .load T x, ty, pos, af, g⟩ s Γ v := fun _ w _ e t => by
  obtain ⟨Θ, t⟩ := Sat.mem hm t
  have hc := t.cell hv
  have h1 := (isAgg_of hT w).1
  subst ha
  simp at h1
  simp [execOp, e _ _ hx, Instr.loadAt, Instr.sureAddr, loadVar, h1, load, Sem.run, hc]
theorem Sat.load {p : Bool} {b o : Nat} {vs : List Value} {F : A} {w : World} (t : Sat (cells p b o vs :: Γ) F w) (i : Nat) (us : List Value) (h : (vs.drop i).take us.length = us) :
    (loadCells ⟨b, o + i, none⟩ us.length).run P w = .ok us.toArray w := by
  refine run_loadCells_list _ _ us fun j v hv => ?_
  rw [add_lit, Nat.add_assoc]
  refine t.cell ?_
  have hj : j < us.length := (List.getElem?_eq_some_iff.1 hv).1
  rw [← h, List.getElem?_take, if_pos hj, List.getElem?_drop] at hv
  exact hv
theorem q_loadN {p : Bool} {b o a i k : Nat} {vs us : List Value} (hT : ldB P T = some (some k)) (hx : ev s x = some (.pointer (some ⟨b, a, none⟩))) (hm : cells p b o vs ∈ Γ) (ha : a = o + i) (hk : us.length = k)
    (hv : (vs.drop i).take k = us) : Q1 P ⟨d, .load T x, ty, pos, af, g⟩ s Γ (.agg us.toArray) := fun _ w _ e t => by
  obtain ⟨Θ, t⟩ := Sat.mem hm t
  obtain ⟨h1, h2, _⟩ := isAgg_of hT w
  subst ha hk
  have h3 := run_size (h2 _ rfl) w
  have h4 := t.load (P := P) i us hv
  simp at h1
  simp [execOp, e _ _ hx, Instr.loadAt, Instr.sureAddr, loadVar, h1, h3, h4]
theorem run_storeCells {b o : Nat} : ∀ (us : List Value) (i k : Nat) {vs : List Value} {F : A} {w : World}, (∀ u ∈ us, u.oneCell' = true) → i + k + us.length ≤ vs.length → Sat (cells true b o vs :: Γ) F w →
    ∃ w', (storeCells ⟨b, o + i, none⟩ us k).run P w = .ok () w' ∧ Sat (cells true b o (vs.take (i + k) ++ us ++ vs.drop (i + k + us.length)) :: Γ) F w' ∧ Adv w w'
  | [], i, k, vs, F, w, _, _, t => ⟨w, by simp [storeCells], by simpa using t, .refl w⟩
  | u :: us, i, k, vs, F, w, h1, hl, t => by
    have hi : i + k < vs.length := by simp at hl; omega
    have t' := t.store (v := u) hi
    obtain ⟨w', hr, t'', ad⟩ := run_storeCells us i (k + 1) (vs := vs.set (i + k) u) (fun x hx => h1 x (by simp [hx])) (by simp at hl ⊢; omega) t'
    refine ⟨w', ?_, ?_, (Adv.setCell w _ _).trans ad⟩
    · have hc := t.cell (i := i + k) (v := vs[i + k]) (by simp [hi])
      have hz := t.unfrozen (i := i + k) hi
      have hs := run_store P w ⟨b, o + (i + k), none⟩ u .plain (h1 u (by simp))
      rw [hc] at hs
      simp only [hz, Bool.false_eq_true, if_false] at hs
      simp only [storeCells, add_lit, Sem.run_bind, Nat.add_assoc] at hr ⊢
      rw [hs]
      exact hr
    · have e : List.take (i + (k + 1)) (vs.set (i + k) u) ++ us ++ List.drop (i + (k + 1) + us.length) (vs.set (i + k) u) = List.take (i + k) vs ++ u :: us ++ List.drop (i + k + (u :: us).length) vs := by
        rw [List.drop_set_of_lt (by omega), show i + (k + 1) = i + k + 1 by omega, List.take_succ_eq_append_getElem (by simpa using hi)]
        simp only [List.getElem_set_self, List.take_set_of_le (Nat.le_refl _), List.length_cons, List.append_assoc, List.cons_append, List.nil_append]
        rw [show i + k + (us.length + 1) = i + k + 1 + us.length by omega]
      rw [e] at t''
      exact t''
theorem s_store1 {b o a i : Nat} {vs vs' : List Value} (hT : szB P T = some 1) (hx : ev s x = some (.pointer (some ⟨b, a, none⟩))) (hy : ev s y = some u) (hu : u.oneCell' = true) (hc : u.cells = #[u])
    (ha : a = o + i) (hv : SetAt vs i u vs') (hm : Upd Γ (cells true b o vs) (cells true b o vs') Δ) : S1 P ⟨d, .store T x y, ty, pos, af, g⟩ s Γ Δ := fun F w ρ e t => by
  obtain ⟨Θ, t1, t2⟩ := hm.sat t
  obtain ⟨hi, rfl⟩ := hv.set
  have hs := run_size hT w
  subst ha
  obtain ⟨w', hr, t', ad⟩ := run_storeCells (P := P) [u] i 0 (by simpa using hu) (by simp; omega) t1
  refine ⟨w', ?_, t2 w' ?_, ad⟩
  · simp [execOp, e _ _ hx, e _ _ hy, Instr.storeAt, Instr.sureAddr, storeVar, hs, hc, hr]
  · have : List.take (i + 0) vs ++ [u] ++ List.drop (i + 0 + [u].length) vs = vs.set i u := by
      rw [List.set_eq_take_append_cons_drop, if_pos hi]; simp
    rw [this] at t'; exact t'
theorem s_storeN {b o a i k : Nat} {vs us : List Value} (hT : szB P T = some k) (hx : ev s x = some (.pointer (some ⟨b, a, none⟩))) (hy : ev s y = some (.agg us.toArray)) (hu : ∀ u ∈ us, u.oneCell' = true) (hk : us.length = k)
    (ha : a = o + i) (hl : i + k ≤ vs.length) (hm : Upd Γ (cells true b o vs) (cells true b o (vs.take i ++ us ++ vs.drop (i + k))) Δ) : S1 P ⟨d, .store T x y, ty, pos, af, g⟩ s Γ Δ := fun F w ρ e t => by
  obtain ⟨Θ, t1, t2⟩ := hm.sat t
  have hs := run_size hT w
  subst ha hk
  obtain ⟨w', hr, t', ad⟩ := run_storeCells (P := P) us i 0 hu (by simpa using hl) t1
  refine ⟨w', ?_, t2 w' ?_, ad⟩
  · simp [execOp, e _ _ hx, e _ _ hy, Instr.storeAt, Instr.sureAddr, storeVar, hs, Value.cells, hr]
  · simpa using t'
/-- New memory. -/
def newR (Γ : List A) (vs : List Value) (f : Nat → Value) : Value → List A → Prop := fun v Δ => ∃ b, v = f b ∧ Δ = cells true b 0 vs :: Γ
theorem e_box {v : Value} (hx : ev s x = some v) : E1 P ⟨d, .box T x, ty, pos, af, g⟩ s Γ (newR Γ v.cells.toList fun b => .pointer (some ⟨b, 0, none⟩)) := fun F w ρ e t =>
  ⟨_, _, w.alloc (.cells v.cells T), by simp [execOp, e _ _ hx, Instr.box, newVar, newRow], ⟨w.heap.size, rfl, rfl⟩, t.alloc v.cells T, .alloc w _⟩
theorem e_alloc {z : Value} (hz : zB P T = some z) : E1 P ⟨d, .alloc T, ty, pos, af, g⟩ s Γ (newR Γ z.cells.toList fun b => .pointer (some ⟨b, 0, none⟩)) := fun F w ρ e t => by
  refine ⟨_, _, w.alloc (.cells z.cells T), ?_, ⟨w.heap.size, rfl, rfl⟩, t.alloc z.cells T, .alloc w _⟩
  have hz' : (zeroValue T).run P w = .ok z w := by
    unfold zB at hz
    cases e1 : P.info? T with
    | none => rw [e1] at hz; cases hz
    | some i => rw [e1] at hz; simp at hz; simp [zeroValue, typeInfo, e1, hz]
  simp [execOp, Instr.alloc, hz', newVar, newRow]
def ints (k : IntKind) (op : BinOp) (a b : Int) : Option Value := match op with
  | .add => some (.int k (k.wrap (a + b)))
  | .sub => some (.int k (k.wrap (a - b)))
  | .mul => some (.int k (k.wrap (a * b)))
  | .eql => some (.bool (a == b))
  | .neq => some (.bool (a != b))
  | .lss => some (.bool (decide (a < b)))
  | .leq => some (.bool (decide (a ≤ b)))
  | .gtr => some (.bool (decide (a > b)))
  | .geq => some (.bool (decide (a ≥ b)))
  | _ => none
theorem q_int {op : BinOp} {T' : TypeId} {k : IntKind} {a b : Int} (hx : ev s x = some (.int k a)) (hy : ev s y = some (.int k b)) (hv : ints k op a b = some v) : Q1 P ⟨d, .binOp op T x y T', ty, pos, af, g⟩ s Γ v := fun _ _ _ e _ => by
  cases op <;> simp [ints] at hv <;> subst hv <;> simp [execOp, e _ _ hx, e _ _ hy, eqGuard, binOp, Op.intArith, Op.intCmp]
theorem q_bits {op : BinOp} {T' : TypeId} {k : IntKind} {a b : Int} (hx : ev s x = some (.int k a)) (hy : ev s y = some (.int k b)) (ho : op = .and ∨ op = .or ∨ op = .xor ∨ op = .andNot)
    (hv : ∀ w, (Op.intBits op k a b).run P w = .ok v w) : Q1 P ⟨d, .binOp op T x y T', ty, pos, af, g⟩ s Γ v := fun _ w _ e _ => by
  have := hv w
  rcases ho with rfl | rfl | rfl | rfl <;> simp [execOp, e _ _ hx, e _ _ hy, eqGuard, binOp, this]
theorem q_quo {T' : TypeId} {k : IntKind} {a b : Int} (hx : ev s x = some (.int k a)) (hy : ev s y = some (.int k b)) (hb : b ≠ 0) : Q1 P ⟨d, .binOp .quo T x y T', ty, pos, af, g⟩ s Γ (.int k (k.wrap (a.tdiv b))) := fun _ _ _ e _ => by
  simp [execOp, e _ _ hx, e _ _ hy, eqGuard, binOp, Op.intDiv, hb]
theorem q_rem {T' : TypeId} {k : IntKind} {a b : Int} (hx : ev s x = some (.int k a)) (hy : ev s y = some (.int k b)) (hb : b ≠ 0) : Q1 P ⟨d, .binOp .rem T x y T', ty, pos, af, g⟩ s Γ (.int k (a.tmod b)) := fun _ _ _ e _ => by
  simp [execOp, e _ _ hx, e _ _ hy, eqGuard, binOp, Op.intDiv, hb]
theorem q_shl {T' : TypeId} {k k' : IntKind} {a b : Int} (hx : ev s x = some (.int k a)) (hy : ev s y = some (.int k' b)) (hb : 0 ≤ b) : Q1 P ⟨d, .binOp .shl T x y T', ty, pos, af, g⟩ s Γ (.int k (k.wrap (a * 2 ^ min b.toNat k.bits))) := fun _ _ _ e _ => by
  simp [execOp, e _ _ hx, e _ _ hy, eqGuard, binOp, Op.shift, Int.not_lt.2 hb]
theorem q_shr {T' : TypeId} {k k' : IntKind} {a b : Int} (hx : ev s x = some (.int k a)) (hy : ev s y = some (.int k' b)) (hb : 0 ≤ b) : Q1 P ⟨d, .binOp .shr T x y T', ty, pos, af, g⟩ s Γ (.int k (a.fdiv (2 ^ min b.toNat k.bits))) := fun _ _ _ e _ => by
  simp [execOp, e _ _ hx, e _ _ hy, eqGuard, binOp, Op.shift, Int.not_lt.2 hb]
theorem q_strCat {T' : TypeId} {a b : ByteArray} (hx : ev s x = some (.string a)) (hy : ev s y = some (.string b)) (hb : a.size + b.size ≤ 9223372036854775807) : Q1 P ⟨d, .binOp .add T x y T', ty, pos, af, g⟩ s Γ (.string (a ++ b)) := fun _ _ _ e _ => by
  simp [execOp, e _ _ hx, e _ _ hy, eqGuard, binOp, Op.stringOp]; omega
theorem q_strEq {T' : TypeId} {a b : ByteArray} (hx : ev s x = some (.string a)) (hy : ev s y = some (.string b)) : Q1 P ⟨d, .binOp .eql T x y T', ty, pos, af, g⟩ s Γ (.bool (a.toList == b.toList)) := fun _ _ _ e _ => by
  simp [execOp, e _ _ hx, e _ _ hy, eqGuard, binOp, Op.stringOp]
theorem q_not {b : Bool} (hx : ev s x = some (.bool b)) : Q1 P ⟨d, .unOp .not T x, ty, pos, af, g⟩ s Γ (.bool (!b)) := fun _ _ _ e _ => by simp [execOp, e _ _ hx, Op.unary]
theorem q_neg {k : IntKind} {a : Int} (hx : ev s x = some (.int k a)) : Q1 P ⟨d, .unOp .neg T x, ty, pos, af, g⟩ s Γ (.int k (k.wrap (0 - a))) := fun _ _ _ e _ => by simp [execOp, e _ _ hx, Op.unary, Op.intArith]
theorem q_com {k : IntKind} {a : Int} (hx : ev s x = some (.int k a)) (hv : ∀ w, (Op.intBits .xor k (if k.signed then -1 else k.max) a).run P w = .ok v w) : Q1 P ⟨d, .unOp .xor T x, ty, pos, af, g⟩ s Γ v := fun _ w _ e _ => by
  have := hv w
  simp [execOp, e _ _ hx, Op.unary, this]
def intB (P : Program) (T : TypeId) : Option IntKind := match P.underlying T with
  | some (.int k) => some k
  | _ => none
theorem intB_of {k : IntKind} (h : intB P T = some k) : P.underlying T = some (.int k) := by
  unfold intB at h
  split at h
  · rename_i k' e; simp at h; rw [e, h]
  · cases h
theorem q_conv {T' : TypeId} {k k' : IntKind} {a : Int} (h1 : intB P T = some k) (h2 : intB P T' = some k') (hx : ev s x = some (.int k a)) : Q1 P ⟨d, .convert T T' x, ty, pos, af, g⟩ s Γ (.int k' (k'.wrap a)) := fun _ _ _ e _ => by
  simp [execOp, e _ _ hx, convert, underlying, intB_of h1, intB_of h2, Conv.intToInt]
theorem q_extract {i : Nat} {vs : Array Value} (hx : ev s x = some (.tuple vs)) (hv : vs[i]? = some v) : Q1 P ⟨d, .extract x i, ty, pos, af, g⟩ s Γ v := fun _ _ _ e _ => by simp [execOp, e _ _ hx, Instr.extract, hv]
def evA (s : St) (xs : Array Operand) : Option (List Value) := evs s xs.toList
theorem EvOk.arr {ρ : Operand → Value} (h : EvOk s ρ) {xs : Array Operand} {vs : List Value} (e : evs s xs.toList = some vs) : xs.map ρ = vs.toArray := by
  have := h.list e
  apply Array.ext'
  simpa using this
theorem q_func {fn : Fn} {xs ys : List Operand} {vs us : List Value} (h1 : evs s xs = some vs) (h2 : evs s ys = some us) : Q1 P ⟨d, .makeFunc fn xs.toArray ys.toArray, ty, pos, af, g⟩ s Γ (.func fn vs.toArray us.toArray) := fun _ _ _ e _ => by
  simp [execOp, Instr.makeFunc, e.list h1, e.list h2]
theorem c_call {f : FuncId} {xs : List Operand} {ts : Array TypeId} {vs : List Value} {fn : Func} {c : Code} (hf : P.funcs[f]? = some fn) (hb : fn.body = some c) (hn : (fn.name == "runtime.NumGoroutine") = false) (h : evs s xs = some vs) :
    C1 P ⟨d, .call { callee := .value (.func f), args := xs.toArray, argTypes := ts }, ty, pos, af, g⟩ s f vs.toArray := fun w ρ e => by
  have e1 := e.list h
  have e2 : ρ (.func f) = .func (.func f) #[] #[] := e _ _ rfl
  simp only [beq_eq_false_iff_ne, ne_eq] at hn
  simp [execOp, resolve, e2, Deferred.ofValue, invoke, callFunc, hf, hb, hn, e1]
theorem c_callV {f : FuncId} {xs : List Operand} {ts : Array TypeId} {vs : List Value} {p q : Array Value} {fn : Func} {c : Code} (hx : ev s x = some (.func (.func f) p q)) (hf : P.funcs[f]? = some fn) (hb : fn.body = some c) (hn : (fn.name == "runtime.NumGoroutine") = false)
    (h : evs s xs = some vs) : C1 P ⟨d, .call { callee := .value x, args := xs.toArray, argTypes := ts }, ty, pos, af, g⟩ s f (p ++ vs.toArray ++ q) := fun w ρ e => by
  have e1 := e.list h
  simp only [beq_eq_false_iff_ne, ne_eq] at hn
  simp [execOp, resolve, e _ _ hx, Deferred.ofValue, invoke, callFunc, hf, hb, hn, e1]
/- The builtins that read no memory. -/
theorem q_len {a : Option Addr} {m c : Nat} {ts : Array TypeId} {e : TypeId} (ht : ts[0]? = some T) (hT : P.underlying T = some (.slice e)) (hx : ev s x = some (.slice a m c)) :
    Q1 P ⟨d, .call { callee := .builtin .len, args := #[x], argTypes := ts }, ty, pos, af, g⟩ s Γ (.int .i64 m) := fun _ _ _ e _ => by
  simp [execOp, resolve, invoke, builtin, Builtin.len_, ht, underlying, hT, e _ _ hx, goInt]
theorem q_lenS {b : ByteArray} {ts : Array TypeId} (ht : ts[0]? = some T) (hT : P.underlying T = some .string) (hx : ev s x = some (.string b)) :
    Q1 P ⟨d, .call { callee := .builtin .len, args := #[x], argTypes := ts }, ty, pos, af, g⟩ s Γ (.int .i64 b.size) := fun _ _ _ e _ => by
  simp [execOp, resolve, invoke, builtin, Builtin.len_, ht, underlying, hT, e _ _ hx, goInt]
end
end Go.Sl
