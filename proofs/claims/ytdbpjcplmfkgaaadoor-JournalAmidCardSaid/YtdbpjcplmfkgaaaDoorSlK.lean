/- Separation logic over the model's code: slices cut at their ends, predicates packed. -/
import Derived.Test.YtdbpjcplmfkgaaaDoorSlJ
namespace Go.Sl
open Go Go.RowKit
section
variable {P : Program} {n : Nat} {s : St} {Γ Δ Θ : List A} {d : Option Tmp} {ty : TypeId} {pos : String} {af : Array Edge} {g : Option (Nat × Bool)} {v u : Value} {x y z : Operand} {T : TypeId}

theorem Sok.none0 {sz : Nat} {a : Option Addr} {n c : Nat} {cs : List Value} (h : Sok sz a n c cs) (hz : 0 < sz) : a = none → n = 0 := by
  intro e
  rcases Nat.eq_zero_or_pos n with h0 | h0
  · exact h0
  · have := h.at h0 hz; rw [e] at this; simp at this
/-- x[lo:], something left of the room. -/
theorem q_sliceLo {el sz : Nat} {a : Option Addr} {m c l : Nat} {lo : Operand} {k : IntKind} (hT : slB P T = some (el, sz)) (hx : ev s x = some (.slice a m c)) (hl : ev s lo = some (.int k (l : Int))) (ha : Pl a) (h1 : l ≤ m) (h2 : m ≤ c) (h3 : l < c) :
    Q1 P ⟨d, .slice T x (some lo) none none, ty, pos, af, g⟩ s Γ (.slice (some ⟨blk a, off a + l * sz, none⟩) (m - l) (c - l)) := by
  have := q_slice (P := P) (lo := some lo) (d := d) (ty := ty) (pos := pos) (af := af) (g := g) (Γ := Γ) (l := some (l : Int)) (h := none) (m := none) (hi := none) (mx := none) hT hx (by simp [optV, hl]) rfl rfl (by simp) (by simp; omega) (by simp; omega) (by simp) (by simp)
  simp only [Option.getD_none, Option.getD_some, Int.toNat_natCast] at this
  rwa [cut_pl ha (by omega)] at this
/-- x[lo:], of any slice. -/
theorem q_sliceLoC {el sz : Nat} {a : Option Addr} {m c l : Nat} {lo : Operand} {k : IntKind} (hT : slB P T = some (el, sz)) (hx : ev s x = some (.slice a m c)) (hl : ev s lo = some (.int k (l : Int))) (h1 : l ≤ m) (h2 : m ≤ c) :
    Q1 P ⟨d, .slice T x (some lo) none none, ty, pos, af, g⟩ s Γ (.slice (cut a c l (l * sz)) (m - l) (c - l)) := by
  have := q_slice (P := P) (lo := some lo) (d := d) (ty := ty) (pos := pos) (af := af) (g := g) (Γ := Γ) (l := some (l : Int)) (h := none) (m := none) (hi := none) (mx := none) hT hx (by simp [optV, hl]) rfl rfl (by simp) (by simp; omega) (by simp; omega) (by simp) (by simp)
  simpa only [Option.getD_none, Option.getD_some, Int.toNat_natCast] using this
/-- x[:hi] -/
theorem q_sliceHi {el sz : Nat} {a : Option Addr} {m c j : Nat} {hi : Operand} {k : IntKind} (hT : slB P T = some (el, sz)) (hx : ev s x = some (.slice a m c)) (hh : ev s hi = some (.int k (j : Int))) (h1 : j ≤ c) :
    Q1 P ⟨d, .slice T x none (some hi) none, ty, pos, af, g⟩ s Γ (.slice a j c) := by
  have := q_slice (P := P) (hi := some hi) (d := d) (ty := ty) (pos := pos) (af := af) (g := g) (Γ := Γ) (l := none) (h := some (j : Int)) (m := none) (lo := none) (mx := none) hT hx rfl (by simp [optV, hh]) rfl (by simp) (by simp) (by simp; omega) (by simp) (by simp)
  simp only [Option.getD_none, Option.getD_some, Int.toNat_natCast, Int.toNat_zero, Nat.zero_mul, Nat.sub_zero] at this
  rwa [cut_zero] at this
/-- x[:hi:mx] -/
theorem q_sliceHiM {el sz : Nat} {a : Option Addr} {m c j r : Nat} {hi mx : Operand} {k k' : IntKind} (hT : slB P T = some (el, sz)) (hx : ev s x = some (.slice a m c)) (hh : ev s hi = some (.int k (j : Int))) (hm : ev s mx = some (.int k' (r : Int))) (h1 : j ≤ r) (h2 : r ≤ c) :
    Q1 P ⟨d, .slice T x none (some hi) (some mx), ty, pos, af, g⟩ s Γ (.slice a j r) := by
  have := q_slice (P := P) (hi := some hi) (mx := some mx) (d := d) (ty := ty) (pos := pos) (af := af) (g := g) (Γ := Γ) (l := none) (h := some (j : Int)) (m := some (r : Int)) (lo := none) hT hx rfl (by simp [optV, hh]) (by simp [optV, hm]) (by simp) (by simp) (by simp; omega) (by simp; omega) (by simp)
  simp only [Option.getD_none, Option.getD_some, Int.toNat_natCast, Int.toNat_zero, Nat.zero_mul, Nat.sub_zero] at this
  rwa [cut_zero] at this
/-- x[lo:hi], of any slice. -/
theorem q_sliceLH {el sz : Nat} {a : Option Addr} {m c l j : Nat} {lo hi : Operand} {k k' : IntKind} (hT : slB P T = some (el, sz)) (hx : ev s x = some (.slice a m c)) (hl : ev s lo = some (.int k (l : Int))) (hh : ev s hi = some (.int k' (j : Int))) (h1 : l ≤ j) (h2 : j ≤ c) :
    Q1 P ⟨d, .slice T x (some lo) (some hi) none, ty, pos, af, g⟩ s Γ (.slice (cut a c l (l * sz)) (j - l) (c - l)) := by
  have := q_slice (P := P) (lo := some lo) (hi := some hi) (d := d) (ty := ty) (pos := pos) (af := af) (g := g) (Γ := Γ) (l := some (l : Int)) (h := some (j : Int)) (m := none) (mx := none) hT hx (by simp [optV, hl]) (by simp [optV, hh]) rfl (by simp) (by simp; omega) (by simp; omega) (by simp) (by simp)
  simpa only [Option.getD_none, Option.getD_some, Int.toNat_natCast] using this
variable {Q : Exit → St → List A → Prop} {ops : Array Oper} {K : St → List A → Prop} {f : Nat} {lk : SLocks} {listed : Array Bool}
/-- A slice of one's own, kept for reading alone. -/
theorem WPC.bufRo {c : Code} {sz m k : Nat} {a : Option Addr} {cs : List Value} (h : Sok sz a m k cs → WPC P n c s (sl false a cs :: Γ) Q) : WPC P n c s (buf sz a m k cs :: Γ) Q := WPC.imp Imp.bufRo (WPC.pure h)
theorem WPL.bufRo {l : List Oper} {sz m k : Nat} {a : Option Addr} {cs : List Value} (h : Sok sz a m k cs → WPL P n ops l s (sl false a cs :: Γ) K) : WPL P n ops l s (buf sz a m k cs :: Γ) K := WPL.imp Imp.bufRo (WPL.pure h)
theorem WPA.bufRo {sz m k : Nat} {a : Option Addr} {cs : List Value} (h : Sok sz a m k cs → WPA P n ops f lk listed s (sl false a cs :: Γ) K) : WPA P n ops f lk listed s (buf sz a m k cs :: Γ) K := WPA.imp Imp.bufRo (WPA.pure h)
theorem WPC.bufSl {c : Code} {sz m k : Nat} {a : Option Addr} {cs : List Value} (h : Sok sz a m k cs → WPC P n c s (sl true a cs :: Γ) Q) : WPC P n c s (buf sz a m k cs :: Γ) Q := WPC.imp Imp.bufSl (WPC.pure h)
theorem WPL.bufSl {l : List Oper} {sz m k : Nat} {a : Option Addr} {cs : List Value} (h : Sok sz a m k cs → WPL P n ops l s (sl true a cs :: Γ) K) : WPL P n ops l s (buf sz a m k cs :: Γ) K := WPL.imp Imp.bufSl (WPL.pure h)
theorem WPA.bufSl {sz m k : Nat} {a : Option Addr} {cs : List Value} (h : Sok sz a m k cs → WPA P n ops f lk listed s (sl true a cs :: Γ) K) : WPA P n ops f lk listed s (buf sz a m k cs :: Γ) K := WPA.imp Imp.bufSl (WPA.pure h)
theorem WPL.putS {l : List Oper} {ds : List Deferred} {env : List (Nat × Value)} {d : Nat} {v : Value} (h : WPL P n ops l ⟨ds, (d, v) :: env⟩ Γ K) : WPL P n ops l (St.put ⟨ds, env⟩ (some d) v) Γ K := h
theorem WPL.putN {l : List Oper} {v : Value} (h : WPL P n ops l s Γ K) : WPL P n ops l (St.put s none v) Γ K := h
theorem WPA.putS {ds : List Deferred} {env : List (Nat × Value)} {d : Nat} {v : Value} (h : WPA P n ops f lk listed ⟨ds, (d, v) :: env⟩ Γ K) : WPA P n ops f lk listed (St.put ⟨ds, env⟩ (some d) v) Γ K := h
theorem WPA.putN {v : Value} (h : WPA P n ops f lk listed s Γ K) : WPA P n ops f lk listed (St.put s none v) Γ K := h
theorem WPC.midS {c c' : Code} (M : List (Nat × Value) → List A → Prop) (h : WPC P n c s Γ (thenQ (fun s' Γ' => s'.ds = s.ds ∧ ∃ e Γ'', M e Γ'' ∧ SubE e s'.env ∧ Imp Γ' Γ'') Q)) (k : ∀ e Γ, M e Γ → WPC P n c' ⟨s.ds, e⟩ Γ Q) : WPC P n c s Γ (thenQ (fun s Γ => WPC P n c' s Γ Q) Q) :=
  WPC.mono h fun e s' Γ' q => by
    cases e with
    | normal => obtain ⟨hd, e, _, hM, hs, hi⟩ := q; exact WPC.imp hi (WPC.env e hs (hd ▸ k e _ hM))
    | _ => exact q
/-- A slice of one's own, opened for a while. -/
theorem WPL.bufOpen {l : List Oper} {sz m k : Nat} {a : Option Addr} {cs : List Value} (h : ∀ sp : List Value, Sok sz a m k cs → sp.length = (k - m) * sz ∧ (Pl a ∨ k = 0) → WPL P n ops l s (sl true a cs :: cells true (blk a) (off a + cs.length) sp :: Γ) K) : WPL P n ops l s (buf sz a m k cs :: Γ) K := fun F w ac o t => by
  obtain ⟨h1, sp, h2, t⟩ := Sat.buf.1 t
  exact h sp h1 h2 F w ac o (Imp.split true (blk a) (off a) cs sp Γ F w t)
theorem WPC.bufOpen {c : Code} {sz m k : Nat} {a : Option Addr} {cs : List Value} (h : ∀ sp : List Value, Sok sz a m k cs → sp.length = (k - m) * sz ∧ (Pl a ∨ k = 0) → WPC P n c s (sl true a cs :: cells true (blk a) (off a + cs.length) sp :: Γ) Q) : WPC P n c s (buf sz a m k cs :: Γ) Q := fun F w ac o t => by
  obtain ⟨h1, sp, h2, t⟩ := Sat.buf.1 t
  exact h sp h1 h2 F w ac o (Imp.split true (blk a) (off a) cs sp Γ F w t)
theorem Imp.bufClose {sz m k : Nat} {a : Option Addr} {cs sp : List Value} {Γ : List A} (h1 : Sok sz a m k cs) (h2 : sp.length = (k - m) * sz ∧ (Pl a ∨ k = 0)) : Imp (sl true a cs :: cells true (blk a) (off a + cs.length) sp :: Γ) (buf sz a m k cs :: Γ) :=
  fun F w t => Sat.buf.2 ⟨h1, sp, h2, Imp.join true (blk a) (off a) cs sp Γ F w t⟩
theorem bufSok {sz m k : Nat} {a : Option Addr} {cs : List Value} (hm : buf sz a m k cs ∈ Γ) {F : A} {w : World} (t : Sat Γ F w) : Sok sz a m k cs := by
  obtain ⟨_, t⟩ := t.mem hm
  exact (Sat.buf.1 t).1
theorem Trip.bufFact {fi : FuncId} {args : Array Value} {R : Value → List A → Prop} {sz m k : Nat} {a : Option Addr} {cs : List Value} (hm : buf sz a m k cs ∈ Γ) (h : Sok sz a m k cs → Trip P fi args Γ R) : Trip P fi args Γ R := fun F w t => h (bufSok hm t) F w t
theorem WPC.bufFact {c : Code} {sz m k : Nat} {a : Option Addr} {cs : List Value} (hm : buf sz a m k cs ∈ Γ) (h : Sok sz a m k cs → WPC P n c s Γ Q) : WPC P n c s Γ Q := fun F w ac o t => h (bufSok hm t) F w ac o t
theorem WPL.bufFact {l : List Oper} {sz m k : Nat} {a : Option Addr} {cs : List Value} (hm : buf sz a m k cs ∈ Γ) (h : Sok sz a m k cs → WPL P n ops l s Γ K) : WPL P n ops l s Γ K := fun F w ac o t => h (bufSok hm t) F w ac o t
theorem WPA.bufFact {sz m k : Nat} {a : Option Addr} {cs : List Value} (hm : buf sz a m k cs ∈ Γ) (h : Sok sz a m k cs → WPA P n ops f lk listed s Γ K) : WPA P n ops f lk listed s Γ K := fun F w0 w ac ad o t hc => h (bufSok hm t) F w0 w ac ad o t hc
theorem Rd.ofBuf {sz m k : Nat} {a : Option Addr} {cs : List Value} (hz : 0 < sz) (h : Sok sz a m k cs) (hm : buf sz a m k cs ∈ Γ) : Rd P sz Γ (.slice a m k) m cs :=
  ⟨⟨a, k, rfl⟩, h.len, fun F w t => by
    obtain ⟨_, t⟩ := t.mem hm
    obtain ⟨h1, sp, h2, t⟩ := Sat.buf.1 t
    exact run_first h1 (Imp.split true (blk a) (off a) cs sp _ F w t) (h1.none0 hz)⟩
/-- A contract's fact on a group. -/
theorem Trip.grp {k : FuncId} {args : Array Value} {L : List A} {R : Value → List A → Prop} (h : Trip P k args (L ++ Γ) R) : Trip P k args (grp L :: Γ) R := Trip.imp (fun _ _ t => Sat.grp.1 t) h
theorem WPC.grp {c : Code} {L : List A} (h : WPC P n c s (L ++ Γ) Q) : WPC P n c s (Sl.grp L :: Γ) Q := WPC.imp (fun _ _ t => Sat.grp.1 t) h
theorem WPL.grp {l : List Oper} {L : List A} (h : WPL P n ops l s (L ++ Γ) K) : WPL P n ops l s (Sl.grp L :: Γ) K := WPL.imp (fun _ _ t => Sat.grp.1 t) h
theorem WPA.grp {L : List A} (h : WPA P n ops f lk listed s (L ++ Γ) K) : WPA P n ops f lk listed s (Sl.grp L :: Γ) K := WPA.imp (fun _ _ t => Sat.grp.1 t) h
theorem Imp.mkGrp {L : List A} {Γ : List A} : Imp (L ++ Γ) (Sl.grp L :: Γ) := fun _ _ t => Sat.grp.2 t
theorem Imp.unGrp {L : List A} {Γ : List A} : Imp (Sl.grp L :: Γ) (L ++ Γ) := fun _ _ t => Sat.grp.1 t
theorem Imp.headRo {p : Bool} {b o : Nat} {xs ys : List Value} {Γ : List A} : Imp (cells p b o (xs ++ ys) :: Γ) (cells false b o xs :: Γ) := by
  refine (Imp.split p b o xs ys Γ).trans ((Imp.perm (.swap _ _ _)).trans ((Imp.drop _ _).trans ?_))
  cases p
  · exact .refl _
  · exact Imp.freeze _ _ _ _
theorem Imp.pu {φ : Prop} {Γ : List A} (h : φ) : Imp Γ (Sl.pu φ :: Γ) := fun _ _ t => Sat.pure.2 ⟨h, t⟩
end
/- Plain facts on lists. -/
theorem take_set_succ {α : Type} {xs : List α} {k : Nat} {e : α} (h : k < xs.length) : (xs.set k e).take (k + 1) = xs.take k ++ [e] := by
  rw [take_succ (e := e) (by simp [h]), List.take_set_of_le (Nat.le_refl _)]
theorem flat_snoc {α β : Type} (f : α → List β) (xs : List α) (e : α) : (xs ++ [e]).flatMap f = xs.flatMap f ++ f e := by simp [List.flatMap_append]
theorem all_eq_replicate {α : Type} {xs : List α} {n : Nat} {v : α} (hl : xs.length = n) (h : xs.take n = List.replicate n v) : xs = List.replicate n v := by
  subst hl; rwa [List.take_length] at h
theorem take_set_rep {α : Type} {xs : List α} {k : Nat} {v : α} (hk : k < xs.length) (h : xs.take k = List.replicate k v) : (xs.set k v).take (k + 1) = List.replicate (k + 1) v := by
  rw [take_set_succ hk, h, List.replicate_succ']
theorem filter_take_succ {α : Type} {xs : List α} {k : Nat} {e : α} (f : α → Bool) (h : xs[k]? = some e) : (xs.take (k + 1)).filter f = (xs.take k).filter f ++ (if f e then [e] else []) := by
  rw [take_succ h, List.filter_append]; congr 1; simp [List.filter_cons]
end Go.Sl
