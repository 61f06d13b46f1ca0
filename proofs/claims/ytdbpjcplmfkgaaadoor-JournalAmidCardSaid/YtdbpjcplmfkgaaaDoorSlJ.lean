/- Separation logic over the model's code: stores into mapped and flattened lists, clear, slices cut. -/
import Derived.Test.YtdbpjcplmfkgaaaDoorSlI
namespace Go.Sl
open Go Go.RowKit
section
variable {P : Program} {n : Nat} {s : St} {Γ Δ Θ : List A} {d : Option Tmp} {ty : TypeId} {pos : String} {af : Array Edge} {g : Option (Nat × Bool)} {v u : Value} {x y z : Operand} {T : TypeId}

theorem s_storeMap {α : Type} {b o i : Nat} {xs : List α} {f : α → Value} {e : α} (hT : szB P T = some 1) (hx : ev s x = some (.pointer (some ⟨b, o + i * 1, none⟩))) (hy : ev s y = some (f e)) (hu : (f e).oneCell' = true) (hc : (f e).cells = #[f e]) (hi : i < xs.length)
    (hm : Upd Γ (cells true b o (xs.map f)) (cells true b o ((xs.set i e).map f)) Δ) : S1 P ⟨d, .store T x y, ty, pos, af, g⟩ s Γ Δ := by
  rw [List.map_set] at hm
  rw [Nat.mul_one] at hx
  intro F w ρ ee t
  obtain ⟨Θ, t1, t2⟩ := hm.sat t
  have hs := run_size hT w
  have hl : i < (xs.map f).length := by simpa using hi
  obtain ⟨w', hr, t', ad⟩ := run_storeCells (P := P) [f e] i 0 (by simpa using hu) (by simp; omega) t1
  refine ⟨w', ?_, t2 w' ?_, ad⟩
  · simp [execOp, ee _ _ hx, ee _ _ hy, Instr.storeAt, Instr.sureAddr, storeVar, hs, hc, hr]
  · have : List.take (i + 0) (xs.map f) ++ [f e] ++ List.drop (i + 0 + [f e].length) (xs.map f) = (xs.map f).set i (f e) := by
      rw [List.set_eq_take_append_cons_drop, if_pos hl]; simp
    rw [this] at t'; exact t'
theorem flat_set {α : Type} {enc : α → List Value} {k : Nat} (hk : ∀ x, (enc x).length = k) : ∀ (xs : List α) (i : Nat) (e : α), i < xs.length → (xs.flatMap enc).take (i * k) ++ enc e ++ (xs.flatMap enc).drop (i * k + k) = (xs.set i e).flatMap enc
  | [], i, e, h => by simp at h
  | y :: ys, 0, e, _ => by
    simp [List.flatMap_cons, List.drop_append, hk, List.drop_eq_nil_of_le]
  | y :: ys, i + 1, e, h => by
    have := flat_set hk ys i e (by simpa using h)
    rw [List.set_cons_succ, List.flatMap_cons, List.flatMap_cons, ← this]
    have h1 : (i + 1) * k = (enc y).length + i * k := by rw [hk, Nat.succ_mul]; omega
    rw [h1, List.take_append, List.drop_append]
    have h2 : (enc y).take ((enc y).length + i * k) = enc y := List.take_of_length_le (by omega)
    have h3 : (enc y).drop ((enc y).length + i * k + k) = [] := List.drop_eq_nil_of_le (by omega)
    rw [h2, h3]
    have h4 : (enc y).length + i * k - (enc y).length = i * k := by omega
    have h5 : (enc y).length + i * k + k - (enc y).length = i * k + k := by omega
    rw [h4, h5]; simp
/-- A whole element of a flattened list is written. -/
theorem s_storeFlat {α : Type} {b o i k : Nat} {xs : List α} {enc : α → List Value} {e : α} (hT : szB P T = some k) (hx : ev s x = some (.pointer (some ⟨b, o + i * k, none⟩))) (hy : ev s y = some (.agg (enc e).toArray)) (hu : ∀ u ∈ enc e, u.oneCell' = true) (hk : ∀ x, (enc x).length = k) (hi : i < xs.length)
    (hm : Upd Γ (cells true b o (xs.flatMap enc)) (cells true b o ((xs.set i e).flatMap enc)) Δ) : S1 P ⟨d, .store T x y, ty, pos, af, g⟩ s Γ Δ := by
  refine s_storeN (i := i * k) hT hx hy hu (hk e) rfl ?_ (by rw [flat_set hk xs i e hi]; exact hm)
  rw [flat_length hk]
  have := Nat.mul_le_mul_right k (show i + 1 ≤ xs.length by omega)
  rw [Nat.succ_mul] at this
  exact this
theorem zeroCells_eq (z : Array Value) (m : Nat) (hz : 0 < z.size) : (Builtin.zeroCells z m).toList = repZ z.toList m := range_repZ z m hz
/-- clear(s), s not empty. -/
theorem e_clear {zs : List Value} {by_ : Nat} {b o i m c : Nat} {vs : List Value} (hT : mkB P T = some (zs, by_)) (hz : 0 < zs.length) (h1 : ∀ q ∈ zs, q.oneCell' = true) (hx : ev s x = some (.slice (some ⟨b, o + i, none⟩) m c)) (hm0 : 0 < m) (hl : i + m * zs.length ≤ vs.length)
    (hm : Upd Γ (cells true b o vs) (cells true b o (vs.take i ++ repZ zs m ++ vs.drop (i + m * zs.length))) Δ) :
    E1 P ⟨d, .call { callee := .builtin .clear, args := #[x], argTypes := #[T] }, ty, pos, af, g⟩ s Γ (fun v Δ' => v = .tuple #[] ∧ Δ' = Δ) := fun F w ρ ee t => by
  obtain ⟨e, ti, zv, h4, h5, h6, h6', h7, h8, rfl⟩ := mkB_of hT
  obtain ⟨Θ, t1, t2⟩ := hm.sat t
  have hz' : 0 < zv.cells.size := by rw [h8]; exact hz
  have hone : ∀ (k : Nat), ∀ q ∈ repZ zs k, q.oneCell' = true := by
    intro k
    induction k with
    | zero => intro q hq; simp [repZ] at hq
    | succ k ih => intro q hq; simp only [repZ, List.mem_append] at hq; exact hq.elim (h1 q) (ih q)
  obtain ⟨w', hr, t', ad⟩ := run_storeCells (P := P) (repZ zs m) i 0 (hone m) (by rw [repZ_length]; simpa using hl) t1
  have hzero := run_zero (P := P) (T := e) (z := zv) (by simp [zB, h5, h6]) w
  have hzc : (Builtin.zeroCells zv.cells m).toList = repZ zs m := by rw [zeroCells_eq _ _ hz', h6']
  refine ⟨_, _, w', ?_, ⟨rfl, rfl⟩, t2 w' ?_, ad⟩
  · cases m with
    | zero => omega
    | succ m => simp [execOp, resolve, invoke, builtin, ee _ _ hx, Builtin.clear_, run_underlying h4, hzero, hzc, hr]
  · rw [repZ_length, Nat.add_zero] at t'; exact t'
theorem cut_pl {a : Option Addr} {m l k : Nat} (h : Pl a) (hm : m ≠ l) : cut a m l k = some ⟨blk a, off a + k, none⟩ := by
  unfold cut; rw [if_neg hm]; unfold Pl at h; rw [h]; simp [add_lit, blk, off]
theorem Imp.bufSl {sz : Nat} {a : Option Addr} {n c : Nat} {cs : List Value} {Γ : List A} : Imp (buf sz a n c cs :: Γ) (pu (Sok sz a n c cs) :: sl true a cs :: Γ) := fun F w t => by
  obtain ⟨h1, sp, _, t⟩ := Sat.buf.1 t
  refine Sat.pure.2 ⟨h1, ?_⟩
  have := Imp.split true (blk a) (off a) cs sp Γ F w t
  exact Imp.drop _ _ F w (Imp.perm (.swap _ _ _) F w this)
theorem Imp.bufRo {sz : Nat} {a : Option Addr} {n c : Nat} {cs : List Value} {Γ : List A} : Imp (buf sz a n c cs :: Γ) (pu (Sok sz a n c cs) :: sl false a cs :: Γ) :=
  Imp.bufSl.trans ((Imp.freeze _ _ _ _).cons _)
/-- All the cells that are there are one's own: the slice may grow. -/
theorem Imp.bufI {sz : Nat} {a : Option Addr} {n c : Nat} {cs sp : List Value} {Γ : List A} (h : Sok sz a n c cs) (hp : Pl a ∨ c = 0) (hl : sp.length = (c - n) * sz) : Imp (cells true (blk a) (off a) (cs ++ sp) :: Γ) (buf sz a n c cs :: Γ) :=
  fun _ _ t => Sat.buf.2 ⟨h, sp, ⟨hl, hp⟩, t⟩
theorem Imp.bufFull {sz : Nat} {a : Option Addr} {n : Nat} {cs : List Value} {Γ : List A} (h : Sok sz a n n cs) (hp : Pl a ∨ n = 0) : Imp (cells true (blk a) (off a) cs :: Γ) (buf sz a n n cs :: Γ) := by
  have := Imp.bufI (Γ := Γ) (sp := []) h hp (by simp)
  rwa [List.append_nil] at this
/-- A new slice literal, owned whole. -/
theorem Imp.bufNew {sz b n : Nat} {cs : List Value} {Γ : List A} (h : cs.length = n * sz) : Imp (cells true b 0 cs :: Γ) (buf sz (some ⟨b, 0, none⟩) n n cs :: Γ) :=
  Imp.bufFull (a := some ⟨b, 0, none⟩) ⟨h, Nat.le_refl _, .inr (Pl.mk _ _)⟩ (.inl (Pl.mk _ _))
theorem Imp.bufNil {sz : Nat} {Γ : List A} : Imp Γ (buf sz none 0 0 [] :: Γ) := fun F w t => Sat.buf.2 ⟨⟨by simp, Nat.le_refl _, .inl rfl⟩, [], ⟨by simp, .inr rfl⟩, by
  obtain ⟨h, q, m⟩ := t; exact ⟨h, ⟨_, h, join_empty h, cells_nil _ _ _ _, q⟩, m⟩⟩
theorem Imp.slEmpty {p : Bool} {a : Option Addr} {Γ : List A} : Imp Γ (sl p a [] :: Γ) := fun F w t => by
  obtain ⟨h, q, m⟩ := t; exact ⟨h, ⟨_, h, join_empty h, cells_nil _ _ _ _, q⟩, m⟩
end
end Go.Sl
