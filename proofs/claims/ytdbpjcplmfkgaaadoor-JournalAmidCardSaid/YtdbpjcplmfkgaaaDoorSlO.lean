/- Strings: from bytes, one behind the other, compared. -/
import Derived.Test.YtdbpjcplmfkgaaaDoorSlN
namespace Go.Sl
open Go Go.RowKit
def pushB (s : ByteArray) (b : By) : ByteArray := s.push (UInt8.ofNat b.val)
def strOf (bs : List By) : ByteArray := bs.foldl pushB .empty
theorem fold_size : ∀ (bs : List By) (s : ByteArray), (bs.foldl pushB s).size = s.size + bs.length
  | [], _ => rfl
  | b :: r, s => by
    rw [List.foldl_cons, fold_size r, pushB, ByteArray.size_push, List.length_cons]; omega
theorem strOf_size (bs : List By) : (strOf bs).size = bs.length := by
  unfold strOf
  rw [fold_size]
  simp
section
variable {P : Program} {n : Nat} {s : St} {Γ Δ Θ : List A} {d : Option Tmp} {ty : TypeId} {pos : String} {af : Array Edge} {g : Option (Nat × Bool)} {v u : Value} {x y z : Operand} {T : TypeId}
theorem q_bytesStr {T' e : TypeId} {p : Bool} {a : Option Addr} {n c : Nat} {xs : List By} (h1 : P.underlying T = some (.slice e)) (h2 : P.underlying e = some (.int .u8)) (h3 : P.underlying T' = some .string) (hs : Sok 1 a n c (xs.map u8)) (hm : sl p a (xs.map u8) ∈ Γ)
    (hx : ev s x = some (.slice a n c)) : Q1 P ⟨d, .convert T T' x, ty, pos, af, g⟩ s Γ (.string (strOf xs)) := fun F w ρ ee t => by
  obtain ⟨Θ, t⟩ := Sat.mem hm t
  have hl : xs.length = n := by have := hs.len; simpa using this
  cases a with
  | none =>
    have h0 : xs = [] := by
      rcases hs.pl with h | h
      · simpa using h
      · simp [Pl] at h
    subst h0
    simp [execOp, ee _ _ hx, convert, underlying, h1, h2, h3, Conv.bytesToString, strOf]
  | some ad =>
    have hr := run_first (P := P) hs t (by simp)
    simp only [Builtin.firstCells, Nat.mul_one] at hr
    simp [execOp, ee _ _ hx, convert, underlying, h1, h2, h3, Conv.bytesToString, hr, strOf]
    rw [show pushB = fun b a => b.push (UInt8.ofFin a) by funext b a; simp [pushB]]
theorem Trip.post {P : Program} {f : FuncId} {args : Array Value} {Γ : List A} {R R' : Value → List A → Prop} (h : Trip P f args Γ R) (g : ∀ v Δ, R v Δ → ∃ Δ', R' v Δ' ∧ Imp Δ Δ') : Trip P f args Γ R' :=
  fun F w t => (h F w t).mono fun _ w' ⟨v, Δ, a, b, c, d⟩ => let ⟨Δ', e, i⟩ := g v Δ b; ⟨v, Δ', a, e, i F w' c, d⟩
theorem Trip.bufOpen {P : Program} {f : FuncId} {args : Array Value} {Γ : List A} {R : Value → List A → Prop} {sz m k : Nat} {a : Option Addr} {cs : List Value} (h : ∀ sp : List Value, Sok sz a m k cs → sp.length = (k - m) * sz ∧ (Pl a ∨ k = 0) → Trip P f args (sl true a cs :: cells true (blk a) (off a + cs.length) sp :: Γ) R) : Trip P f args (buf sz a m k cs :: Γ) R := fun F w t => by
  obtain ⟨h1, sp, h2, t⟩ := Sat.buf.1 t
  exact h sp h1 h2 F w (Imp.split true (blk a) (off a) cs sp Γ F w t)
end
theorem Imp.slTake {p : Bool} {a : Option Addr} {cs : List Value} (m : Nat) {Γ : List A} : Imp (sl p a cs :: Γ) (sl p a (cs.take m) :: Γ) := fun F w t => by
  have h := Imp.split p (blk a) (off a) (cs.take m) (cs.drop m) Γ F w (by rw [List.take_append_drop]; exact t)
  exact Imp.cons _ (Imp.drop _ _) F w h
theorem Sok.take {sz : Nat} {a : Option Addr} {n c m : Nat} {cs : List Value} (h : Sok sz a n c cs) (hm : m ≤ n) : Sok sz a m c (cs.take (m * sz)) := by
  refine ⟨?_, Nat.le_trans hm h.cap, ?_⟩
  · rw [List.length_take, h.len]; exact Nat.min_eq_left (Nat.mul_le_mul_right _ hm)
  · rcases h.pl with h | h
    · left; rw [h]; simp
    · exact .inr h
theorem Imp.slCut {p : Bool} {sz : Nat} {a : Option Addr} {n c l : Nat} {cs : List Value} (h : Sok sz a n c cs) (hl : l ≤ n) {Γ : List A} : Imp (sl p a cs :: Γ) (sl p (cut a c l (l * sz)) (cs.drop (l * sz)) :: Γ) := fun F w t => by
  have e0 : ∀ h0 : cs.drop (l * sz) = [], Sat (sl p (cut a c l (l * sz)) (cs.drop (l * sz)) :: Γ) F w := fun h0 => by
    rw [h0]; exact Imp.slEmpty F w (Imp.drop _ _ F w t)
  have hlen := h.len
  have hcap := h.cap
  by_cases hc : c = l
  · exact e0 (List.drop_eq_nil_of_le (by rw [hlen]; exact Nat.mul_le_mul_right _ (by omega)))
  · rcases h.pl with h1 | h1
    · exact e0 (by rw [h1]; simp)
    · rw [cut_pl h1 hc]
      have h2 := Imp.split p (blk a) (off a) (cs.take (l * sz)) (cs.drop (l * sz)) Γ F w (by rw [List.take_append_drop]; exact t)
      have h3 : (cs.take (l * sz)).length = l * sz := by rw [List.length_take, hlen]; exact Nat.min_eq_left (Nat.mul_le_mul_right _ hl)
      rw [h3] at h2
      exact Imp.drop _ _ F w h2
theorem sokCut {sz : Nat} {a : Option Addr} {n c l : Nat} {cs : List Value} (h : Sok sz a n c cs) (hl : l ≤ n) : Sok sz (cut a c l (l * sz)) (n - l) (c - l) (cs.drop (l * sz)) := by
  refine ⟨?_, ?_, ?_⟩
  · rw [List.length_drop, h.len, Nat.sub_mul]
  · have := h.cap; omega
  · rcases h.pl with h1 | h1
    · left; rw [h1]; simp
    · exact .inr h1.cut.1
theorem Sok.bsTake {a : Option Addr} {n c m : Nat} {zs : List BS} (h : Sok 1 a n c (zs.map bsV)) (hm : m ≤ n) : Sok 1 a m c ((zs.take m).map bsV) := by
  have := h.take hm
  rwa [Nat.mul_one, ← List.map_take] at this
theorem sokBsDrop {a : Option Addr} {n c m : Nat} {zs : List BS} (h : Sok 1 a n c (zs.map bsV)) (hm : m ≤ n) : Sok 1 (cut a c m (m * 1)) (n - m) (c - m) ((zs.drop m).map bsV) := by
  have := sokCut h hm
  simp only [Nat.mul_one, ← List.map_drop] at this ⊢
  exact this
theorem Imp.bsTake {p : Bool} {a : Option Addr} {zs : List BS} (m : Nat) {Γ : List A} : Imp (sl p a (zs.map bsV) :: Γ) (sl p a ((zs.take m).map bsV) :: Γ) := by
  rw [List.map_take]; exact Imp.slTake m
theorem Imp.bsDrop {p : Bool} {a : Option Addr} {n c m : Nat} {zs : List BS} (h : Sok 1 a n c (zs.map bsV)) (hm : m ≤ n) {Γ : List A} : Imp (sl p a (zs.map bsV) :: Γ) (sl p (cut a c m (m * 1)) ((zs.drop m).map bsV) :: Γ) := by
  have := Imp.slCut (p := p) (Γ := Γ) h hm
  simp only [Nat.mul_one, ← List.map_drop] at this ⊢
  exact this
theorem bytes_cong {xs ys : List BS} (h : ∀ y ∈ ys, y ∈ xs) {Γ : List A} : Imp (bytes xs :: Γ) (bytes ys :: Γ) := (bytes_sub h).trans (Imp.cons _ (Imp.drop _ _))
end Go.Sl
