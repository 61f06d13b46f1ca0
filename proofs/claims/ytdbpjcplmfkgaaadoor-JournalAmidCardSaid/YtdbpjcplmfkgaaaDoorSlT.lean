/- From the arguments that a caller hands over to cells that may be read. -/
import Derived.Test.YtdbpjcplmfkgaaaDoorSlK
import Derived.ProofKit
namespace Go.Sl
open Go Go.RowKit
theorem Imp.ofWhole {w0 : World} {b o : Nat} {vs : List Value} {Γ : List A} (h : ∀ i v, vs[i]? = some v → w0.cell? ⟨b, o + i, none⟩ = some v) : Imp (whole w0 :: Γ) (cells false b o vs :: whole w0 :: Γ) := fun _ _ t =>
  Sat.cons (c := whole w0) (d := cells false b o vs) (fun _ hH i v hv => hH.1 b (o + i) v (h i v hv)) (Sat.dup (Pers.whole w0) t)
theorem cell_spot {w : World} {a : Addr} {v : Value} (h : w.cell? a = some v) : a.spot = none := by
  unfold World.cell? at h
  split at h
  · split at h
    · cases h
    · rename_i e; simpa using e
  · cases h
/-- What a slice's address leads to. -/
def ReadAt (w : World) (a : Option Addr) (cs : List Value) : Prop := ∀ i v, cs[i]? = some v → w.cell? ⟨blk a, off a + i, none⟩ = some v
section
variable {H : Type} {enc : TypeId × Value → H} {P : Program} {w : World} {base : Nat} {spare : Nat → Bool} {held : Bool}
theorem open_slice {α : Type} {f : α → List Value} {φ : α → Prop} {k : Nat} {t e : TypeId} (ht : P.underlying t = some (.slice e)) (hc : P.cellsOf e = k) (hk : 0 < k)
    (hop : ∀ fuel cs y, DataW.trod enc P w base spare held fuel e cs = some y → ∃ x : α, cs = f x ∧ φ x) (hf : ∀ x, (f x).length = k) {fuel : Nat} {cs : List Value} {x : DataW H × List MemPlace}
    (h : DataW.trod enc P w base spare held fuel t cs = some x) :
    ∃ (a : Option Addr) (n c : Nat) (xs : List α), cs = [.slice a n c] ∧ Sok k a n c (xs.flatMap f) ∧ c ≤ maxLen ∧ (∀ x ∈ xs, φ x) ∧ ReadAt w a (xs.flatMap f) := by
  rcases DataW.trod_slice ht h with ⟨rfl, -⟩ | ⟨a, len, cap, elems, rest, m, -, rfl, -, -, hl, hm, hlen, hel, -, -⟩
  · exact ⟨none, 0, 0, [], rfl, ⟨by simp, Nat.le_refl _, .inl rfl⟩, by simp [maxLen], by simp, by intro i v hv; simp at hv⟩
  have each : ∀ i, i < len → ∃ x : α, φ x ∧ ∀ j, j < k → w.cell? (a.add (i * k + j)) = (f x)[j]? := by
    intro i hi
    have h1 := hel i hi
    rw [List.getElem?_eq_getElem (by omega), hc, Option.bind_eq_some_iff] at h1
    obtain ⟨cs', hcs, hy⟩ := h1
    obtain ⟨x, rfl, hx⟩ := hop _ _ _ hy
    refine ⟨x, hx, fun j hj => ?_⟩
    have := (World.cells?_some hcs).2.2 j hj
    rw [← this]
    congr 1
    unfold Addr.add
    by_cases h0 : i * k = 0 <;> by_cases h1 : j = 0 <;> simp [h0, h1, Nat.add_assoc]
  have hxs : ∀ n, n ≤ len → ∃ xs : List α, xs.length = n ∧ (∀ x ∈ xs, φ x) ∧ ∀ i, i < n → ∃ x, xs[i]? = some x ∧ ∀ j, j < k → w.cell? (a.add (i * k + j)) = (f x)[j]? := by
    intro n
    induction n with
    | zero => intro _; exact ⟨[], rfl, by simp, by intro i hi; omega⟩
    | succ n ih =>
      intro hn
      obtain ⟨xs, h1, h2, h3⟩ := ih (by omega)
      obtain ⟨x, hx, hx'⟩ := each n (by omega)
      refine ⟨xs ++ [x], by simp [h1], ?_, ?_⟩
      · intro y hy
        rcases List.mem_append.1 hy with hy | hy
        · exact h2 y hy
        · rw [List.mem_singleton.1 hy]; exact hx
      · intro i hi
        by_cases e : i < n
        · obtain ⟨y, hy, hy'⟩ := h3 i e
          exact ⟨y, by rw [List.getElem?_append_left (by omega)]; exact hy, hy'⟩
        · have : i = n := by omega
          subst this
          exact ⟨x, by rw [List.getElem?_append_right (by omega)]; simp [h1], hx'⟩
  obtain ⟨xs, h1, h2, h3⟩ := hxs len (Nat.le_refl _)
  have hall : ∀ p, p < len * k → w.cell? (a.add p) = (xs.flatMap f)[p]? := by
    intro p hp
    have hi : p / k < len := Nat.div_lt_of_lt_mul (by rw [Nat.mul_comm]; exact hp)
    obtain ⟨x, hx, hx'⟩ := h3 (p / k) hi
    have := hx' (p % k) (Nat.mod_lt _ hk)
    rw [Nat.mul_comm, Nat.div_add_mod] at this
    rw [this, ← flat_get hf xs (p / k) (p % k) hx (Nat.mod_lt _ hk), Nat.mul_comm, Nat.div_add_mod]
  have hL : (xs.flatMap f).length = len * k := by rw [flat_length hf, h1]
  have hspot : 0 < len → a.spot = none := fun h0 => by
    have h2 : 0 < len * k := Nat.mul_pos h0 hk
    have := hall 0 h2
    rw [List.getElem?_eq_getElem (by omega)] at this
    have := cell_spot this
    simpa [Addr.add] using this
  refine ⟨some a, len, cap, xs, rfl, ⟨hL, hl, ?_⟩, hm, h2, ?_⟩
  · rcases Nat.eq_zero_or_pos len with h0 | h0
    · left; apply List.eq_nil_of_length_eq_zero; rw [hL, h0]; simp
    · right; unfold Pl; have := hspot h0; cases a; simp_all [blk, off]
  · intro i v hv
    have hi : i < len * k := by rw [← hL]; exact (List.getElem?_eq_some_iff.1 hv).1
    have h0 : 0 < len := by rcases Nat.eq_zero_or_pos len with h0 | h0; (rw [h0] at hi; simp at hi); exact h0
    have h5 := hall i hi
    rw [hv] at h5
    have h6 := hspot h0
    rw [← h5]
    cases a with
    | mk b o s =>
      simp only at h6
      subst h6
      unfold Addr.add blk off
      by_cases h7 : i = 0 <;> simp [h7]
theorem trod_field {fs : Array Field} {t : TypeId} {fuel : Nat} {cs : List Value} {x : DataW H × List MemPlace} (ht : P.underlying t = some (.struct fs)) (h : DataW.trod enc P w base spare held fuel t cs = some x) :
    cs.length = P.cellsOf t ∧ ∀ (i T o : Nat), fs[i]?.map (fun f => (f.type, f.offset)) = some (T, o) → ∃ (n : Nat) (y : DataW H × List MemPlace), DataW.trod enc P w base spare held n T ((cs.drop o).take (P.cellsOf T)) = some y := by
  obtain ⟨xs, n, rfl, -, hl, hs, hf⟩ := DataW.trod_struct ht h
  refine ⟨hl, fun i T o hi => ?_⟩
  obtain ⟨f, hi', e⟩ := Option.map_eq_some_iff.1 hi
  obtain ⟨rfl, rfl⟩ := Prod.mk.inj e
  have h1 := hf i f hi'
  have h2 : i < xs.length := by rw [hs]; exact (Array.getElem?_eq_some_iff.1 hi').1
  exact ⟨n, xs[i], by rw [h1, List.getElem?_eq_getElem h2]⟩
theorem flat_one {α β : Type} (f : α → β) : ∀ xs : List α, xs.flatMap (fun x => [f x]) = xs.map f
  | [] => rfl
  | x :: xs => by simp [List.flatMap_cons, flat_one f xs]
/-- A slice of integers that came in. -/
theorem open_sl_ints {t e : TypeId} {k : IntKind} {fuel : Nat} {cs : List Value} {x : DataW H × List MemPlace} (ht : P.underlying t = some (.slice e)) (he : P.underlying e = some (.int k)) (hc : P.cellsOf e = 1) (h : DataW.trod enc P w base spare held fuel t cs = some x) :
    ∃ (a : Option Addr) (n c : Nat) (xs : List Int), cs = [.slice a n c] ∧ Sok 1 a n c (xs.map (.int k)) ∧ c ≤ maxLen ∧ (∀ x ∈ xs, (Lit.int k x).wf = true) ∧ ReadAt w a (xs.map (.int k)) := by
  obtain ⟨a, n, c, xs, h1, h2, h3, h4, h5⟩ := open_slice (f := fun x : Int => [Value.int k x]) (φ := fun x => (Lit.int k x).wf = true) ht hc (by omega) (fun fuel cs y hy => by
    obtain ⟨m, h1, -, h2⟩ := DataW.trod_int he hy; exact ⟨m, h1, h2⟩) (fun _ => rfl) h
  have e1 : xs.flatMap (fun x : Int => [Value.int k x]) = xs.map (.int k) := flat_one _ xs
  rw [e1] at h2 h5
  exact ⟨a, n, c, xs, h1, h2, h3, h4, h5⟩
end
end Go.Sl
