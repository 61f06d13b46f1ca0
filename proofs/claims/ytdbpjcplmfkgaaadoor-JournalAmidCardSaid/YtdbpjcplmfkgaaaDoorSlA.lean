/- Separation logic over the model's memory: partial heaps, assertions, worlds that satisfy them, what a load, a store, a new block do to them. No program in it. -/
import Derived.WalkKit
namespace Go.Sl
open Go Go.RowKit

inductive Key where
  | cell (b o : Nat)
  | obj (b : Nat)
  deriving DecidableEq

inductive KV where
  | val (v : Value)
  | ob (o : Obj)

/-- A partial heap: what stands at a place, and whether it may be written. -/
abbrev PH := Key → Option (Bool × KV)

def J3 (x y z : Option (Bool × KV)) : Prop :=
  (x = none ∧ z = y) ∨ (y = none ∧ z = x) ∨ ∃ v, x = some (false, v) ∧ y = some (false, v) ∧ z = some (false, v)

def Join (h1 h2 h : PH) : Prop := ∀ k, J3 (h1 k) (h2 k) (h k)

theorem J3.comm {x y z} (h : J3 x y z) : J3 y x z := by
  rcases h with ⟨a, b⟩ | ⟨a, b⟩ | ⟨v, a, b, c⟩
  · exact .inr (.inl ⟨a, b⟩)
  · exact .inl ⟨a, b⟩
  · exact .inr (.inr ⟨v, b, a, c⟩)

theorem Join.comm {h1 h2 h} (j : Join h1 h2 h) : Join h2 h1 h := fun k => (j k).comm

def orE (x y : Option (Bool × KV)) : Option (Bool × KV) := match x with | none => y | some x => some x
theorem J3.assoc {a b ab c abc : Option (Bool × KV)} (h : J3 a b ab) (h' : J3 ab c abc) : J3 b c (orE b c) ∧ J3 a (orE b c) abc := by
  unfold orE
  rcases h with ⟨rfl, rfl⟩ | ⟨rfl, rfl⟩ | ⟨v, rfl, rfl, rfl⟩
  · rcases h' with ⟨rfl, rfl⟩ | ⟨rfl, rfl⟩ | ⟨u, rfl, rfl, rfl⟩
    · exact ⟨.inl ⟨rfl, rfl⟩, .inl ⟨rfl, rfl⟩⟩
    · cases abc with
      | none => exact ⟨.inl ⟨rfl, rfl⟩, .inl ⟨rfl, rfl⟩⟩
      | some x => exact ⟨.inr (.inl ⟨rfl, rfl⟩), .inl ⟨rfl, rfl⟩⟩
    · exact ⟨.inr (.inr ⟨u, rfl, rfl, rfl⟩), .inl ⟨rfl, rfl⟩⟩
  · exact ⟨.inl ⟨rfl, rfl⟩, h'⟩
  · rcases h' with ⟨h0, _⟩ | ⟨rfl, rfl⟩ | ⟨u, e, rfl, rfl⟩
    · cases h0
    · exact ⟨.inr (.inl ⟨rfl, rfl⟩), .inr (.inr ⟨v, rfl, rfl, rfl⟩)⟩
    · cases e; exact ⟨.inr (.inr ⟨v, rfl, rfl, rfl⟩), .inr (.inr ⟨v, rfl, rfl, rfl⟩)⟩

theorem Join.assoc {a b ab c abc : PH} (h : Join a b ab) (h' : Join ab c abc) : ∃ bc, Join b c bc ∧ Join a bc abc :=
  ⟨fun k => orE (b k) (c k), fun k => (J3.assoc (h k) (h' k)).1, fun k => (J3.assoc (h k) (h' k)).2⟩

theorem Join.left {h1 h2 h : PH} (j : Join h1 h2 h) {k x} (e : h1 k = some x) : h k = some x := by
  rcases j k with ⟨a, _⟩ | ⟨_, b⟩ | ⟨v, a, _, c⟩
  · rw [a] at e; cases e
  · rw [b, e]
  · rw [c, ← e, a]

theorem Join.right {h1 h2 h : PH} (j : Join h1 h2 h) {k x} (e : h2 k = some x) : h k = some x := j.comm.left e

theorem Join.own {h1 h2 h : PH} (j : Join h1 h2 h) {k x} (e : h1 k = some (true, x)) : h2 k = none := by
  rcases j k with ⟨a, _⟩ | ⟨b, _⟩ | ⟨v, a, _, _⟩
  · rw [a] at e; cases e
  · exact b
  · rw [a] at e; cases e

def KVok (w : World) : Key → Bool → KV → Prop
  | .cell b o, p, .val v => w.cell? ⟨b, o, none⟩ = some v ∧ (p = true → w.frozen? ⟨b, o, none⟩ = false)
  | .obj b, _, .ob o => w.heap[b]? = some o ∧ ∀ c e f, o ≠ .cells c e f
  | _, _, _ => False

def Models (w : World) (h : PH) : Prop := ∀ k p x, h k = some (p, x) → KVok w k p x

theorem Models.sub {w : World} {h1 h2 h : PH} (j : Join h1 h2 h) (m : Models w h) : Models w h1 := fun k p x e => m k p x (j.left e)

/-- An assertion. -/
abbrev A := PH → Prop

def star (P Q : A) : A := fun h => ∃ h1 h2, Join h1 h2 h ∧ P h1 ∧ Q h2
def stars (Γ : List A) (F : A) : A := Γ.foldr star F
def Sat (Γ : List A) (F : A) (w : World) : Prop := ∃ h, stars Γ F h ∧ Models w h
def pu (φ : Prop) : A := fun _ => φ
def ex {α : Sort _} (f : α → A) : A := fun h => ∃ x, f x h
def grp (Δ : List A) : A := stars Δ (fun _ => True)
def cells (p : Bool) (b o : Nat) (vs : List Value) : A := fun h => ∀ (i : Nat) (v : Value), vs[i]? = some v → h (.cell b (o + i)) = some (p, .val v)
def objc (p : Bool) (b : Nat) (o : Obj) : A := fun h => h (.obj b) = some (p, .ob o)

theorem stars_cons (c : A) (Γ : List A) (F : A) : stars (c :: Γ) F = star c (stars Γ F) := rfl
theorem stars_nil (F : A) : stars [] F = F := rfl
theorem stars_append (Γ Δ : List A) (F : A) : stars (Γ ++ Δ) F = stars Γ (stars Δ F) := by simp [stars, List.foldr_append]

theorem star_mono {P Q R : A} (f : ∀ h, Q h → R h) {h : PH} : star P Q h → star P R h
  | ⟨h1, h2, j, a, b⟩ => ⟨h1, h2, j, a, f _ b⟩
theorem star_monoL {P Q R : A} (f : ∀ h, P h → R h) {h : PH} : star P Q h → star R Q h
  | ⟨h1, h2, j, a, b⟩ => ⟨h1, h2, j, f _ a, b⟩
theorem stars_mono {F G : A} (f : ∀ h, F h → G h) : ∀ (Γ : List A) {h : PH}, stars Γ F h → stars Γ G h
  | [], _, hh => f _ hh
  | _ :: Γ, _, hh => star_mono (fun _ => stars_mono f Γ) hh
theorem star_left_comm {P Q R : A} {h : PH} : star P (star Q R) h → star Q (star P R) h
  | ⟨h1, h2, j, p, h3, h4, j', q, r⟩ => by
    -- h = h1 + (h3 + h4)
    obtain ⟨h5, j5, j6⟩ := j'.assoc j.comm   -- h3 + h4 = h2, h2 + h1 = h : h5 = h4 + h1
    exact ⟨h3, h5, j6, q, h1, h4, j5.comm, p, r⟩
theorem star_assoc {P Q R : A} {h : PH} : star (star P Q) R h → star P (star Q R) h
  | ⟨h1, h2, j, ⟨h3, h4, j', p, q⟩, r⟩ => by
    obtain ⟨h5, j5, j6⟩ := j'.assoc j
    exact ⟨h3, h5, j6, p, h4, h2, j5, q, r⟩
theorem star_assoc' {P Q R : A} {h : PH} : star P (star Q R) h → star (star P Q) R h
  | ⟨h1, h2, j, p, h3, h4, j', q, r⟩ => by
    obtain ⟨h5, j5, j6⟩ := j'.comm.assoc j.comm   -- h4 + h3 = h2; h2 + h1 = h: h5 = h3 + h1; h4 + h5 = h
    exact ⟨h5, h4, j6.comm, ⟨h1, h3, j5.comm, p, q⟩, r⟩
theorem stars_star (c : A) (F : A) : ∀ (Γ : List A) {h : PH}, stars Γ (star c F) h → star c (stars Γ F) h
  | [], _, hh => hh
  | d :: Γ, _, hh => star_left_comm (star_mono (fun _ => stars_star c F Γ) hh)
theorem stars_star' (c : A) (F : A) : ∀ (Γ : List A) {h : PH}, star c (stars Γ F) h → stars Γ (star c F) h
  | [], _, hh => hh
  | d :: Γ, _, hh => star_mono (fun _ => stars_star' c F Γ) (star_left_comm hh)
theorem stars_perm {Γ Δ : List A} (p : Γ.Perm Δ) : ∀ {F : A} {h : PH}, stars Γ F h → stars Δ F h := by
  induction p with
  | nil => exact id
  | cons c _ ih => exact fun hh => star_mono (fun _ => ih) hh
  | swap a b l => exact fun hh => star_left_comm hh
  | trans _ _ ih1 ih2 => exact fun hh => ih2 (ih1 hh)
theorem join_empty (h : PH) : Join (fun _ => none) h h := fun _ => .inl ⟨rfl, rfl⟩

/-- One list of assertions gives another one. -/
def Imp (Γ Δ : List A) : Prop := ∀ F w, Sat Γ F w → Sat Δ F w
theorem Imp.refl (Γ : List A) : Imp Γ Γ := fun _ _ h => h
theorem Imp.trans {Γ Δ Θ : List A} (a : Imp Γ Δ) (b : Imp Δ Θ) : Imp Γ Θ := fun F w h => b F w (a F w h)
theorem Imp.perm {Γ Δ : List A} (p : Γ.Perm Δ) : Imp Γ Δ := fun _ _ ⟨h, a, m⟩ => ⟨h, stars_perm p a, m⟩
theorem Imp.drop (c : A) (Γ : List A) : Imp (c :: Γ) Γ := fun _ _ ⟨_, ⟨_, h2, j, _, b⟩, m⟩ => ⟨h2, b, m.sub j.comm⟩
theorem Sat.shift {c : A} {Γ : List A} {F : A} {w : World} (h : Sat (c :: Γ) F w) : Sat Γ (star c F) w := let ⟨h, a, m⟩ := h; ⟨h, stars_star' c F Γ a, m⟩
theorem Sat.unshift {c : A} {Γ : List A} {F : A} {w : World} (h : Sat Γ (star c F) w) : Sat (c :: Γ) F w := let ⟨h, a, m⟩ := h; ⟨h, stars_star c F Γ a, m⟩
theorem Sat.monoF {Γ : List A} {F G : A} {w : World} (f : ∀ h, F h → G h) (h : Sat Γ F w) : Sat Γ G w := let ⟨h, a, m⟩ := h; ⟨h, stars_mono f Γ a, m⟩
theorem Sat.app {Γ Δ : List A} {F : A} {w : World} : Sat (Γ ++ Δ) F w ↔ Sat Γ (stars Δ F) w := by unfold Sat; rw [stars_append]
theorem Imp.frame {Γ Δ : List A} (i : Imp Γ Δ) (Θ : List A) : Imp (Γ ++ Θ) (Δ ++ Θ) := fun F w h => Sat.app.2 (i _ w (Sat.app.1 h))
theorem Imp.cons {Γ Δ : List A} (c : A) (i : Imp Γ Δ) : Imp (c :: Γ) (c :: Δ) := fun F w h => Sat.unshift (i _ w h.shift)
theorem Imp.pre {Γ Δ : List A} (Θ : List A) (i : Imp Γ Δ) : Imp (Θ ++ Γ) (Θ ++ Δ) := by
  induction Θ with
  | nil => exact i
  | cons c Θ ih => exact ih.cons c
theorem Imp.nil (Γ : List A) : Imp Γ [] := by
  induction Γ with
  | nil => exact .refl _
  | cons c Γ ih => exact (Imp.drop c Γ).trans ih
theorem Sat.pure {φ : Prop} {Γ : List A} {F : A} {w : World} : Sat (pu φ :: Γ) F w ↔ φ ∧ Sat Γ F w :=
  ⟨fun ⟨_, ⟨_, h2, j, p, b⟩, m⟩ => ⟨p, h2, b, m.sub j.comm⟩, fun ⟨p, h, b, m⟩ => ⟨h, ⟨_, h, join_empty h, p, b⟩, m⟩⟩
theorem Sat.ex {α : Sort _} {f : α → A} {Γ : List A} {F : A} {w : World} : Sat (ex f :: Γ) F w ↔ ∃ x, Sat (f x :: Γ) F w :=
  ⟨fun ⟨h, ⟨h1, h2, j, ⟨x, p⟩, b⟩, m⟩ => ⟨x, h, ⟨h1, h2, j, p, b⟩, m⟩, fun ⟨x, h, ⟨h1, h2, j, p, b⟩, m⟩ => ⟨h, ⟨h1, h2, j, ⟨x, p⟩, b⟩, m⟩⟩
theorem Sat.star {P Q : A} {Γ : List A} {F : A} {w : World} : Sat (star P Q :: Γ) F w ↔ Sat (P :: Q :: Γ) F w :=
  ⟨fun ⟨h, a, m⟩ => ⟨h, star_assoc a, m⟩, fun ⟨h, a, m⟩ => ⟨h, star_assoc' a, m⟩⟩
theorem Sat.grp {Δ Γ : List A} {F : A} {w : World} : Sat (grp Δ :: Γ) F w ↔ Sat (Δ ++ Γ) F w := by
  induction Δ generalizing Γ F with
  | nil =>
    show Sat (_ :: Γ) F w ↔ Sat Γ F w
    exact ⟨Imp.drop _ _ F w, fun ⟨h, b, m⟩ => ⟨h, ⟨_, h, join_empty h, trivial, b⟩, m⟩⟩
  | cons c Δ ih =>
    show Sat (Sl.star c (Sl.grp Δ) :: Γ) F w ↔ _
    rw [Sat.star]
    exact ⟨fun h => Sat.unshift (ih.1 (Sat.shift (Imp.perm (.swap _ _ _) F w (Imp.perm (.swap _ _ _) F w h)))), fun h => Sat.unshift (ih.2 h.shift)⟩
theorem Sat.cons {c d : A} {Γ : List A} {F : A} {w : World} (f : ∀ h, c h → d h) (h : Sat (c :: Γ) F w) : Sat (d :: Γ) F w :=
  let ⟨h, a, m⟩ := h; ⟨h, star_monoL f a, m⟩

/-- What may be had twice. -/
def Pers (c : A) : Prop := ∀ h, c h → ∃ h', c h' ∧ Join h' h h
theorem Sat.dup {c : A} (p : Pers c) {Γ : List A} {F : A} {w : World} (h : Sat (c :: Γ) F w) : Sat (c :: c :: Γ) F w := by
  obtain ⟨h, ⟨h1, h2, j, a, b⟩, m⟩ := h
  obtain ⟨h3, a3, j3⟩ := p h1 a
  obtain ⟨h4, j4, j5⟩ := j3.assoc j
  exact ⟨h, ⟨h3, h4, j5, a3, h1, h2, j4, a, b⟩, m⟩
theorem Pers.pu (φ : Prop) : Pers (pu φ) := fun h p => ⟨fun _ => none, p, join_empty h⟩
theorem Pers.ex {α : Sort _} {f : α → A} (p : ∀ x, Pers (f x)) : Pers (Sl.ex f) := fun h ⟨x, c⟩ => let ⟨h', c', j⟩ := p x h c; ⟨h', ⟨x, c'⟩, j⟩
theorem Join.dupR {h1 h2 h h' : PH} (j' : Join h' h1 h1) (j : Join h1 h2 h) : Join h' h h := by
  intro k
  rcases j' k with ⟨a, _⟩ | ⟨a, b⟩ | ⟨v, a, b, _⟩
  · exact .inl ⟨a, rfl⟩
  · rcases j k with ⟨c, d⟩ | ⟨c, d⟩ | ⟨u, c, d, e⟩
    · rw [c] at b; exact .inl ⟨b.symm, rfl⟩
    · rw [a] at b; exact .inl ⟨b.symm, rfl⟩
    · rw [c] at a; cases a
  · exact .inr (.inr ⟨v, a, j.left b, j.left b⟩)
theorem Pers.star {P Q : A} (p : Pers P) (q : Pers Q) : Pers (star P Q) := by
  rintro h ⟨h1, h2, j, a, b⟩
  obtain ⟨h1', a', j1⟩ := p h1 a
  obtain ⟨h2', b', j2⟩ := q h2 b
  refine ⟨fun k => orE (h1' k) (h2' k), ⟨h1', h2', ?_, a', b'⟩, ?_⟩
  · intro k
    have e1 := Join.dupR j1 j k
    have e2 := Join.dupR j2 j.comm k
    dsimp only
    cases x1 : h1' k with
    | none => exact .inl ⟨rfl, rfl⟩
    | some x =>
      rcases e1 with ⟨c, _⟩ | ⟨c, d⟩ | ⟨v, c, d, _⟩
      · rw [c] at x1; cases x1
      · rw [c] at d; rw [← d] at x1; cases x1
      · rcases e2 with ⟨c', _⟩ | ⟨c', d'⟩ | ⟨v', c', d', _⟩
        · exact .inr (.inl ⟨c', rfl⟩)
        · rw [d] at c'; cases c'
        · rw [c] at x1; cases x1; rw [d] at d'; cases d'; exact .inr (.inr ⟨v, rfl, c', rfl⟩)
  · intro k
    have e1 := Join.dupR j1 j k
    have e2 := Join.dupR j2 j.comm k
    dsimp only
    cases x1 : h1' k with
    | none => exact e2
    | some x => rw [x1] at e1; exact e1
theorem Pers.stars {F : A} (f : Pers F) : ∀ (Γ : List A), (∀ c ∈ Γ, Pers c) → Pers (stars Γ F)
  | [], _ => f
  | c :: Γ, h => (h c (by simp)).star (Pers.stars f Γ fun d hd => h d (by simp [hd]))
theorem Pers.grp {Γ : List A} (h : ∀ c ∈ Γ, Pers c) : Pers (grp Γ) := Pers.stars (Pers.pu True) Γ h
theorem Pers.cells (b o : Nat) (vs : List Value) : Pers (cells false b o vs) := by
  intro h c
  refine ⟨fun | .cell b' o' => if b' = b ∧ o ≤ o' ∧ o' - o < vs.length then h (.cell b' o') else none | .obj _ => none, ?_, ?_⟩
  · intro i v hv
    have hi : i < vs.length := (List.getElem?_eq_some_iff.1 hv).1
    simp only [show o ≤ o + i by omega, show o + i - o = i by omega, hi, true_and, and_self, if_true]
    exact c i v hv
  · intro k
    cases k with
    | obj b' => exact .inl ⟨rfl, rfl⟩
    | cell b' o' =>
      dsimp only
      by_cases hk : b' = b ∧ o ≤ o' ∧ o' - o < vs.length
      · obtain ⟨rfl, h1, h2⟩ := hk
        have := c (o' - o) vs[o' - o] (by simp [h2])
        rw [show o + (o' - o) = o' by omega] at this
        simp only [h1, h2, and_self, if_true]
        exact .inr (.inr ⟨_, this, this, this⟩)
      · simp only [hk, if_false]; exact .inl ⟨rfl, rfl⟩
theorem Pers.objc (b : Nat) (o : Obj) : Pers (objc false b o) := by
  intro h c
  refine ⟨fun k => if k = .obj b then h k else none, by simpa [Sl.objc] using c, ?_⟩
  intro k
  dsimp only
  by_cases hk : k = .obj b
  · subst hk; simp only [if_true]; exact .inr (.inr ⟨_, c, c, c⟩)
  · simp only [hk, if_false]; exact .inl ⟨rfl, rfl⟩

theorem cells_nil (p : Bool) (b o : Nat) (h : PH) : cells p b o [] h := by intro i v hv; simp at hv
theorem cells_join {p : Bool} {b o : Nat} {xs ys : List Value} {h : PH} (hh : star (cells p b o xs) (cells p b (o + xs.length) ys) h) : cells p b o (xs ++ ys) h := by
  obtain ⟨h1, h2, j, c, d⟩ := hh
  intro i v hv
  by_cases hi : i < xs.length
  · rw [List.getElem?_append_left hi] at hv; exact j.left (c i v hv)
  · rw [List.getElem?_append_right (by omega)] at hv
    have := d _ _ hv
    rw [show o + xs.length + (i - xs.length) = o + i by omega] at this
    exact j.right this
theorem cells_split {p : Bool} {b o : Nat} {xs ys : List Value} {h : PH} (hh : cells p b o (xs ++ ys) h) : star (cells p b o xs) (cells p b (o + xs.length) ys) h := by
  refine ⟨fun k => if ∃ i, i < xs.length ∧ k = .cell b (o + i) then h k else none, fun k => if ∃ i, i < xs.length ∧ k = .cell b (o + i) then none else h k, ?_, ?_, ?_⟩
  · intro k
    dsimp only
    split
    · exact .inr (.inl ⟨rfl, rfl⟩)
    · exact .inl ⟨rfl, rfl⟩
  · intro i v hv
    have hi : i < xs.length := (List.getElem?_eq_some_iff.1 hv).1
    dsimp only
    rw [if_pos ⟨i, hi, rfl⟩]
    exact hh i v (by rw [List.getElem?_append_left hi]; exact hv)
  · intro i v hv
    dsimp only
    rw [if_neg (by rintro ⟨j, hj, e⟩; simp at e; omega)]
    have := hh (xs.length + i) v (by rw [List.getElem?_append_right (by omega)]; simpa using hv)
    rw [← this]; congr 2; omega
theorem Imp.split (p : Bool) (b o : Nat) (xs ys : List Value) (Γ : List A) : Imp (cells p b o (xs ++ ys) :: Γ) (cells p b o xs :: cells p b (o + xs.length) ys :: Γ) :=
  fun _ _ h => Sat.star.1 (h.cons fun _ => cells_split)
theorem Imp.join (p : Bool) (b o : Nat) (xs ys : List Value) (Γ : List A) : Imp (cells p b o xs :: cells p b (o + xs.length) ys :: Γ) (cells p b o (xs ++ ys) :: Γ) :=
  fun _ _ h => (Sat.star.2 h).cons fun _ => cells_join

/-- What was ours is nobody's any more: it may be read for ever. -/
theorem Imp.freeze (b o : Nat) (vs : List Value) (Γ : List A) : Imp (cells true b o vs :: Γ) (cells false b o vs :: Γ) := by
  rintro F w ⟨h, ⟨h1, h2, j, c, g⟩, m⟩
  let t : PH → PH := fun h k => if ∃ i, i < vs.length ∧ k = .cell b (o + i) then (h k).map fun x => (false, x.2) else h k
  have own : ∀ k, (∃ i, i < vs.length ∧ k = .cell b (o + i)) → ∃ v, h1 k = some (true, .val v) ∧ h2 k = none ∧ h k = some (true, .val v) := by
    rintro k ⟨i, hi, rfl⟩
    have e := c i vs[i] (by simp [hi])
    exact ⟨_, e, j.own e, j.left e⟩
  refine ⟨t h, ⟨t h1, h2, ?_, ?_, g⟩, ?_⟩
  · intro k
    by_cases hk : ∃ i, i < vs.length ∧ k = .cell b (o + i)
    · obtain ⟨v, e1, e2, e3⟩ := own k hk
      simp only [t, if_pos hk, e1, e2, e3, Option.map_some]
      exact .inr (.inl ⟨rfl, rfl⟩)
    · simp only [t, if_neg hk]; exact j k
  · intro i v hv
    have hi : i < vs.length := (List.getElem?_eq_some_iff.1 hv).1
    simp only [t, if_pos (⟨i, hi, rfl⟩ : ∃ i', i' < vs.length ∧ Key.cell b (o + i) = .cell b (o + i')), c i v hv, Option.map_some]
  · intro k p x e
    by_cases hk : ∃ i, i < vs.length ∧ k = .cell b (o + i)
    · obtain ⟨v, e1, e2, e3⟩ := own k hk
      simp only [t, if_pos hk, e3, Option.map_some, Option.some.injEq, Prod.mk.injEq] at e
      obtain ⟨rfl, rfl⟩ := e
      obtain ⟨i, hi, rfl⟩ := hk
      exact ⟨(m _ _ _ e3).1, by simp⟩
    · simp only [t, if_neg hk] at e; exact m k p x e

/-- How a world goes on. -/
def Like : Option Obj → Option Obj → Prop
  | some (.cells c e f), some (.cells c' e' f') => c'.size = c.size ∧ e' = e ∧ f' = f
  | some (.cells ..), _ => False
  | some _, some (.cells ..) => False
  | some _, some _ => True
  | some _, none => False
  | none, _ => True
theorem Like.refl (x : Option Obj) : Like x x := by cases x with | none => trivial | some o => cases o <;> simp [Like]
theorem Like.trans {x y z : Option Obj} (h : Like x y) (h' : Like y z) : Like x z := by
  cases x with
  | none => trivial
  | some a => cases y with
    | none => cases a <;> simp [Like] at h
    | some b => cases z with
      | none => cases b <;> simp [Like] at h'
      | some c => cases a <;> cases b <;> simp [Like] at h <;> cases c <;> simp_all [Like]

structure Adv (w w' : World) : Prop where
  os : w'.os = w.os
  tape : w'.tape = w.tape
  output : w'.output = w.output
  size : w.heap.size ≤ w'.heap.size
  like : ∀ b : Nat, b < w.heap.size → Like w.heap[b]? w'.heap[b]?
theorem Adv.refl (w : World) : Adv w w := ⟨rfl, rfl, rfl, Nat.le_refl _, fun _ _ => .refl _⟩
theorem Adv.trans {a b c : World} (h : Adv a b) (k : Adv b c) : Adv a c :=
  ⟨k.os.trans h.os, k.tape.trans h.tape, k.output.trans h.output, Nat.le_trans h.size k.size, fun i hi => (h.like i hi).trans (k.like i (Nat.lt_of_lt_of_le hi h.size))⟩

section
variable {Γ : List A} {F : A} {w : World}
theorem Sat.cell {p : Bool} {b o i : Nat} {vs : List Value} {v : Value} (h : Sat (cells p b o vs :: Γ) F w) (hv : vs[i]? = some v) : w.cell? ⟨b, o + i, none⟩ = some v :=
  let ⟨_, ⟨_, _, j, c, _⟩, m⟩ := h
  (m _ _ _ (j.left (c i v hv))).1
theorem Sat.unfrozen {b o i : Nat} {vs : List Value} (h : Sat (cells true b o vs :: Γ) F w) (hi : i < vs.length) : w.frozen? ⟨b, o + i, none⟩ = false :=
  let ⟨_, ⟨_, _, j, c, _⟩, m⟩ := h
  (m _ _ _ (j.left (c i vs[i] (by simp [hi])))).2 rfl
theorem Sat.object {p : Bool} {b : Nat} {o : Obj} (h : Sat (objc p b o :: Γ) F w) : w.heap[b]? = some o :=
  let ⟨_, ⟨_, _, j, c, _⟩, m⟩ := h
  (m _ _ _ (j.left c)).1

theorem Models.setCell {h : PH} {b o : Nat} {u v : Value} (m : Models w h) (e : h (.cell b o) = some (true, .val u)) :
    Models (w.setCell ⟨b, o, none⟩ v) (fun k => if k = .cell b o then some (true, .val v) else h k) := by
  intro k p x hx
  have hc := m _ _ _ e
  dsimp only at hx
  by_cases hk : k = .cell b o
  · subst hk
    simp only [if_true, Option.some.injEq, Prod.mk.injEq] at hx
    obtain ⟨rfl, rfl⟩ := hx
    exact ⟨World.cell?_setCell_same _ _ _ hc.1, fun _ => by rw [show (w.setCell ⟨b, o, none⟩ v).frozen? ⟨b, o, none⟩ = w.frozen? ⟨b, o, none⟩ by simp]; exact hc.2 rfl⟩
  · rw [if_neg hk] at hx
    have hm := m _ _ _ hx
    cases k with
    | cell b' o' =>
      cases x with
      | ob _ => exact hm.elim
      | val u' =>
        refine ⟨?_, fun hp => ?_⟩
        · rw [World.cell?_setCell_other (h := by intro he; apply hk; cases he; rfl)]; exact hm.1
        · rw [show (w.setCell ⟨b, o, none⟩ v).frozen? ⟨b', o', none⟩ = w.frozen? ⟨b', o', none⟩ by simp]; exact hm.2 hp
    | obj b' =>
      cases x with
      | val _ => exact hm.elim
      | ob o' =>
        refine ⟨?_, hm.2⟩
        rw [heap_setCell_other]
        · exact hm.1
        · rintro rfl
          have h1 := hc.1
          simp only [World.cell?, hm.1] at h1
          cases o' <;> simp at h1
          exact hm.2 _ _ _ rfl

theorem Adv.setCell (w : World) (a : Addr) (v : Value) : Adv w (w.setCell a v) := by
  refine ⟨rfl, rfl, rfl, by simp [World.setCell], fun b hb => ?_⟩
  by_cases h : b = a.block
  · subst h
    simp only [World.setCell, Array.getElem?_modify, if_true]
    cases e : w.heap[a.block]? with
    | none => trivial
    | some o => cases o <;> simp [Like]; split <;> simp
  · rw [heap_setCell_other w a b v h]; exact .refl _

theorem Sat.store {b o i : Nat} {vs : List Value} {v : Value} (h : Sat (cells true b o vs :: Γ) F w) (hi : i < vs.length) :
    Sat (cells true b o (vs.set i v) :: Γ) F (w.setCell ⟨b, o + i, none⟩ v) := by
  obtain ⟨h, ⟨h1, h2, j, c, g⟩, m⟩ := h
  have e := c i vs[i] (by simp [hi])
  refine ⟨_, ⟨fun k => if k = .cell b (o + i) then some (true, .val v) else h1 k, h2, ?_, ?_, g⟩, m.setCell (j.left e)⟩
  · intro k
    dsimp only
    by_cases hk : k = .cell b (o + i)
    · subst hk; simp only [if_true]; exact .inr (.inl ⟨j.own e, rfl⟩)
    · simp only [if_neg hk]; exact j k
  · intro i' v' hv
    dsimp only
    by_cases hk : i' = i
    · subst hk; simp [hi] at hv; subst hv; simp
    · rw [if_neg (by simp; omega)]; rw [List.getElem?_set_ne (by omega)] at hv; exact c i' v' hv

theorem Adv.alloc (w : World) (o : Obj) : Adv w (w.alloc o) :=
  ⟨rfl, rfl, rfl, by simp, fun b hb => by rw [heap_alloc_old (h := hb)]; exact .refl _⟩
theorem Adv.drew (w : World) : Adv w w.drew := ⟨rfl, rfl, rfl, Nat.le_refl _, fun _ _ => .refl _⟩
theorem Models.drew {h : PH} (m : Models w h) : Models w.drew h := fun k p x e => by
  have := m k p x e
  cases k <;> cases x <;> first | exact this.elim | exact this
theorem Sat.drew (h : Sat Γ F w) : Sat Γ F w.drew := let ⟨h, a, m⟩ := h; ⟨h, a, m.drew⟩
theorem Models.fresh {h : PH} (m : Models w h) (k : Key) (hk : ∀ b o, k = .cell b o → w.heap.size ≤ b) (hk' : ∀ b, k = .obj b → w.heap.size ≤ b) : h k = none := by
  cases e : h k with
  | none => rfl
  | some x =>
    obtain ⟨p, x⟩ := x
    have := m k p x e
    cases k with
    | cell b o =>
      cases x with
      | ob _ => exact this.elim
      | val v => have h1 := World.block_lt_of_cell? w _ this.1; have := hk b o rfl; simp at h1; omega
    | obj b =>
      cases x with
      | val _ => exact this.elim
      | ob v => have h1 := (Array.getElem?_eq_some_iff.1 this.1).1; have := hk' b rfl; omega
theorem Models.alloc {h : PH} (m : Models w h) (o : Obj) : Models (w.alloc o) h := by
  intro k p x e
  have := m k p x e
  cases k with
  | cell b i =>
    cases x with
    | ob _ => exact this.elim
    | val v =>
      have h1 := World.block_lt_of_cell? w _ this.1
      exact ⟨by rw [World.cell?_alloc_lt (h := h1)]; exact this.1, fun hp => by rw [World.frozen?_alloc_old (h := by simp at h1 ⊢; omega)]; exact this.2 hp⟩
  | obj b =>
    cases x with
    | val _ => exact this.elim
    | ob v =>
      have h1 := (Array.getElem?_eq_some_iff.1 this.1).1
      exact ⟨by rw [heap_alloc_old (h := h1)]; exact this.1, this.2⟩

theorem Sat.alloc (h : Sat Γ F w) (cs : Array Value) (e : TypeId) : Sat (cells true w.heap.size 0 cs.toList :: Γ) F (w.alloc (.cells cs e)) := by
  obtain ⟨h, g, m⟩ := h
  have hn : ∀ i, h (.cell w.heap.size i) = none := fun i => m.fresh _ (by simp +contextual) (by simp)
  refine ⟨fun | .cell b i => if b = w.heap.size then (cs[i]?).map fun v => (true, .val v) else h (.cell b i) | k => h k,
    ⟨fun | .cell b i => if b = w.heap.size then (cs[i]?).map fun v => (true, .val v) else none | _ => none, h, ?_, ?_, g⟩, ?_⟩
  · intro k
    cases k with
    | obj b => exact .inl ⟨rfl, rfl⟩
    | cell b i =>
      dsimp only
      split
      · rename_i hb; subst hb; exact .inr (.inl ⟨hn i, rfl⟩)
      · exact .inl ⟨rfl, rfl⟩
  · intro i v hv
    simp only [Nat.zero_add, if_true]
    rw [Array.getElem?_toList] at hv
    rw [hv]; rfl
  · intro k p x hx
    cases k with
    | obj b => exact (m.alloc _) _ _ _ hx
    | cell b i =>
      dsimp only at hx
      by_cases hb : b = w.heap.size
      · subst hb
        rw [if_pos rfl] at hx
        cases hc : cs[i]? with
        | none => rw [hc] at hx; cases hx
        | some v =>
          rw [hc] at hx
          simp only [Option.map_some, Option.some.injEq, Prod.mk.injEq] at hx
          obtain ⟨rfl, rfl⟩ := hx
          have hg := heap_alloc_new w (.cells cs e)
          exact ⟨by rw [cell_of_row _ _ _ cs e (0, 0) hg]; exact hc, fun _ => frozen_of_row _ _ _ cs e hg⟩
      · rw [if_neg hb] at hx; exact (m.alloc _) _ _ _ hx

theorem Sat.allocObj (h : Sat Γ F w) (o : Obj) (ho : ∀ c e f, o ≠ .cells c e f) : Sat (objc true w.heap.size o :: Γ) F (w.alloc o) := by
  obtain ⟨h, g, m⟩ := h
  have hn : h (.obj w.heap.size) = none := m.fresh _ (by simp) (by simp +contextual)
  refine ⟨fun k => if k = .obj w.heap.size then some (true, .ob o) else h k, ⟨fun k => if k = .obj w.heap.size then some (true, .ob o) else none, h, ?_, by simp [objc], g⟩, ?_⟩
  · intro k
    dsimp only
    by_cases hk : k = .obj w.heap.size
    · subst hk; simp only [if_true]; exact .inr (.inl ⟨hn, rfl⟩)
    · simp only [if_neg hk]; exact .inl ⟨rfl, rfl⟩
  · intro k p x hx
    dsimp only at hx
    by_cases hk : k = .obj w.heap.size
    · subst hk
      simp only [if_true, Option.some.injEq, Prod.mk.injEq] at hx
      obtain ⟨rfl, rfl⟩ := hx
      exact ⟨heap_alloc_new w o, ho⟩
    · rw [if_neg hk] at hx; exact (m.alloc _) _ _ _ hx

def World.setOb (w : World) (b : Nat) (o : Obj) : World := { w with heap := w.heap.setIfInBounds b o }
theorem Sat.setObj {b : Nat} {o o' : Obj} (h : Sat (objc true b o :: Γ) F w) (ho : ∀ c e f, o' ≠ .cells c e f) : Sat (objc true b o' :: Γ) F (World.setOb w b o') := by
  obtain ⟨h, ⟨h1, h2, j, c, g⟩, m⟩ := h
  have e : h1 (.obj b) = some (true, .ob o) := c
  have hb := m _ _ _ (j.left e)
  refine ⟨fun k => if k = .obj b then some (true, .ob o') else h k, ⟨fun k => if k = .obj b then some (true, .ob o') else h1 k, h2, ?_, by simp [objc], g⟩, ?_⟩
  · intro k
    dsimp only
    by_cases hk : k = .obj b
    · subst hk; simp only [if_true]; exact .inr (.inl ⟨j.own e, rfl⟩)
    · simp only [if_neg hk]; exact j k
  · intro k p x hx
    dsimp only at hx
    have hlt := (Array.getElem?_eq_some_iff.1 hb.1).1
    by_cases hk : k = .obj b
    · subst hk
      simp only [if_true, Option.some.injEq, Prod.mk.injEq] at hx
      obtain ⟨rfl, rfl⟩ := hx
      exact ⟨by simp [World.setOb, hlt], ho⟩
    · rw [if_neg hk] at hx
      have hm := m _ _ _ hx
      cases k with
      | cell b' i =>
        cases x with
        | ob _ => exact hm.elim
        | val v =>
          have hne : b' ≠ b := by
            rintro rfl
            have h1 := hm.1
            simp only [World.cell?, hb.1] at h1
            cases o <;> simp at h1
            exact hb.2 _ _ _ rfl
          have he : (World.setOb w b o').heap[b']? = w.heap[b']? := by simp [World.setOb, Array.getElem?_setIfInBounds_ne (Ne.symm hne)]
          exact ⟨by rw [World.cell?_of_block he]; exact hm.1, fun hp => by rw [World.frozen?_of_block he]; exact hm.2 hp⟩
      | obj b' =>
        cases x with
        | val _ => exact hm.elim
        | ob v =>
          have hne : b' ≠ b := by rintro rfl; exact hk rfl
          have he : (World.setOb w b o').heap[b']? = w.heap[b']? := by simp [World.setOb, Array.getElem?_setIfInBounds_ne (Ne.symm hne)]
          exact ⟨by rw [he]; exact hm.1, hm.2⟩
theorem Adv.setOb {b : Nat} {o o' : Obj} (hb : w.heap[b]? = some o) (h : ∀ c e f, o ≠ .cells c e f) (h' : ∀ c e f, o' ≠ .cells c e f) : Adv w (World.setOb w b o') := by
  refine ⟨rfl, rfl, rfl, by simp [World.setOb], fun k hk => ?_⟩
  by_cases e : k = b
  · subst e
    rw [hb]; simp only [World.setOb, Array.getElem?_setIfInBounds, if_true, hk]
    cases o <;> cases o' <;> simp_all [Like]
  · simp only [World.setOb, Array.getElem?_setIfInBounds_ne (Ne.symm e)]; exact .refl _
end

/-- The whole world, to be read alone. -/
def whole (w : World) : A := fun h =>
  (∀ b o v, w.cell? ⟨b, o, none⟩ = some v → h (.cell b o) = some (false, .val v)) ∧
  (∀ b o, w.heap[b]? = some o → (∀ c e f, o ≠ .cells c e f) → h (.obj b) = some (false, .ob o))
theorem Sat.whole (w : World) : Sat [whole w] (whole w) w := by
  let h : PH := fun
    | .cell b o => (w.cell? ⟨b, o, none⟩).map fun v => (false, .val v)
    | .obj b => match w.heap[b]? with
      | some (.cells ..) => none
      | some o => some (false, .ob o)
      | none => none
  have hw : Sl.whole w h := by
    refine ⟨fun b o v e => by simp [h, e], fun b o e ho => ?_⟩
    simp only [h, e]
    all_goals (cases o <;> simp_all)
  have hj : Join h h h := by
    intro k
    cases e : h k with
    | none => exact .inl ⟨rfl, rfl⟩
    | some x =>
      refine .inr (.inr ?_)
      cases k with
      | cell b o =>
        simp only [h] at e
        cases hc : w.cell? ⟨b, o, none⟩ with
        | none => rw [hc] at e; cases e
        | some v => rw [hc] at e; simp at e; subst e; exact ⟨_, rfl, rfl, rfl⟩
      | obj b =>
        simp only [h] at e
        cases hc : w.heap[b]? with
        | none => rw [hc] at e; cases e
        | some o => rw [hc] at e; cases o <;> simp at e <;> (subst e; exact ⟨_, rfl, rfl, rfl⟩)
  refine ⟨h, ⟨h, h, hj, hw, hw⟩, ?_⟩
  intro k p x e
  cases k with
  | cell b o =>
    simp only [h] at e
    cases hc : w.cell? ⟨b, o, none⟩ with
    | none => rw [hc] at e; cases e
    | some v => rw [hc] at e; simp at e; obtain ⟨rfl, rfl⟩ := e; exact ⟨hc, by simp⟩
  | obj b =>
    simp only [h] at e
    cases hc : w.heap[b]? with
    | none => rw [hc] at e; cases e
    | some o => rw [hc] at e; cases o <;> simp at e <;> (obtain ⟨rfl, rfl⟩ := e; exact ⟨hc, by simp⟩)
theorem Pers.whole (w : World) : Pers (whole w) := by
  rintro h ⟨h1, h2⟩
  refine ⟨fun k => match k with
    | .cell b o => if (w.cell? ⟨b, o, none⟩).isSome then h k else none
    | .obj b => match w.heap[b]? with
      | some (.cells ..) => none
      | some _ => h k
      | none => none, ⟨fun b o v e => by simp [e, h1 b o v e], fun b o e ho => ?_⟩, ?_⟩
  · have := h2 b o e ho
    simp only [e]
    all_goals (cases o <;> simp_all)
  · intro k
    cases k with
    | cell b o =>
      dsimp only
      cases e : w.cell? ⟨b, o, none⟩ with
      | none => exact .inl ⟨rfl, rfl⟩
      | some v => have := h1 b o v e; exact .inr (.inr ⟨_, this, this, this⟩)
    | obj b =>
      dsimp only
      cases e : w.heap[b]? with
      | none => exact .inl ⟨rfl, rfl⟩
      | some o =>
        by_cases ho : ∀ c e f, o ≠ .cells c e f
        · have := h2 b o e ho
          cases o <;> first | exact .inl ⟨rfl, rfl⟩ | exact .inr (.inr ⟨_, this, this, this⟩)
        · cases o <;> first | exact .inl ⟨rfl, rfl⟩ | (exfalso; apply ho; simp)
/-- Whatever was kept to be read alone is as it was. -/
theorem Sat.below {w w' : World} {Γ : List A} (h : Sat Γ (Sl.whole w) w') (a : Adv w w') : Below w.heap.size w w' := by
  refine ⟨a.os, a.tape, a.output, a.size, fun k hk => ?_⟩
  have h := Imp.nil Γ _ _ h
  obtain ⟨h, ⟨h1, h2⟩, m⟩ := h
  have hl := a.like k hk
  cases e : w.heap[k]? with
  | none => simp at e; omega
  | some o =>
    rw [e] at hl
    by_cases ho : ∀ c e f, o ≠ .cells c e f
    · exact (m _ _ _ (h2 k o e ho)).1
    · cases o with
      | cells c t f =>
        cases e' : w'.heap[k]? with
        | none => rw [e'] at hl; exact hl.elim
        | some o' =>
          rw [e'] at hl
          cases o' with
          | cells c' t' f' =>
            obtain ⟨hs, rfl, rfl⟩ := hl
            have : c' = c := by
              apply Array.ext hs
              intro i hi1 hi2
              have hc : w.cell? ⟨k, i, none⟩ = some c[i] := by rw [cell_of_row w k i c t' f' e]; simp [hi2]
              have := (m _ _ _ (h1 k i _ hc)).1
              rw [cell_of_row w' k i c' t' f' e'] at this
              simpa [hi1] using this
            rw [this]
          | _ => exact hl.elim
      | _ => exact absurd (by simp) ho
end Go.Sl
