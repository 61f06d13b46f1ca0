/- Texts of this claim, merged: SlA, SlB, SlC, SlD, SlE, SlF, SlG, SlH, SlI, SlJ, SlK, SlM, SlN. -/
import Derived.WalkKit
import Derived.Deep.Quiet
import Derived.RangeFuncOwn
import Derived.RangeFuncRecord
/- Separation logic over the model's memory: partial heaps, assertions, worlds that satisfy them, what a load, a store, a new block do to them. No program in it. -/
namespace Go.Sl
open Go Go.RowKit

inductive Key where
  | cell (b o : Nat)
  | obj (b : Nat)
  deriving DecidableEq

inductive KV where
  | val (v : Value)
  | ob (o : Obj)

/-- A partial heap: what stands at a place, and whether it may be written. -/
abbrev PH := Key → Option (Bool × KV)

def J3 (x y z : Option (Bool × KV)) : Prop :=
  (x = none ∧ z = y) ∨ (y = none ∧ z = x) ∨ ∃ v, x = some (false, v) ∧ y = some (false, v) ∧ z = some (false, v)

def Join (h1 h2 h : PH) : Prop := ∀ k, J3 (h1 k) (h2 k) (h k)

theorem J3.comm {x y z} (h : J3 x y z) : J3 y x z := by
  rcases h with ⟨a, b⟩ | ⟨a, b⟩ | ⟨v, a, b, c⟩
  · exact .inr (.inl ⟨a, b⟩)
  · exact .inl ⟨a, b⟩
  · exact .inr (.inr ⟨v, b, a, c⟩)

theorem Join.comm {h1 h2 h} (j : Join h1 h2 h) : Join h2 h1 h := fun k => (j k).comm

def orE (x y : Option (Bool × KV)) : Option (Bool × KV) := match x with | none => y | some x => some x
theorem J3.assoc {a b ab c abc : Option (Bool × KV)} (h : J3 a b ab) (h' : J3 ab c abc) : J3 b c (orE b c) ∧ J3 a (orE b c) abc := by
  unfold orE
  rcases h with ⟨rfl, rfl⟩ | ⟨rfl, rfl⟩ | ⟨v, rfl, rfl, rfl⟩
  · rcases h' with ⟨rfl, rfl⟩ | ⟨rfl, rfl⟩ | ⟨u, rfl, rfl, rfl⟩
    · exact ⟨.inl ⟨rfl, rfl⟩, .inl ⟨rfl, rfl⟩⟩
    · cases abc with
      | none => exact ⟨.inl ⟨rfl, rfl⟩, .inl ⟨rfl, rfl⟩⟩
      | some x => exact ⟨.inr (.inl ⟨rfl, rfl⟩), .inl ⟨rfl, rfl⟩⟩
    · exact ⟨.inr (.inr ⟨u, rfl, rfl, rfl⟩), .inl ⟨rfl, rfl⟩⟩
  · exact ⟨.inl ⟨rfl, rfl⟩, h'⟩
  · rcases h' with ⟨h0, _⟩ | ⟨rfl, rfl⟩ | ⟨u, e, rfl, rfl⟩
    · cases h0
    · exact ⟨.inr (.inl ⟨rfl, rfl⟩), .inr (.inr ⟨v, rfl, rfl, rfl⟩)⟩
    · cases e; exact ⟨.inr (.inr ⟨v, rfl, rfl, rfl⟩), .inr (.inr ⟨v, rfl, rfl, rfl⟩)⟩

theorem Join.assoc {a b ab c abc : PH} (h : Join a b ab) (h' : Join ab c abc) : ∃ bc, Join b c bc ∧ Join a bc abc :=
  ⟨fun k => orE (b k) (c k), fun k => (J3.assoc (h k) (h' k)).1, fun k => (J3.assoc (h k) (h' k)).2⟩

theorem Join.left {h1 h2 h : PH} (j : Join h1 h2 h) {k x} (e : h1 k = some x) : h k = some x := by
  rcases j k with ⟨a, _⟩ | ⟨_, b⟩ | ⟨v, a, _, c⟩
  · rw [a] at e; cases e
  · rw [b, e]
  · rw [c, ← e, a]

theorem Join.right {h1 h2 h : PH} (j : Join h1 h2 h) {k x} (e : h2 k = some x) : h k = some x := j.comm.left e

theorem Join.own {h1 h2 h : PH} (j : Join h1 h2 h) {k x} (e : h1 k = some (true, x)) : h2 k = none := by
  rcases j k with ⟨a, _⟩ | ⟨b, _⟩ | ⟨v, a, _, _⟩
  · rw [a] at e; cases e
  · exact b
  · rw [a] at e; cases e

def KVok (w : World) : Key → Bool → KV → Prop
  | .cell b o, p, .val v => w.cell? ⟨b, o, none⟩ = some v ∧ (p = true → w.frozen? ⟨b, o, none⟩ = false)
  | .obj b, _, .ob o => w.heap[b]? = some o ∧ ∀ c e f, o ≠ .cells c e f
  | _, _, _ => False

def Models (w : World) (h : PH) : Prop := ∀ k p x, h k = some (p, x) → KVok w k p x

theorem Models.sub {w : World} {h1 h2 h : PH} (j : Join h1 h2 h) (m : Models w h) : Models w h1 := fun k p x e => m k p x (j.left e)

/-- An assertion. -/
abbrev A := PH → Prop

def star (P Q : A) : A := fun h => ∃ h1 h2, Join h1 h2 h ∧ P h1 ∧ Q h2
def stars (Γ : List A) (F : A) : A := Γ.foldr star F
def Sat (Γ : List A) (F : A) (w : World) : Prop := ∃ h, stars Γ F h ∧ Models w h
def pu (φ : Prop) : A := fun _ => φ
def ex {α : Sort _} (f : α → A) : A := fun h => ∃ x, f x h
def grp (Δ : List A) : A := stars Δ (fun _ => True)
def cells (p : Bool) (b o : Nat) (vs : List Value) : A := fun h => ∀ (i : Nat) (v : Value), vs[i]? = some v → h (.cell b (o + i)) = some (p, .val v)
def objc (p : Bool) (b : Nat) (o : Obj) : A := fun h => h (.obj b) = some (p, .ob o)

theorem stars_cons (c : A) (Γ : List A) (F : A) : stars (c :: Γ) F = star c (stars Γ F) := rfl
theorem stars_nil (F : A) : stars [] F = F := rfl
theorem stars_append (Γ Δ : List A) (F : A) : stars (Γ ++ Δ) F = stars Γ (stars Δ F) := by simp [stars, List.foldr_append]

theorem star_mono {P Q R : A} (f : ∀ h, Q h → R h) {h : PH} : star P Q h → star P R h
  | ⟨h1, h2, j, a, b⟩ => ⟨h1, h2, j, a, f _ b⟩
theorem star_monoL {P Q R : A} (f : ∀ h, P h → R h) {h : PH} : star P Q h → star R Q h
  | ⟨h1, h2, j, a, b⟩ => ⟨h1, h2, j, f _ a, b⟩
theorem stars_mono {F G : A} (f : ∀ h, F h → G h) : ∀ (Γ : List A) {h : PH}, stars Γ F h → stars Γ G h
  | [], _, hh => f _ hh
  | _ :: Γ, _, hh => star_mono (fun _ => stars_mono f Γ) hh
theorem star_left_comm {P Q R : A} {h : PH} : star P (star Q R) h → star Q (star P R) h
  | ⟨h1, h2, j, p, h3, h4, j', q, r⟩ => by
    -- h = h1 + (h3 + h4)
    obtain ⟨h5, j5, j6⟩ := j'.assoc j.comm   -- h3 + h4 = h2, h2 + h1 = h : h5 = h4 + h1
    exact ⟨h3, h5, j6, q, h1, h4, j5.comm, p, r⟩
theorem star_assoc {P Q R : A} {h : PH} : star (star P Q) R h → star P (star Q R) h
  | ⟨h1, h2, j, ⟨h3, h4, j', p, q⟩, r⟩ => by
    obtain ⟨h5, j5, j6⟩ := j'.assoc j
    exact ⟨h3, h5, j6, p, h4, h2, j5, q, r⟩
theorem star_assoc' {P Q R : A} {h : PH} : star P (star Q R) h → star (star P Q) R h
  | ⟨h1, h2, j, p, h3, h4, j', q, r⟩ => by
    obtain ⟨h5, j5, j6⟩ := j'.comm.assoc j.comm   -- h4 + h3 = h2; h2 + h1 = h: h5 = h3 + h1; h4 + h5 = h
    exact ⟨h5, h4, j6.comm, ⟨h1, h3, j5.comm, p, q⟩, r⟩
theorem stars_star (c : A) (F : A) : ∀ (Γ : List A) {h : PH}, stars Γ (star c F) h → star c (stars Γ F) h
  | [], _, hh => hh
  | d :: Γ, _, hh => star_left_comm (star_mono (fun _ => stars_star c F Γ) hh)
theorem stars_star' (c : A) (F : A) : ∀ (Γ : List A) {h : PH}, star c (stars Γ F) h → stars Γ (star c F) h
  | [], _, hh => hh
  | d :: Γ, _, hh => star_mono (fun _ => stars_star' c F Γ) (star_left_comm hh)
theorem stars_perm {Γ Δ : List A} (p : Γ.Perm Δ) : ∀ {F : A} {h : PH}, stars Γ F h → stars Δ F h := by
  induction p with
  | nil => exact id
  | cons c _ ih => exact fun hh => star_mono (fun _ => ih) hh
  | swap a b l => exact fun hh => star_left_comm hh
  | trans _ _ ih1 ih2 => exact fun hh => ih2 (ih1 hh)
theorem join_empty (h : PH) : Join (fun _ => none) h h := fun _ => .inl ⟨rfl, rfl⟩

/-- One list of assertions gives another one. -/
def Imp (Γ Δ : List A) : Prop := ∀ F w, Sat Γ F w → Sat Δ F w
theorem Imp.refl (Γ : List A) : Imp Γ Γ := fun _ _ h => h
theorem Imp.trans {Γ Δ Θ : List A} (a : Imp Γ Δ) (b : Imp Δ Θ) : Imp Γ Θ := fun F w h => b F w (a F w h)
theorem Imp.perm {Γ Δ : List A} (p : Γ.Perm Δ) : Imp Γ Δ := fun _ _ ⟨h, a, m⟩ => ⟨h, stars_perm p a, m⟩
theorem Imp.drop (c : A) (Γ : List A) : Imp (c :: Γ) Γ := fun _ _ ⟨_, ⟨_, h2, j, _, b⟩, m⟩ => ⟨h2, b, m.sub j.comm⟩
theorem Sat.shift {c : A} {Γ : List A} {F : A} {w : World} (h : Sat (c :: Γ) F w) : Sat Γ (star c F) w := let ⟨h, a, m⟩ := h; ⟨h, stars_star' c F Γ a, m⟩
theorem Sat.unshift {c : A} {Γ : List A} {F : A} {w : World} (h : Sat Γ (star c F) w) : Sat (c :: Γ) F w := let ⟨h, a, m⟩ := h; ⟨h, stars_star c F Γ a, m⟩
theorem Sat.monoF {Γ : List A} {F G : A} {w : World} (f : ∀ h, F h → G h) (h : Sat Γ F w) : Sat Γ G w := let ⟨h, a, m⟩ := h; ⟨h, stars_mono f Γ a, m⟩
theorem Sat.app {Γ Δ : List A} {F : A} {w : World} : Sat (Γ ++ Δ) F w ↔ Sat Γ (stars Δ F) w := by unfold Sat; rw [stars_append]
theorem Imp.frame {Γ Δ : List A} (i : Imp Γ Δ) (Θ : List A) : Imp (Γ ++ Θ) (Δ ++ Θ) := fun F w h => Sat.app.2 (i _ w (Sat.app.1 h))
theorem Imp.cons {Γ Δ : List A} (c : A) (i : Imp Γ Δ) : Imp (c :: Γ) (c :: Δ) := fun F w h => Sat.unshift (i _ w h.shift)
theorem Imp.pre {Γ Δ : List A} (Θ : List A) (i : Imp Γ Δ) : Imp (Θ ++ Γ) (Θ ++ Δ) := by
  induction Θ with
  | nil => exact i
  | cons c Θ ih => exact ih.cons c
theorem Imp.nil (Γ : List A) : Imp Γ [] := by
  induction Γ with
  | nil => exact .refl _
  | cons c Γ ih => exact (Imp.drop c Γ).trans ih
theorem Sat.pure {φ : Prop} {Γ : List A} {F : A} {w : World} : Sat (pu φ :: Γ) F w ↔ φ ∧ Sat Γ F w :=
  ⟨fun ⟨_, ⟨_, h2, j, p, b⟩, m⟩ => ⟨p, h2, b, m.sub j.comm⟩, fun ⟨p, h, b, m⟩ => ⟨h, ⟨_, h, join_empty h, p, b⟩, m⟩⟩
theorem Sat.ex {α : Sort _} {f : α → A} {Γ : List A} {F : A} {w : World} : Sat (ex f :: Γ) F w ↔ ∃ x, Sat (f x :: Γ) F w :=
  ⟨fun ⟨h, ⟨h1, h2, j, ⟨x, p⟩, b⟩, m⟩ => ⟨x, h, ⟨h1, h2, j, p, b⟩, m⟩, fun ⟨x, h, ⟨h1, h2, j, p, b⟩, m⟩ => ⟨h, ⟨h1, h2, j, ⟨x, p⟩, b⟩, m⟩⟩
theorem Sat.star {P Q : A} {Γ : List A} {F : A} {w : World} : Sat (star P Q :: Γ) F w ↔ Sat (P :: Q :: Γ) F w :=
  ⟨fun ⟨h, a, m⟩ => ⟨h, star_assoc a, m⟩, fun ⟨h, a, m⟩ => ⟨h, star_assoc' a, m⟩⟩
theorem Sat.grp {Δ Γ : List A} {F : A} {w : World} : Sat (grp Δ :: Γ) F w ↔ Sat (Δ ++ Γ) F w := by
  induction Δ generalizing Γ F with
  | nil =>
    show Sat (_ :: Γ) F w ↔ Sat Γ F w
    exact ⟨Imp.drop _ _ F w, fun ⟨h, b, m⟩ => ⟨h, ⟨_, h, join_empty h, trivial, b⟩, m⟩⟩
  | cons c Δ ih =>
    show Sat (Sl.star c (Sl.grp Δ) :: Γ) F w ↔ _
    rw [Sat.star]
    exact ⟨fun h => Sat.unshift (ih.1 (Sat.shift (Imp.perm (.swap _ _ _) F w (Imp.perm (.swap _ _ _) F w h)))), fun h => Sat.unshift (ih.2 h.shift)⟩
theorem Sat.cons {c d : A} {Γ : List A} {F : A} {w : World} (f : ∀ h, c h → d h) (h : Sat (c :: Γ) F w) : Sat (d :: Γ) F w :=
  let ⟨h, a, m⟩ := h; ⟨h, star_monoL f a, m⟩

/-- What may be had twice. -/
def Pers (c : A) : Prop := ∀ h, c h → ∃ h', c h' ∧ Join h' h h
theorem Sat.dup {c : A} (p : Pers c) {Γ : List A} {F : A} {w : World} (h : Sat (c :: Γ) F w) : Sat (c :: c :: Γ) F w := by
  obtain ⟨h, ⟨h1, h2, j, a, b⟩, m⟩ := h
  obtain ⟨h3, a3, j3⟩ := p h1 a
  obtain ⟨h4, j4, j5⟩ := j3.assoc j
  exact ⟨h, ⟨h3, h4, j5, a3, h1, h2, j4, a, b⟩, m⟩
theorem Pers.pu (φ : Prop) : Pers (pu φ) := fun h p => ⟨fun _ => none, p, join_empty h⟩
theorem Pers.ex {α : Sort _} {f : α → A} (p : ∀ x, Pers (f x)) : Pers (Sl.ex f) := fun h ⟨x, c⟩ => let ⟨h', c', j⟩ := p x h c; ⟨h', ⟨x, c'⟩, j⟩
theorem Join.dupR {h1 h2 h h' : PH} (j' : Join h' h1 h1) (j : Join h1 h2 h) : Join h' h h := by
  intro k
  rcases j' k with ⟨a, _⟩ | ⟨a, b⟩ | ⟨v, a, b, _⟩
  · exact .inl ⟨a, rfl⟩
  · rcases j k with ⟨c, d⟩ | ⟨c, d⟩ | ⟨u, c, d, e⟩
    · rw [c] at b; exact .inl ⟨b.symm, rfl⟩
    · rw [a] at b; exact .inl ⟨b.symm, rfl⟩
    · rw [c] at a; cases a
  · exact .inr (.inr ⟨v, a, j.left b, j.left b⟩)
theorem Pers.star {P Q : A} (p : Pers P) (q : Pers Q) : Pers (star P Q) := by
  rintro h ⟨h1, h2, j, a, b⟩
  obtain ⟨h1', a', j1⟩ := p h1 a
  obtain ⟨h2', b', j2⟩ := q h2 b
  refine ⟨fun k => orE (h1' k) (h2' k), ⟨h1', h2', ?_, a', b'⟩, ?_⟩
  · intro k
    have e1 := Join.dupR j1 j k
    have e2 := Join.dupR j2 j.comm k
    dsimp only
    cases x1 : h1' k with
    | none => exact .inl ⟨rfl, rfl⟩
    | some x =>
      rcases e1 with ⟨c, _⟩ | ⟨c, d⟩ | ⟨v, c, d, _⟩
      · rw [c] at x1; cases x1
      · rw [c] at d; rw [← d] at x1; cases x1
      · rcases e2 with ⟨c', _⟩ | ⟨c', d'⟩ | ⟨v', c', d', _⟩
        · exact .inr (.inl ⟨c', rfl⟩)
        · rw [d] at c'; cases c'
        · rw [c] at x1; cases x1; rw [d] at d'; cases d'; exact .inr (.inr ⟨v, rfl, c', rfl⟩)
  · intro k
    have e1 := Join.dupR j1 j k
    have e2 := Join.dupR j2 j.comm k
    dsimp only
    cases x1 : h1' k with
    | none => exact e2
    | some x => rw [x1] at e1; exact e1
theorem Pers.stars {F : A} (f : Pers F) : ∀ (Γ : List A), (∀ c ∈ Γ, Pers c) → Pers (stars Γ F)
  | [], _ => f
  | c :: Γ, h => (h c (by simp)).star (Pers.stars f Γ fun d hd => h d (by simp [hd]))
theorem Pers.grp {Γ : List A} (h : ∀ c ∈ Γ, Pers c) : Pers (grp Γ) := Pers.stars (Pers.pu True) Γ h
theorem Pers.cells (b o : Nat) (vs : List Value) : Pers (cells false b o vs) := by
  intro h c
  refine ⟨fun | .cell b' o' => if b' = b ∧ o ≤ o' ∧ o' - o < vs.length then h (.cell b' o') else none | .obj _ => none, ?_, ?_⟩
  · intro i v hv
    have hi : i < vs.length := (List.getElem?_eq_some_iff.1 hv).1
    simp only [show o ≤ o + i by omega, show o + i - o = i by omega, hi, true_and, and_self, if_true]
    exact c i v hv
  · intro k
    cases k with
    | obj b' => exact .inl ⟨rfl, rfl⟩
    | cell b' o' =>
      dsimp only
      by_cases hk : b' = b ∧ o ≤ o' ∧ o' - o < vs.length
      · obtain ⟨rfl, h1, h2⟩ := hk
        have := c (o' - o) vs[o' - o] (by simp [h2])
        rw [show o + (o' - o) = o' by omega] at this
        simp only [h1, h2, and_self, if_true]
        exact .inr (.inr ⟨_, this, this, this⟩)
      · simp only [hk, if_false]; exact .inl ⟨rfl, rfl⟩
theorem Pers.objc (b : Nat) (o : Obj) : Pers (objc false b o) := by
  intro h c
  refine ⟨fun k => if k = .obj b then h k else none, by simpa [Sl.objc] using c, ?_⟩
  intro k
  dsimp only
  by_cases hk : k = .obj b
  · subst hk; simp only [if_true]; exact .inr (.inr ⟨_, c, c, c⟩)
  · simp only [hk, if_false]; exact .inl ⟨rfl, rfl⟩

theorem cells_nil (p : Bool) (b o : Nat) (h : PH) : cells p b o [] h := by intro i v hv; simp at hv
theorem cells_join {p : Bool} {b o : Nat} {xs ys : List Value} {h : PH} (hh : star (cells p b o xs) (cells p b (o + xs.length) ys) h) : cells p b o (xs ++ ys) h := by
  obtain ⟨h1, h2, j, c, d⟩ := hh
  intro i v hv
  by_cases hi : i < xs.length
  · rw [List.getElem?_append_left hi] at hv; exact j.left (c i v hv)
  · rw [List.getElem?_append_right (by omega)] at hv
    have := d _ _ hv
    rw [show o + xs.length + (i - xs.length) = o + i by omega] at this
    exact j.right this
theorem cells_split {p : Bool} {b o : Nat} {xs ys : List Value} {h : PH} (hh : cells p b o (xs ++ ys) h) : star (cells p b o xs) (cells p b (o + xs.length) ys) h := by
  refine ⟨fun k => if ∃ i, i < xs.length ∧ k = .cell b (o + i) then h k else none, fun k => if ∃ i, i < xs.length ∧ k = .cell b (o + i) then none else h k, ?_, ?_, ?_⟩
  · intro k
    dsimp only
    split
    · exact .inr (.inl ⟨rfl, rfl⟩)
    · exact .inl ⟨rfl, rfl⟩
  · intro i v hv
    have hi : i < xs.length := (List.getElem?_eq_some_iff.1 hv).1
    dsimp only
    rw [if_pos ⟨i, hi, rfl⟩]
    exact hh i v (by rw [List.getElem?_append_left hi]; exact hv)
  · intro i v hv
    dsimp only
    rw [if_neg (by rintro ⟨j, hj, e⟩; simp at e; omega)]
    have := hh (xs.length + i) v (by rw [List.getElem?_append_right (by omega)]; simpa using hv)
    rw [← this]; congr 2; omega
theorem Imp.split (p : Bool) (b o : Nat) (xs ys : List Value) (Γ : List A) : Imp (cells p b o (xs ++ ys) :: Γ) (cells p b o xs :: cells p b (o + xs.length) ys :: Γ) :=
  fun _ _ h => Sat.star.1 (h.cons fun _ => cells_split)
theorem Imp.join (p : Bool) (b o : Nat) (xs ys : List Value) (Γ : List A) : Imp (cells p b o xs :: cells p b (o + xs.length) ys :: Γ) (cells p b o (xs ++ ys) :: Γ) :=
  fun _ _ h => (Sat.star.2 h).cons fun _ => cells_join

/-- What was ours is nobody's any more: it may be read for ever. -/
theorem Imp.freeze (b o : Nat) (vs : List Value) (Γ : List A) : Imp (cells true b o vs :: Γ) (cells false b o vs :: Γ) := by
  rintro F w ⟨h, ⟨h1, h2, j, c, g⟩, m⟩
  let t : PH → PH := fun h k => if ∃ i, i < vs.length ∧ k = .cell b (o + i) then (h k).map fun x => (false, x.2) else h k
  have own : ∀ k, (∃ i, i < vs.length ∧ k = .cell b (o + i)) → ∃ v, h1 k = some (true, .val v) ∧ h2 k = none ∧ h k = some (true, .val v) := by
    rintro k ⟨i, hi, rfl⟩
    have e := c i vs[i] (by simp [hi])
    exact ⟨_, e, j.own e, j.left e⟩
  refine ⟨t h, ⟨t h1, h2, ?_, ?_, g⟩, ?_⟩
  · intro k
    by_cases hk : ∃ i, i < vs.length ∧ k = .cell b (o + i)
    · obtain ⟨v, e1, e2, e3⟩ := own k hk
      simp only [t, if_pos hk, e1, e2, e3, Option.map_some]
      exact .inr (.inl ⟨rfl, rfl⟩)
    · simp only [t, if_neg hk]; exact j k
  · intro i v hv
    have hi : i < vs.length := (List.getElem?_eq_some_iff.1 hv).1
    simp only [t, if_pos (⟨i, hi, rfl⟩ : ∃ i', i' < vs.length ∧ Key.cell b (o + i) = .cell b (o + i')), c i v hv, Option.map_some]
  · intro k p x e
    by_cases hk : ∃ i, i < vs.length ∧ k = .cell b (o + i)
    · obtain ⟨v, e1, e2, e3⟩ := own k hk
      simp only [t, if_pos hk, e3, Option.map_some, Option.some.injEq, Prod.mk.injEq] at e
      obtain ⟨rfl, rfl⟩ := e
      obtain ⟨i, hi, rfl⟩ := hk
      exact ⟨(m _ _ _ e3).1, by simp⟩
    · simp only [t, if_neg hk] at e; exact m k p x e

/-- How a world goes on. -/
def Like : Option Obj → Option Obj → Prop
  | some (.cells c e f), some (.cells c' e' f') => c'.size = c.size ∧ e' = e ∧ f' = f
  | some (.cells ..), _ => False
  | some _, some (.cells ..) => False
  | some _, some _ => True
  | some _, none => False
  | none, _ => True
theorem Like.refl (x : Option Obj) : Like x x := by cases x with | none => trivial | some o => cases o <;> simp [Like]
theorem Like.trans {x y z : Option Obj} (h : Like x y) (h' : Like y z) : Like x z := by
  cases x with
  | none => trivial
  | some a => cases y with
    | none => cases a <;> simp [Like] at h
    | some b => cases z with
      | none => cases b <;> simp [Like] at h'
      | some c => cases a <;> cases b <;> simp [Like] at h <;> cases c <;> simp_all [Like]

structure Adv (w w' : World) : Prop where
  os : w'.os = w.os
  tape : w'.tape = w.tape
  output : w'.output = w.output
  size : w.heap.size ≤ w'.heap.size
  like : ∀ b : Nat, b < w.heap.size → Like w.heap[b]? w'.heap[b]?
theorem Adv.refl (w : World) : Adv w w := ⟨rfl, rfl, rfl, Nat.le_refl _, fun _ _ => .refl _⟩
theorem Adv.trans {a b c : World} (h : Adv a b) (k : Adv b c) : Adv a c :=
  ⟨k.os.trans h.os, k.tape.trans h.tape, k.output.trans h.output, Nat.le_trans h.size k.size, fun i hi => (h.like i hi).trans (k.like i (Nat.lt_of_lt_of_le hi h.size))⟩

section
variable {Γ : List A} {F : A} {w : World}
theorem Sat.cell {p : Bool} {b o i : Nat} {vs : List Value} {v : Value} (h : Sat (cells p b o vs :: Γ) F w) (hv : vs[i]? = some v) : w.cell? ⟨b, o + i, none⟩ = some v :=
  let ⟨_, ⟨_, _, j, c, _⟩, m⟩ := h
  (m _ _ _ (j.left (c i v hv))).1
theorem Sat.unfrozen {b o i : Nat} {vs : List Value} (h : Sat (cells true b o vs :: Γ) F w) (hi : i < vs.length) : w.frozen? ⟨b, o + i, none⟩ = false :=
  let ⟨_, ⟨_, _, j, c, _⟩, m⟩ := h
  (m _ _ _ (j.left (c i vs[i] (by simp [hi])))).2 rfl
theorem Sat.object {p : Bool} {b : Nat} {o : Obj} (h : Sat (objc p b o :: Γ) F w) : w.heap[b]? = some o :=
  let ⟨_, ⟨_, _, j, c, _⟩, m⟩ := h
  (m _ _ _ (j.left c)).1

theorem Models.setCell {h : PH} {b o : Nat} {u v : Value} (m : Models w h) (e : h (.cell b o) = some (true, .val u)) :
    Models (w.setCell ⟨b, o, none⟩ v) (fun k => if k = .cell b o then some (true, .val v) else h k) := by
  intro k p x hx
  have hc := m _ _ _ e
  dsimp only at hx
  by_cases hk : k = .cell b o
  · subst hk
    simp only [if_true, Option.some.injEq, Prod.mk.injEq] at hx
    obtain ⟨rfl, rfl⟩ := hx
    exact ⟨World.cell?_setCell_same _ _ _ hc.1, fun _ => by rw [show (w.setCell ⟨b, o, none⟩ v).frozen? ⟨b, o, none⟩ = w.frozen? ⟨b, o, none⟩ by simp]; exact hc.2 rfl⟩
  · rw [if_neg hk] at hx
    have hm := m _ _ _ hx
    cases k with
    | cell b' o' =>
      cases x with
      | ob _ => exact hm.elim
      | val u' =>
        refine ⟨?_, fun hp => ?_⟩
        · rw [World.cell?_setCell_other (h := by intro he; apply hk; cases he; rfl)]; exact hm.1
        · rw [show (w.setCell ⟨b, o, none⟩ v).frozen? ⟨b', o', none⟩ = w.frozen? ⟨b', o', none⟩ by simp]; exact hm.2 hp
    | obj b' =>
      cases x with
      | val _ => exact hm.elim
      | ob o' =>
        refine ⟨?_, hm.2⟩
        rw [heap_setCell_other]
        · exact hm.1
        · rintro rfl
          have h1 := hc.1
          simp only [World.cell?, hm.1] at h1
          cases o' <;> simp at h1
          exact hm.2 _ _ _ rfl

theorem Adv.setCell (w : World) (a : Addr) (v : Value) : Adv w (w.setCell a v) := by
  refine ⟨rfl, rfl, rfl, by simp [World.setCell], fun b hb => ?_⟩
  by_cases h : b = a.block
  · subst h
    simp only [World.setCell, Array.getElem?_modify, if_true]
    cases e : w.heap[a.block]? with
    | none => trivial
    | some o => cases o <;> simp [Like]; split <;> simp
  · rw [heap_setCell_other w a b v h]; exact .refl _

theorem Sat.store {b o i : Nat} {vs : List Value} {v : Value} (h : Sat (cells true b o vs :: Γ) F w) (hi : i < vs.length) :
    Sat (cells true b o (vs.set i v) :: Γ) F (w.setCell ⟨b, o + i, none⟩ v) := by
  obtain ⟨h, ⟨h1, h2, j, c, g⟩, m⟩ := h
  have e := c i vs[i] (by simp [hi])
  refine ⟨_, ⟨fun k => if k = .cell b (o + i) then some (true, .val v) else h1 k, h2, ?_, ?_, g⟩, m.setCell (j.left e)⟩
  · intro k
    dsimp only
    by_cases hk : k = .cell b (o + i)
    · subst hk; simp only [if_true]; exact .inr (.inl ⟨j.own e, rfl⟩)
    · simp only [if_neg hk]; exact j k
  · intro i' v' hv
    dsimp only
    by_cases hk : i' = i
    · subst hk; simp [hi] at hv; subst hv; simp
    · rw [if_neg (by simp; omega)]; rw [List.getElem?_set_ne (by omega)] at hv; exact c i' v' hv

theorem Adv.alloc (w : World) (o : Obj) : Adv w (w.alloc o) :=
  ⟨rfl, rfl, rfl, by simp, fun b hb => by rw [heap_alloc_old (h := hb)]; exact .refl _⟩
theorem Adv.drew (w : World) : Adv w w.drew := ⟨rfl, rfl, rfl, Nat.le_refl _, fun _ _ => .refl _⟩
theorem Models.drew {h : PH} (m : Models w h) : Models w.drew h := fun k p x e => by
  have := m k p x e
  cases k <;> cases x <;> first | exact this.elim | exact this
theorem Sat.drew (h : Sat Γ F w) : Sat Γ F w.drew := let ⟨h, a, m⟩ := h; ⟨h, a, m.drew⟩
theorem Models.fresh {h : PH} (m : Models w h) (k : Key) (hk : ∀ b o, k = .cell b o → w.heap.size ≤ b) (hk' : ∀ b, k = .obj b → w.heap.size ≤ b) : h k = none := by
  cases e : h k with
  | none => rfl
  | some x =>
    obtain ⟨p, x⟩ := x
    have := m k p x e
    cases k with
    | cell b o =>
      cases x with
      | ob _ => exact this.elim
      | val v => have h1 := World.block_lt_of_cell? w _ this.1; have := hk b o rfl; simp at h1; omega
    | obj b =>
      cases x with
      | val _ => exact this.elim
      | ob v => have h1 := (Array.getElem?_eq_some_iff.1 this.1).1; have := hk' b rfl; omega
theorem Models.alloc {h : PH} (m : Models w h) (o : Obj) : Models (w.alloc o) h := by
  intro k p x e
  have := m k p x e
  cases k with
  | cell b i =>
    cases x with
    | ob _ => exact this.elim
    | val v =>
      have h1 := World.block_lt_of_cell? w _ this.1
      exact ⟨by rw [World.cell?_alloc_lt (h := h1)]; exact this.1, fun hp => by rw [World.frozen?_alloc_old (h := by simp at h1 ⊢; omega)]; exact this.2 hp⟩
  | obj b =>
    cases x with
    | val _ => exact this.elim
    | ob v =>
      have h1 := (Array.getElem?_eq_some_iff.1 this.1).1
      exact ⟨by rw [heap_alloc_old (h := h1)]; exact this.1, this.2⟩

theorem Sat.alloc (h : Sat Γ F w) (cs : Array Value) (e : TypeId) : Sat (cells true w.heap.size 0 cs.toList :: Γ) F (w.alloc (.cells cs e)) := by
  obtain ⟨h, g, m⟩ := h
  have hn : ∀ i, h (.cell w.heap.size i) = none := fun i => m.fresh _ (by simp +contextual) (by simp)
  refine ⟨fun | .cell b i => if b = w.heap.size then (cs[i]?).map fun v => (true, .val v) else h (.cell b i) | k => h k,
    ⟨fun | .cell b i => if b = w.heap.size then (cs[i]?).map fun v => (true, .val v) else none | _ => none, h, ?_, ?_, g⟩, ?_⟩
  · intro k
    cases k with
    | obj b => exact .inl ⟨rfl, rfl⟩
    | cell b i =>
      dsimp only
      split
      · rename_i hb; subst hb; exact .inr (.inl ⟨hn i, rfl⟩)
      · exact .inl ⟨rfl, rfl⟩
  · intro i v hv
    simp only [Nat.zero_add, if_true]
    rw [Array.getElem?_toList] at hv
    rw [hv]; rfl
  · intro k p x hx
    cases k with
    | obj b => exact (m.alloc _) _ _ _ hx
    | cell b i =>
      dsimp only at hx
      by_cases hb : b = w.heap.size
      · subst hb
        rw [if_pos rfl] at hx
        cases hc : cs[i]? with
        | none => rw [hc] at hx; cases hx
        | some v =>
          rw [hc] at hx
          simp only [Option.map_some, Option.some.injEq, Prod.mk.injEq] at hx
          obtain ⟨rfl, rfl⟩ := hx
          have hg := heap_alloc_new w (.cells cs e)
          exact ⟨by rw [cell_of_row _ _ _ cs e (0, 0) hg]; exact hc, fun _ => frozen_of_row _ _ _ cs e hg⟩
      · rw [if_neg hb] at hx; exact (m.alloc _) _ _ _ hx

theorem Sat.allocObj (h : Sat Γ F w) (o : Obj) (ho : ∀ c e f, o ≠ .cells c e f) : Sat (objc true w.heap.size o :: Γ) F (w.alloc o) := by
  obtain ⟨h, g, m⟩ := h
  have hn : h (.obj w.heap.size) = none := m.fresh _ (by simp) (by simp +contextual)
  refine ⟨fun k => if k = .obj w.heap.size then some (true, .ob o) else h k, ⟨fun k => if k = .obj w.heap.size then some (true, .ob o) else none, h, ?_, by simp [objc], g⟩, ?_⟩
  · intro k
    dsimp only
    by_cases hk : k = .obj w.heap.size
    · subst hk; simp only [if_true]; exact .inr (.inl ⟨hn, rfl⟩)
    · simp only [if_neg hk]; exact .inl ⟨rfl, rfl⟩
  · intro k p x hx
    dsimp only at hx
    by_cases hk : k = .obj w.heap.size
    · subst hk
      simp only [if_true, Option.some.injEq, Prod.mk.injEq] at hx
      obtain ⟨rfl, rfl⟩ := hx
      exact ⟨heap_alloc_new w o, ho⟩
    · rw [if_neg hk] at hx; exact (m.alloc _) _ _ _ hx

def World.setOb (w : World) (b : Nat) (o : Obj) : World := { w with heap := w.heap.setIfInBounds b o }
theorem Sat.setObj {b : Nat} {o o' : Obj} (h : Sat (objc true b o :: Γ) F w) (ho : ∀ c e f, o' ≠ .cells c e f) : Sat (objc true b o' :: Γ) F (World.setOb w b o') := by
  obtain ⟨h, ⟨h1, h2, j, c, g⟩, m⟩ := h
  have e : h1 (.obj b) = some (true, .ob o) := c
  have hb := m _ _ _ (j.left e)
  refine ⟨fun k => if k = .obj b then some (true, .ob o') else h k, ⟨fun k => if k = .obj b then some (true, .ob o') else h1 k, h2, ?_, by simp [objc], g⟩, ?_⟩
  · intro k
    dsimp only
    by_cases hk : k = .obj b
    · subst hk; simp only [if_true]; exact .inr (.inl ⟨j.own e, rfl⟩)
    · simp only [if_neg hk]; exact j k
  · intro k p x hx
    dsimp only at hx
    have hlt := (Array.getElem?_eq_some_iff.1 hb.1).1
    by_cases hk : k = .obj b
    · subst hk
      simp only [if_true, Option.some.injEq, Prod.mk.injEq] at hx
      obtain ⟨rfl, rfl⟩ := hx
      exact ⟨by simp [World.setOb, hlt], ho⟩
    · rw [if_neg hk] at hx
      have hm := m _ _ _ hx
      cases k with
      | cell b' i =>
        cases x with
        | ob _ => exact hm.elim
        | val v =>
          have hne : b' ≠ b := by
            rintro rfl
            have h1 := hm.1
            simp only [World.cell?, hb.1] at h1
            cases o <;> simp at h1
            exact hb.2 _ _ _ rfl
          have he : (World.setOb w b o').heap[b']? = w.heap[b']? := by simp [World.setOb, Array.getElem?_setIfInBounds_ne (Ne.symm hne)]
          exact ⟨by rw [World.cell?_of_block he]; exact hm.1, fun hp => by rw [World.frozen?_of_block he]; exact hm.2 hp⟩
      | obj b' =>
        cases x with
        | val _ => exact hm.elim
        | ob v =>
          have hne : b' ≠ b := by rintro rfl; exact hk rfl
          have he : (World.setOb w b o').heap[b']? = w.heap[b']? := by simp [World.setOb, Array.getElem?_setIfInBounds_ne (Ne.symm hne)]
          exact ⟨by rw [he]; exact hm.1, hm.2⟩
theorem Adv.setOb {b : Nat} {o o' : Obj} (hb : w.heap[b]? = some o) (h : ∀ c e f, o ≠ .cells c e f) (h' : ∀ c e f, o' ≠ .cells c e f) : Adv w (World.setOb w b o') := by
  refine ⟨rfl, rfl, rfl, by simp [World.setOb], fun k hk => ?_⟩
  by_cases e : k = b
  · subst e
    rw [hb]; simp only [World.setOb, Array.getElem?_setIfInBounds, if_true, hk]
    cases o <;> cases o' <;> simp_all [Like]
  · simp only [World.setOb, Array.getElem?_setIfInBounds_ne (Ne.symm e)]; exact .refl _
end

/-- The whole world, to be read alone. -/
def whole (w : World) : A := fun h =>
  (∀ b o v, w.cell? ⟨b, o, none⟩ = some v → h (.cell b o) = some (false, .val v)) ∧
  (∀ b o, w.heap[b]? = some o → (∀ c e f, o ≠ .cells c e f) → h (.obj b) = some (false, .ob o))
theorem Sat.whole (w : World) : Sat [whole w] (whole w) w := by
  let h : PH := fun
    | .cell b o => (w.cell? ⟨b, o, none⟩).map fun v => (false, .val v)
    | .obj b => match w.heap[b]? with
      | some (.cells ..) => none
      | some o => some (false, .ob o)
      | none => none
  have hw : Sl.whole w h := by
    refine ⟨fun b o v e => by simp [h, e], fun b o e ho => ?_⟩
    simp only [h, e]
    all_goals (cases o <;> simp_all)
  have hj : Join h h h := by
    intro k
    cases e : h k with
    | none => exact .inl ⟨rfl, rfl⟩
    | some x =>
      refine .inr (.inr ?_)
      cases k with
      | cell b o =>
        simp only [h] at e
        cases hc : w.cell? ⟨b, o, none⟩ with
        | none => rw [hc] at e; cases e
        | some v => rw [hc] at e; simp at e; subst e; exact ⟨_, rfl, rfl, rfl⟩
      | obj b =>
        simp only [h] at e
        cases hc : w.heap[b]? with
        | none => rw [hc] at e; cases e
        | some o => rw [hc] at e; cases o <;> simp at e <;> (subst e; exact ⟨_, rfl, rfl, rfl⟩)
  refine ⟨h, ⟨h, h, hj, hw, hw⟩, ?_⟩
  intro k p x e
  cases k with
  | cell b o =>
    simp only [h] at e
    cases hc : w.cell? ⟨b, o, none⟩ with
    | none => rw [hc] at e; cases e
    | some v => rw [hc] at e; simp at e; obtain ⟨rfl, rfl⟩ := e; exact ⟨hc, by simp⟩
  | obj b =>
    simp only [h] at e
    cases hc : w.heap[b]? with
    | none => rw [hc] at e; cases e
    | some o => rw [hc] at e; cases o <;> simp at e <;> (obtain ⟨rfl, rfl⟩ := e; exact ⟨hc, by simp⟩)
theorem Pers.whole (w : World) : Pers (whole w) := by
  rintro h ⟨h1, h2⟩
  refine ⟨fun k => match k with
    | .cell b o => if (w.cell? ⟨b, o, none⟩).isSome then h k else none
    | .obj b => match w.heap[b]? with
      | some (.cells ..) => none
      | some _ => h k
      | none => none, ⟨fun b o v e => by simp [e, h1 b o v e], fun b o e ho => ?_⟩, ?_⟩
  · have := h2 b o e ho
    simp only [e]
    all_goals (cases o <;> simp_all)
  · intro k
    cases k with
    | cell b o =>
      dsimp only
      cases e : w.cell? ⟨b, o, none⟩ with
      | none => exact .inl ⟨rfl, rfl⟩
      | some v => have := h1 b o v e; exact .inr (.inr ⟨_, this, this, this⟩)
    | obj b =>
      dsimp only
      cases e : w.heap[b]? with
      | none => exact .inl ⟨rfl, rfl⟩
      | some o =>
        by_cases ho : ∀ c e f, o ≠ .cells c e f
        · have := h2 b o e ho
          cases o <;> first | exact .inl ⟨rfl, rfl⟩ | exact .inr (.inr ⟨_, this, this, this⟩)
        · cases o <;> first | exact .inl ⟨rfl, rfl⟩ | (exfalso; apply ho; simp)
/-- Whatever was kept to be read alone is as it was. -/
theorem Sat.below {w w' : World} {Γ : List A} (h : Sat Γ (Sl.whole w) w') (a : Adv w w') : Below w.heap.size w w' := by
  refine ⟨a.os, a.tape, a.output, a.size, fun k hk => ?_⟩
  have h := Imp.nil Γ _ _ h
  obtain ⟨h, ⟨h1, h2⟩, m⟩ := h
  have hl := a.like k hk
  cases e : w.heap[k]? with
  | none => simp at e; omega
  | some o =>
    rw [e] at hl
    by_cases ho : ∀ c e f, o ≠ .cells c e f
    · exact (m _ _ _ (h2 k o e ho)).1
    · cases o with
      | cells c t f =>
        cases e' : w'.heap[k]? with
        | none => rw [e'] at hl; exact hl.elim
        | some o' =>
          rw [e'] at hl
          cases o' with
          | cells c' t' f' =>
            obtain ⟨hs, rfl, rfl⟩ := hl
            have : c' = c := by
              apply Array.ext hs
              intro i hi1 hi2
              have hc : w.cell? ⟨k, i, none⟩ = some c[i] := by rw [cell_of_row w k i c t' f' e]; simp [hi2]
              have := (m _ _ _ (h1 k i _ hc)).1
              rw [cell_of_row w' k i c' t' f' e'] at this
              simpa [hi1] using this
            rw [this]
          | _ => exact hl.elim
      | _ => exact absurd (by simp) ho
end Go.Sl
/- Separation logic over the model's code: states, triples, the rules for code, for regions that do not draw their order, for calls and loops. -/
namespace Go.Sl
open Go Go.RowKit

/-- What is known of a frame: its deferred calls, and some of its slots (the first entry counts). -/
structure St where
  ds : List Deferred
  env : List (Nat × Value)

def getE : List (Nat × Value) → Nat → Option Value
  | [], _ => none
  | (i, v) :: r, j => match Nat.beq i j with
    | true => some v
    | false => getE r j
def St.get (s : St) (i : Nat) : Option Value := getE s.env i
def St.put (s : St) (d : Option Nat) (v : Value) : St := match d with
  | none => s
  | some d => ⟨s.ds, (d, v) :: s.env⟩
def ev (s : St) : Operand → Option Value
  | .tmp t => getE s.env t
  | .const v => some v
  | .global g => some (.pointer (some ⟨g, 0, none⟩))
  | .func f => some (.func (.func f) #[] #[])
def evs (s : St) : List Operand → Option (List Value)
  | [] => some []
  | x :: r => match ev s x, evs s r with
    | some v, some vs => some (v :: vs)
    | _, _ => none
def dok (n : Nat) : Option Nat → Bool
  | none => true
  | some d => Nat.blt d n

structure Ok (n : Nat) (s : St) (a : Act) : Prop where
  size : a.tmps.size = n
  ds : a.defers = s.ds
  get : ∀ i v, s.get i = some v → a.tmps[i]? = some v

theorem getE_cons (i : Nat) (v : Value) (r : List (Nat × Value)) (j : Nat) : getE ((i, v) :: r) j = if i = j then some v else getE r j := by
  simp only [getE]
  by_cases h : i = j
  · subst h; simp
  · have : Nat.beq i j = false := by cases e : Nat.beq i j with | false => rfl | true => exact absurd (Nat.eq_of_beq_eq_true e) h
    simp [this, h]
theorem Ok.put {n : Nat} {s : St} {a : Act} (h : Ok n s a) {d : Option Nat} (hd : dok n d = true) (v : Value) : Ok n (s.put d v) (a.put d v) := by
  cases d with
  | none => exact h
  | some d =>
    have hlt : d < n := by simpa [dok, Nat.blt_eq] using hd
    refine ⟨by simp [Act.put, h.size], h.ds, fun i u hu => ?_⟩
    simp only [St.put, St.get, getE_cons] at hu
    simp only [Act.put, Array.getElem?_setIfInBounds]
    by_cases e : d = i
    · subst e; simp at hu; subst hu; simp [h.size, hlt]
    · rw [if_neg e] at hu ⊢; exact h.get i u hu
def EvOk (s : St) (ρ : Operand → Value) : Prop := ∀ x v, ev s x = some v → ρ x = v
theorem Ok.ev {n : Nat} {s : St} {a : Act} (h : Ok n s a) : EvOk s a.eval := by
  intro x v e
  cases x with
  | tmp t => have := h.get t v e; simp [Act.eval, this]
  | const u => simp [Sl.ev] at e; simp [Act.eval, e]
  | «global» g => simp [Sl.ev] at e; simp [Act.eval, e]
  | func f => simp [Sl.ev] at e; simp [Act.eval, e]
theorem EvOk.list {s : St} {ρ : Operand → Value} (h : EvOk s ρ) : ∀ {xs : List Operand} {vs : List Value}, evs s xs = some vs → xs.map ρ = vs
  | [], vs, e => by simp [evs] at e; simp [e]
  | x :: xs, vs, e => by
    simp only [evs] at e
    split at e
    · rename_i v us hv hus
      cases e
      simp [h x v hv, EvOk.list h hus]
    · cases e

def SubE : List (Nat × Value) → List (Nat × Value) → Prop
  | [], _ => True
  | (i, v) :: r, e => getE e i = some v ∧ SubE r e
theorem SubE.get {e' e : List (Nat × Value)} (h : SubE e' e) : ∀ {i v}, getE e' i = some v → getE e i = some v := by
  induction e' with
  | nil => intro i v hv; simp [getE] at hv
  | cons p r ih =>
    obtain ⟨j, u⟩ := p
    intro i v hv
    rw [getE_cons] at hv
    by_cases hj : j = i
    · subst hj; simp at hv; subst hv; exact h.1
    · rw [if_neg hj] at hv; exact ih h.2 hv
theorem Ok.sub {n : Nat} {s : St} {a : Act} (h : Ok n s a) {e' : List (Nat × Value)} (hs : SubE e' s.env) : Ok n ⟨s.ds, e'⟩ a :=
  ⟨h.size, h.ds, fun i v hv => h.get i v (hs.get hv)⟩

/-- What a piece of code leaves. -/
def Pst (n : Nat) (F : A) (w : World) (K : St → List A → Prop) (a' : Act) (w' : World) : Prop :=
  ∃ s Γ, K s Γ ∧ Ok n s a' ∧ Sat Γ F w' ∧ Adv w w'
theorem Pst.mono {n : Nat} {F : A} {w : World} {K K' : St → List A → Prop} (f : ∀ s Γ, K s Γ → K' s Γ) {a' : Act} {w' : World} (h : Pst n F w K a' w') : Pst n F w K' a' w' :=
  let ⟨s, Γ, k, r⟩ := h; ⟨s, Γ, f _ _ k, r⟩
theorem Pst.adv {n : Nat} {F : A} {w0 w : World} {K : St → List A → Prop} (a : Adv w0 w) {a' : Act} {w' : World} (h : Pst n F w K a' w') : Pst n F w0 K a' w' :=
  let ⟨s, Γ, k, o, f, b⟩ := h; ⟨s, Γ, k, o, f, a.trans b⟩

abbrev QX := Exit → St → List A → Prop
def WPC (P : Program) (n : Nat) (c : Code) (s : St) (Γ : List A) (Q : QX) : Prop :=
  ∀ F w a, Ok n s a → Sat Γ F w → c.wp P (fun e a' w' => Pst n F w (Q e) a' w') a w
def thenQ (K : St → List A → Prop) (Q : QX) : QX
  | .normal => K
  | e => Q e

section
variable {P : Program} {n : Nat} {s : St} {Γ : List A} {Q : QX}
theorem WPC.mono {c : Code} {Q' : QX} (h : WPC P n c s Γ Q) (f : ∀ e s Γ, Q e s Γ → Q' e s Γ) : WPC P n c s Γ Q' :=
  fun F w a o t => wp_mono (h F w a o t) fun _ _ _ => Pst.mono (f _)
theorem WPC.imp {c : Code} {Δ : List A} (i : Imp Γ Δ) (h : WPC P n c s Δ Q) : WPC P n c s Γ Q := fun F w a o t => h F w a o (i F w t)
theorem WPC.env {c : Code} (e' : List (Nat × Value)) (hs : SubE e' s.env) (h : WPC P n c ⟨s.ds, e'⟩ Γ Q) : WPC P n c s Γ Q :=
  fun F w a o t => h F w a (o.sub hs) t
theorem WPC.pure {c : Code} {φ : Prop} (h : φ → WPC P n c s Γ Q) : WPC P n c s (pu φ :: Γ) Q :=
  fun F w a o t => let ⟨p, t⟩ := Sat.pure.1 t; h p F w a o t
theorem WPC.ex {c : Code} {α : Sort _} {f : α → A} (h : ∀ x, WPC P n c s (f x :: Γ) Q) : WPC P n c s (Sl.ex f :: Γ) Q :=
  fun F w a o t => let ⟨x, t⟩ := Sat.ex.1 t; h x F w a o t
theorem WPC.skip (h : Q .normal s Γ) : WPC P n .skip s Γ Q := fun _ w _ o t => wp_skip ⟨s, Γ, h, o, t, .refl w⟩
theorem WPC.label {l : Nat} (h : Q .normal s Γ) : WPC P n (.label l) s Γ Q := fun _ w _ o t => wp_label ⟨s, Γ, h, o, t, .refl w⟩
theorem WPC.exit {id : Nat} (h : Q (.exit id) s Γ) : WPC P n (.exit id) s Γ Q := fun _ w _ o t => wp_exit ⟨s, Γ, h, o, t, .refl w⟩
theorem WPC.goto {id : Nat} (h : Q (.goto id) s Γ) : WPC P n (.goto id) s Γ Q := fun _ w _ o t => wp_goto ⟨s, Γ, h, o, t, .refl w⟩
theorem WPC.ret (h : Q .ret s Γ) : WPC P n .ret s Γ Q := fun _ w _ o t => wp_ret ⟨s, Γ, h, o, t, .refl w⟩
theorem WPC.seq {x y : Code} (h : WPC P n x s Γ (thenQ (fun s Γ => WPC P n y s Γ Q) Q)) : WPC P n (.seq x y) s Γ Q := by
  intro F w a o t
  refine wp_seq (wp_mono (h F w a o t) fun e a' w' p => ?_)
  cases e with
  | normal =>
    obtain ⟨s', Γ', k, o', t', ad⟩ := p
    exact wp_mono (k F w' a' o' t') fun _ _ _ => Pst.adv ad
  | _ => exact p
theorem WPC.cond {c : Operand} {x y : Code} {b : Bool} (hc : ev s c = some (.bool b)) (ht : b = true → WPC P n x s Γ Q) (hf : b = false → WPC P n y s Γ Q) :
    WPC P n (.cond c x y) s Γ Q :=
  fun F w a o t => wp_cond_split (o.ev c _ hc) (fun h => ht h F w a o t) (fun h => hf h F w a o t)
def blockQ (id : Nat) (Q : QX) : QX
  | .exit id' => fun s Γ => (id' = id ∧ Q .normal s Γ) ∨ (id' ≠ id ∧ Q (.exit id') s Γ)
  | e => Q e
theorem WPC.block {id : Nat} {c : Code} (h : WPC P n c s Γ (blockQ id Q)) : WPC P n (.block id c) s Γ Q := by
  intro F w a o t
  refine wp_block (wp_mono (h F w a o t) fun e a' w' p => ?_)
  cases e with
  | exit id' =>
    simp only [Exit.inBlock]
    by_cases hid : id' = id
    · rw [if_pos hid]; exact p.mono fun s Γ q => (q.resolve_right (by simp [hid])).2
    · rw [if_neg hid]; exact p.mono fun s Γ q => (q.resolve_left (by simp [hid])).2
  | _ => exact p
theorem WPC.scope {c : Code} (h : ∀ F w a, Ok n s a → Sat Γ F w → (Code.scope c).wp P (fun e a' w' => Pst n F w (Q e) a' w') a w) : WPC P n (.scope c) s Γ Q := h

/-- A loop: the invariant bears a number that falls. -/
theorem WPC.loop {c : Code} (I : Nat → St → List A → Prop) (m : Nat) (h0 : I m s Γ)
    (round : ∀ m s Γ, I m s Γ → WPC P n c s Γ (thenQ (fun s' Γ' => ∃ m', m' < m ∧ I m' s' Γ') Q)) : WPC P n (.loop c) s Γ Q := by
  intro F w a o t b k cs
  have key : ∀ m (s : St) (Γ : List A) a w0, Adv w w0 → I m s Γ → Ok n s a → Sat Γ F w0 →
      ∃ e a' w', Pst n F w (Q e) a' w' ∧ Arrives P (lone (b.at a (.code c :: .inLoop c :: k)) cs w0) b k cs e a' w' := by
    intro m
    induction m using Nat.strongRecOn with
    | _ m ih =>
      intro s Γ a w0 ad hI o t
      obtain ⟨e, a1, w1, hq, harr⟩ := round m s Γ hI F w0 a o t b (.inLoop c :: k) cs
      cases e with
      | normal =>
        obtain ⟨s', Γ', ⟨m', hlt, hI'⟩, o', t', ad'⟩ := hq
        obtain ⟨e2, a2, w2, hq2, harr2⟩ := ih m' hlt s' Γ' a1 w1 (ad.trans ad') hI' o' t'
        exact ⟨e2, a2, w2, hq2, .of_steps (Steps.trans harr (.one step_inLoop)) harr2⟩
      | exit id => exact ⟨_, a1, w1, hq.adv ad, .pass (x := .inLoop c) rfl (fun _ _ => .inl (by simp)) harr⟩
      | goto l => exact ⟨_, a1, w1, hq.adv ad, .pass (x := .inLoop c) rfl (fun _ _ => .inl (by simp)) harr⟩
      | ret => exact ⟨_, a1, w1, hq.adv ad, .pass (x := .inLoop c) rfl (fun _ _ => .inl (by simp)) harr⟩
      | panic ch => exact ⟨_, a1, w1, hq.adv ad, .pass (x := .inLoop c) rfl (fun _ _ => .inl (by simp)) harr⟩
      | outgrown => exact ⟨_, a1, w1, hq.adv ad, .pass (x := .inLoop c) rfl (fun _ _ => .inl (by simp)) harr⟩
  obtain ⟨e, a', w', hq, harr⟩ := key m s Γ a w (.refl w) h0 o t
  exact ⟨e, a', w', hq, .of_steps (.one step_loop) harr⟩
end

/-- A call: whatever else there is stays as it is. -/
def Trip (P : Program) (f : FuncId) (args : Array Value) (Γ : List A) (R : Value → List A → Prop) : Prop :=
  ∀ F w, Sat Γ F w → Calls P f args w fun e w' => ∃ v Δ, e = .returned v ∧ R v Δ ∧ Sat Δ F w' ∧ Adv w w'
theorem Trip.mono {P : Program} {f : FuncId} {args : Array Value} {Γ : List A} {R R' : Value → List A → Prop} (h : Trip P f args Γ R) (g : ∀ v Δ, R v Δ → R' v Δ) : Trip P f args Γ R' :=
  fun F w t => (h F w t).mono fun _ _ ⟨v, Δ, a, b, c⟩ => ⟨v, Δ, a, g _ _ b, c⟩
theorem Trip.imp {P : Program} {f : FuncId} {args : Array Value} {Γ Γ' : List A} {R : Value → List A → Prop} (i : Imp Γ Γ') (h : Trip P f args Γ' R) : Trip P f args Γ R :=
  fun F w t => h F w (i F w t)
theorem Trip.frame {P : Program} {f : FuncId} {args : Array Value} {Γ : List A} {R : Value → List A → Prop} (h : Trip P f args Γ R) (Θ : List A) :
    Trip P f args (Γ ++ Θ) fun v Δ => ∃ Δ', R v Δ' ∧ Δ = Δ' ++ Θ :=
  fun _ w t => (h _ w (Sat.app.1 t)).mono fun _ _ ⟨v, Δ, a, b, c, d⟩ => ⟨v, Δ ++ Θ, a, ⟨Δ, b, rfl⟩, Sat.app.2 c, d⟩
theorem Trip.pure {P : Program} {f : FuncId} {args : Array Value} {φ : Prop} {Γ : List A} {R : Value → List A → Prop} (h : φ → Trip P f args Γ R) : Trip P f args (pu φ :: Γ) R :=
  fun F w t => let ⟨p, t⟩ := Sat.pure.1 t; h p F w t
theorem Trip.ex {P : Program} {f : FuncId} {args : Array Value} {α : Sort _} {g : α → A} {Γ : List A} {R : Value → List A → Prop} (h : ∀ x, Trip P f args (g x :: Γ) R) : Trip P f args (Sl.ex g :: Γ) R :=
  fun F w t => let ⟨x, t⟩ := Sat.ex.1 t; h x F w t

def resVals (s : St) : List ResultVar → Option (List Value)
  | [] => some []
  | .tmp t :: r => match getE s.env t, resVals s r with
    | some v, some vs => some (v :: vs)
    | _, _ => none
  | .cell _ _ :: _ => none
def packV : List Value → Value
  | [v] => v
  | vs => .tuple vs.toArray
/-- At a function's end. -/
def endQ (rs : List ResultVar) (R : Value → List A → Prop) : QX
  | .normal, s, Γ | .ret, s, Γ => s.ds = [] ∧ ∃ vs, resVals s rs = some vs ∧ R (packV vs) Γ
  | _, _, _ => False
def resOne (tmps : Array Value) : ResultVar → Sem Value
  | .tmp t => Pure.pure (tmps.getD t undef)
  | .cell p t => do loadVar t (← asAddr (tmps.getD p undef))
theorem results_eq (fn : Func) (tmps : Array Value) : results fn tmps = (do
    let vs ← fn.results.mapM (resOne tmps)
    Pure.pure (if h : vs.size = 1 then vs[0] else .tuple vs)) := by
  unfold results
  congr 1
theorem resVals_run (P : Program) {n : Nat} {s : St} {a : Act} (o : Ok n s a) (w : World) : ∀ (rs : List ResultVar) (vs : List Value), resVals s rs = some vs →
    (rs.mapM (resOne a.tmps)).run P w = .ok vs w
  | [], vs, h => by simp [resVals] at h; simp [h]
  | .tmp t :: rs, vs, h => by
    simp only [resVals] at h
    split at h
    · rename_i v us hv hus
      cases h
      have := resVals_run P o w rs us hus
      have hg := o.get t v hv
      simp [List.mapM_cons, this, resOne, hg]
    · cases h
  | .cell _ _ :: _, _, h => by simp [resVals] at h
theorem results_run (P : Program) (fn : Func) {n : Nat} {s : St} {a : Act} (o : Ok n s a) (w : World) {vs : List Value} (h : resVals s fn.results.toList = some vs) :
    (results fn a.tmps).run P w = .ok (packV vs) w := by
  have := resVals_run P o w _ vs h
  rw [results_eq, Array.mapM_eq_mapM_toList]
  simp only [Sem.run_bind, Sem.run_map, this, Result.andThen_ok]
  match vs with
  | [] => simp [packV]
  | [v] => simp [packV]
  | v :: u :: r => simp [packV]

def ArgsOk : List (Nat × Value) → Array Value → Prop
  | [], _ => True
  | (i, v) :: r, args => args[i]? = some v ∧ ArgsOk r args
theorem ArgsOk.get {e : List (Nat × Value)} {args : Array Value} (h : ArgsOk e args) : ∀ {i v}, getE e i = some v → args[i]? = some v := by
  induction e with
  | nil => intro i v hv; simp [getE] at hv
  | cons p r ih =>
    obtain ⟨j, u⟩ := p
    intro i v hv
    rw [getE_cons] at hv
    by_cases hj : j = i
    · subst hj; simp at hv; subst hv; exact h.1
    · rw [if_neg hj] at hv; exact ih h.2 hv
theorem Trip.body {P : Program} {f : FuncId} {fn : Func} {c : Code} {args : Array Value} {Γ : List A} {R : Value → List A → Prop} (n : Nat) (rs : List ResultVar) (e : List (Nat × Value))
    (hf : P.funcs[f]? = some fn) (hb : fn.body = some c) (hn : fn.ntmps = n) (hr : fn.results = rs.toArray) (he : ArgsOk e args) (ha : Nat.ble args.size n = true)
    (h : WPC P n c ⟨[], e⟩ Γ (endQ rs R)) : Trip P f args Γ R := by
  intro F w t
  have ha' : args.size ≤ n := by simpa using ha
  refine calls_of_wp hf hb (wp_mono (h F w _ ⟨?_, rfl, fun i v hv => ?_⟩ t) fun e a' w' p => ?_)
  · simp [hn]; omega
  · have := he.get hv
    have hlt := (Array.getElem?_eq_some_iff.1 this).1
    simp only
    rw [Array.getElem?_append_left hlt]; exact this
  · have fin : ∀ s Δ, (s.ds = [] ∧ ∃ vs, resVals s rs = some vs ∧ R (packV vs) Δ) → Ok n s a' → Sat Δ F w' → Adv w w' →
        a'.defers = [] ∧ ∃ v, (results fn a'.tmps).run P w' = .ok v w' ∧ ∃ u Δ, Ending.returned v = .returned u ∧ R u Δ ∧ Sat Δ F w' ∧ Adv w w' := by
      rintro s Δ ⟨hd, vs, hv, hR⟩ o t ad
      exact ⟨o.ds.trans hd, packV vs, results_run P fn o w' (by rw [hr]; simpa using hv), packV vs, Δ, rfl, hR, t, ad⟩
    obtain ⟨s, Δ, k, o, t, ad⟩ := p
    cases e with
    | normal => exact fin s Δ k o t ad
    | ret => exact fin s Δ k o t ad
    | _ => exact k.elim

/-- A region that does not draw its order: what is left of it. -/
def WPL (P : Program) (n : Nat) (ops : Array Oper) (l : List Oper) (s : St) (Γ : List A) (K : St → List A → Prop) : Prop :=
  ∀ F w a, Ok n s a → Sat Γ F w → ∀ Q : Exit → Act → World → Prop, (∀ a' w', Pst n F w K a' w' → Q .normal a' w') → wpList P ops Q l a w
def WPO (P : Program) (n : Nat) (o : Oper) (s : St) (Γ : List A) (K : St → List A → Prop) : Prop :=
  ∀ F w a, Ok n s a → Sat Γ F w → ∀ (next : Act → World → Prop) (Q : Exit → Act → World → Prop), (∀ a' w', Pst n F w K a' w' → next a' w') → o.wp P a w next Q

section
variable {P : Program} {n : Nat} {s : St} {Γ : List A} {Q : QX} {K : St → List A → Prop} {ops : Array Oper}
theorem WPC.region {id : Nat} {l : List Oper} (h : WPL P n l.toArray l s Γ (Q .normal)) : WPC P n (.region id l.toArray false) s Γ Q :=
  fun F w a o t => wp_region_lit (h F w a o t _ fun _ _ p => p)
theorem WPL.nil (h : K s Γ) : WPL P n ops [] s Γ K := fun _ w a o t _ hq => wpList_nil (hq _ _ ⟨s, Γ, h, o, t, .refl w⟩)
theorem WPL.imp {l : List Oper} {Δ : List A} (i : Imp Γ Δ) (h : WPL P n ops l s Δ K) : WPL P n ops l s Γ K := fun F w a o t => h F w a o (i F w t)
theorem WPL.env {l : List Oper} (e' : List (Nat × Value)) (hs : SubE e' s.env) (h : WPL P n ops l ⟨s.ds, e'⟩ Γ K) : WPL P n ops l s Γ K :=
  fun F w a o t => h F w a (o.sub hs) t
theorem WPL.pure {l : List Oper} {φ : Prop} (h : φ → WPL P n ops l s Γ K) : WPL P n ops l s (pu φ :: Γ) K :=
  fun F w a o t => let ⟨p, t⟩ := Sat.pure.1 t; h p F w a o t
theorem WPL.ex {l : List Oper} {α : Sort _} {f : α → A} (h : ∀ x, WPL P n ops l s (f x :: Γ) K) : WPL P n ops l s (Sl.ex f :: Γ) K :=
  fun F w a o t => let ⟨x, t⟩ := Sat.ex.1 t; h x F w a o t
theorem WPL.cons {o : Oper} {rest : List Oper} (hg : o.guard = none) (h : WPO P n o s Γ (fun s' Γ' => WPL P n ops rest s' Γ' K)) : WPL P n ops (o :: rest) s Γ K := by
  intro F w a ok t Q hq
  refine wpList_plain hg fun k hk => h F w a ok t k Q fun a' w' p => hk _ _ ?_
  obtain ⟨s', Γ', g, o', t', ad⟩ := p
  exact g F w' a' o' t' Q fun a'' w'' p' => hq _ _ (p'.adv ad)
/-- A guarded operation: its guard is known. -/
theorem yielded_of {a : Act} (o : Ok n s a) {j t : Nat} {b : Bool} (hj : (ops[j]?).bind (·.dst) = some t) (hv : getE s.env t = some (.bool b)) : yielded ops a.tmps j = some b := by
  have := o.get t _ hv
  simp [yielded, hj, this]
theorem WPL.guardYes {o : Oper} {rest : List Oper} {j t : Nat} {b : Bool} (hg : o.guard = some (j, b)) (hj : (ops[j]?).bind (·.dst) = some t) (hv : getE s.env t = some (.bool b))
    (h : WPO P n o s Γ (fun s' Γ' => WPL P n ops rest s' Γ' K)) : WPL P n ops (o :: rest) s Γ K := by
  intro F w a ok t Q hq
  refine wpList_step fun k hk => ?_
  rw [if_pos (by simp [Region.wanted, hg, yielded_of ok hj hv])]
  refine h F w a ok t k Q fun a' w' p => hk _ _ ?_
  obtain ⟨s', Γ', g, o', t', ad⟩ := p
  exact g F w' a' o' t' Q fun a'' w'' p' => hq _ _ (p'.adv ad)
theorem yielded_undef {a : Act} (o : Ok n s a) {j t : Nat} (hj : (ops[j]?).bind (·.dst) = some t) (hv : getE s.env t = some undef) : yielded ops a.tmps j = none := by
  have := o.get t _ hv
  simp [yielded, hj, this, undef]
theorem WPL.guardNo {o : Oper} {rest : List Oper} {j t : Nat} {b c : Bool} (hg : o.guard = some (j, b)) (hj : (ops[j]?).bind (·.dst) = some t) (hv : getE s.env t = some (.bool c)) (hb : (b == c) = false)
    (hd : dok n o.dst = true) (h : WPL P n ops rest (s.put o.dst undef) Γ K) : WPL P n ops (o :: rest) s Γ K := by
  intro F w a ok t Q hq
  refine wpList_skip ?_ (h F w _ (ok.put hd undef) t Q hq)
  simp [Region.wanted, hg, yielded_of ok hj hv]
  intro e; subst e; simp at hb
theorem WPL.guardOff {o : Oper} {rest : List Oper} {j t : Nat} {b : Bool} (hg : o.guard = some (j, b)) (hj : (ops[j]?).bind (·.dst) = some t) (hv : getE s.env t = some undef)
    (hd : dok n o.dst = true) (h : WPL P n ops rest (s.put o.dst undef) Γ K) : WPL P n ops (o :: rest) s Γ K := by
  intro F w a ok t Q hq
  refine wpList_skip ?_ (h F w _ (ok.put hd undef) t Q hq)
  simp [Region.wanted, hg, yielded_undef ok hj hv]
/-- A truth value is one or the other. -/
theorem WPL.split {l : List Oper} (t : Nat) (b : Bool) (hv : getE s.env t = some (.bool b)) (ht : b = true → WPL P n ops l (s.put (some t) (.bool true)) Γ K) (hf : b = false → WPL P n ops l (s.put (some t) (.bool false)) Γ K) :
    WPL P n ops l s Γ K := by
  intro F w a o tt Q hq
  have h2 : ∀ c, b = c → Ok n (s.put (some t) (.bool c)) a := by
    rintro c rfl
    refine ⟨o.size, o.ds, fun i u hu => ?_⟩
    simp only [St.put, St.get, getE_cons] at hu
    by_cases e : t = i
    · subst e; simp at hu; subst hu; exact o.get _ _ hv
    · rw [if_neg e] at hu; exact o.get i u hu
  cases hb : b with
  | true => exact ht hb F w a (h2 _ hb) tt Q hq
  | false => exact hf hb F w a (h2 _ hb) tt Q hq

/-- An operation that leaves memory as it is, and yields this. -/
def Q1 (P : Program) (o : Oper) (s : St) (Γ : List A) (v : Value) : Prop :=
  ∀ F w ρ, EvOk s ρ → Sat Γ F w → (execOp ρ o).run P w = .ok (.value v) w
theorem Q1.wpo {o : Oper} {v : Value} (h : Q1 P o s Γ v) (hd : dok n o.dst = true) (k : K (s.put o.dst v) Γ) : WPO P n o s Γ K := by
  intro F w a ok t next Q hq
  unfold Oper.wp
  rw [h F w _ ok.ev t]
  exact hq _ _ ⟨_, _, k, ok.put hd v, t, .refl w⟩
theorem L_q {o : Oper} {rest : List Oper} {v : Value} (h : Q1 P o s Γ v) (hg : o.guard = none) (hd : dok n o.dst = true) (k : WPL P n ops rest (s.put o.dst v) Γ K) : WPL P n ops (o :: rest) s Γ K :=
  .cons hg (h.wpo hd k)
/-- An operation that yields a value and changes memory. -/
def E1 (P : Program) (o : Oper) (s : St) (Γ : List A) (R : Value → List A → Prop) : Prop :=
  ∀ F w ρ, EvOk s ρ → Sat Γ F w → ∃ v Δ w', (execOp ρ o).run P w = .ok (.value v) w' ∧ R v Δ ∧ Sat Δ F w' ∧ Adv w w'
theorem E1.wpo {o : Oper} {R : Value → List A → Prop} (h : E1 P o s Γ R) (hd : dok n o.dst = true) (k : ∀ v Δ, R v Δ → K (s.put o.dst v) Δ) : WPO P n o s Γ K := by
  intro F w a ok t next Q hq
  obtain ⟨v, Δ, w', hr, hR, t', ad⟩ := h F w _ ok.ev t
  unfold Oper.wp
  rw [hr]
  exact hq _ _ ⟨_, _, k _ _ hR, ok.put hd v, t', ad⟩
/-- One that yields nothing and changes memory. -/
def S1 (P : Program) (o : Oper) (s : St) (Γ Δ : List A) : Prop :=
  ∀ F w ρ, EvOk s ρ → Sat Γ F w → ∃ w', (execOp ρ o).run P w = .ok .skip w' ∧ Sat Δ F w' ∧ Adv w w'
theorem S1.wpo {o : Oper} {Δ : List A} (h : S1 P o s Γ Δ) (hd : dok n o.dst = true) (k : K (s.put o.dst undef) Δ) : WPO P n o s Γ K := by
  intro F w a ok t next Q hq
  obtain ⟨w', hr, t', ad⟩ := h F w _ ok.ev t
  unfold Oper.wp
  rw [hr]
  exact hq _ _ ⟨_, _, k, ok.put hd undef, t', ad⟩
/-- A call of a Go function. -/
def C1 (P : Program) (o : Oper) (s : St) (f : FuncId) (args : Array Value) : Prop :=
  ∀ w ρ, EvOk s ρ → (execOp ρ o).run P w = .ok (.enter f args) w
theorem C1.wpo {o : Oper} {f : FuncId} {args : Array Value} {R : Value → List A → Prop} (h : C1 P o s f args) (c : Trip P f args Γ R) (hd : dok n o.dst = true)
    (k : ∀ v Δ, R v Δ → K (s.put o.dst v) Δ) : WPO P n o s Γ K := by
  intro F w a ok t next Q hq
  unfold Oper.wp
  rw [h w _ ok.ev]
  refine (c F w t).mono ?_
  rintro e w' ⟨v, Δ, rfl, hR, t', ad⟩
  exact hq _ _ ⟨_, _, k _ _ hR, ok.put hd v, t', ad⟩
end
end Go.Sl
/- Separation logic over the model's code: the operations. -/
namespace Go.Sl
open Go Go.RowKit

/- Finding, changing and taking assertions out of a list. -/
theorem Sat.mem {c : A} {Γ : List A} (h : c ∈ Γ) {F : A} {w : World} (t : Sat Γ F w) : ∃ Θ, Sat (c :: Θ) F w := by
  obtain ⟨l, r, rfl⟩ := List.append_of_mem h
  exact ⟨l ++ r, Imp.perm List.perm_middle _ _ t⟩
inductive Upd : List A → A → A → List A → Prop
  | here {c c' : A} {r : List A} : Upd (c :: r) c c' (c' :: r)
  | there {x c c' : A} {r r' : List A} : Upd r c c' r' → Upd (x :: r) c c' (x :: r')
theorem Upd.perm {Γ Δ : List A} {c c' : A} (u : Upd Γ c c' Δ) : ∃ Θ, Γ.Perm (c :: Θ) ∧ Δ.Perm (c' :: Θ) := by
  induction u with
  | @here c c' r => exact ⟨r, .refl _, .refl _⟩
  | @there x c c' r r' u ih =>
    obtain ⟨Θ, h1, h2⟩ := ih
    exact ⟨x :: Θ, (h1.cons x).trans (.swap _ _ _), (h2.cons x).trans (.swap _ _ _)⟩
theorem Upd.sat {Γ Δ : List A} {c c' : A} (u : Upd Γ c c' Δ) {F : A} {w : World} (t : Sat Γ F w) : ∃ Θ, Sat (c :: Θ) F w ∧ ∀ w', Sat (c' :: Θ) F w' → Sat Δ F w' :=
  let ⟨Θ, h1, h2⟩ := u.perm
  ⟨Θ, Imp.perm h1 _ _ t, fun _ t' => Imp.perm h2.symm _ _ t'⟩
theorem Upd.imp {Γ Δ : List A} {c c' : A} (u : Upd Γ c c' Δ) (f : ∀ h, c h → c' h) : Imp Γ Δ := fun _ w t =>
  let ⟨_, t1, t2⟩ := u.sat t; t2 w (t1.cons f)
inductive SetAt : List Value → Nat → Value → List Value → Prop
  | here {x v : Value} {r : List Value} : SetAt (x :: r) 0 v (v :: r)
  | there {x v : Value} {i : Nat} {r r' : List Value} : SetAt r i v r' → SetAt (x :: r) (i + 1) v (x :: r')
theorem SetAt.set {vs : List Value} {i : Nat} {v : Value} {vs' : List Value} (h : SetAt vs i v vs') : i < vs.length ∧ vs' = vs.set i v := by
  induction h with
  | here => simp
  | there _ ih => exact ⟨by simp; exact ih.1, by simp [ih.2]⟩
inductive Pick1 : List A → A → List A → Prop
  | here {c : A} {r : List A} : Pick1 (c :: r) c r
  | there {x c : A} {r r' : List A} : Pick1 r c r' → Pick1 (x :: r) c (x :: r')
theorem Pick1.perm {Γ Θ : List A} {c : A} (u : Pick1 Γ c Θ) : Γ.Perm (c :: Θ) := by
  induction u with
  | here => exact .refl _
  | there _ ih => exact (ih.cons _).trans (.swap _ _ _)
inductive Pick : List A → List A → List A → Prop
  | nil {Γ : List A} : Pick Γ [] Γ
  | cons {Γ Γ1 Θ cs : List A} {c : A} : Pick1 Γ c Γ1 → Pick Γ1 cs Θ → Pick Γ (c :: cs) Θ
  | keep {Γ Θ cs : List A} {c : A} : c ∈ Γ → Pers c → Pick Γ cs Θ → Pick Γ (c :: cs) Θ
theorem Sat.dupMem {c : A} {Γ : List A} (h : c ∈ Γ) (p : Pers c) {F : A} {w : World} (t : Sat Γ F w) : Sat (c :: Γ) F w := by
  obtain ⟨l, r, rfl⟩ := List.append_of_mem h
  exact (Imp.perm (List.perm_middle (l₁ := l) (a := c) (l₂ := r)).symm).cons c _ _ (Sat.dup p (Imp.perm List.perm_middle _ _ t))
theorem Pick.imp {Γ cs Θ : List A} (u : Pick Γ cs Θ) : Imp Γ (cs ++ Θ) := by
  induction u with
  | nil => exact .refl _
  | cons h _ ih => exact (Imp.perm h.perm).trans (ih.cons _)
  | keep h p _ ih => exact fun F w t => ih.cons _ F w (Sat.dupMem h p t)

/- What the program's table says of types. -/
def szB (P : Program) (T : TypeId) : Option Nat := (P.info? T).map (·.size)
def faB (P : Program) (T f : Nat) : Option Nat := match P.underlying T with
  | some (.struct fs) => match fs[f]? with
    | some fl => match P.info? fl.type with
      | some i => match Nat.beq i.size 0 with
        | true => none
        | false => some fl.offset
      | none => none
    | none => none
  | _ => none
/-- 'none': a single cell; 'some n': a row of n cells. -/
def ldB (P : Program) (T : TypeId) : Option (Option Nat) := match P.underlying T with
  | some (.struct _) => (P.info? T).map fun i => some i.size
  | some (.array _ _) => (P.info? T).map fun i => some i.size
  | some _ => match P.info? T with
    | some i => match Nat.beq i.size 1 with
      | true => some none
      | false => none
    | none => none
  | none => none
def zB (P : Program) (T : TypeId) : Option Value := (P.info? T).bind (·.zero)
def slB (P : Program) (T : TypeId) : Option (TypeId × Nat) := match P.underlying T with
  | some (.slice e) => (P.info? e).map fun i => (e, i.size)
  | _ => none

theorem add_lit (b o k : Nat) : (⟨b, o, none⟩ : Addr).add k = ⟨b, o + k, none⟩ := by unfold Addr.add; split <;> simp_all

section
variable {P : Program} {s : St} {Γ Δ : List A} {d : Option Tmp} {ty : TypeId} {pos : String} {af : Array Edge} {g : Option (Nat × Bool)} {v u : Value} {x y z : Operand} {T : TypeId}

theorem run_info {i : TypeInfo} (h : P.info? T = some i) (w : World) : (typeInfo T).run P w = .ok i w := by simp [typeInfo, h]
theorem run_size {k : Nat} (h : szB P T = some k) (w : World) : (sizeOf T).run P w = .ok k w := by
  unfold szB at h
  cases e : P.info? T with
  | none => rw [e] at h; cases h
  | some i => rw [e] at h; simp at h; simp [sizeOf, typeInfo, e, h]

theorem q_move (h : ev s x = some v) : Q1 P ⟨d, .move x, ty, pos, af, g⟩ s Γ v := fun _ _ _ e _ => by simp [execOp, e _ _ h]
theorem q_assign (h : ev s x = some v) : Q1 P ⟨d, .assign x, ty, pos, af, g⟩ s Γ v := fun _ _ _ e _ => by simp [execOp, e _ _ h]
theorem q_pickT (hc : ev s x = some (.bool true)) (h : ev s y = some v) : Q1 P ⟨d, .pick x y z, ty, pos, af, g⟩ s Γ v := fun _ _ _ e _ => by simp [execOp, e _ _ hc, e _ _ h, asBool]
theorem q_pickF (hc : ev s x = some (.bool false)) (h : ev s z = some v) : Q1 P ⟨d, .pick x y z, ty, pos, af, g⟩ s Γ v := fun _ _ _ e _ => by simp [execOp, e _ _ hc, e _ _ h, asBool]
theorem q_nilP {a : Addr} (h : ev s x = some (.pointer (some a))) : Q1 P ⟨d, .nilCheck x, ty, pos, af, g⟩ s Γ (.pointer (some a)) := fun _ _ _ e _ => by simp [execOp, e _ _ h]
theorem q_nilF {f : FuncId} {p q : Array Value} (h : ev s x = some (.func (.func f) p q)) : Q1 P ⟨d, .nilCheck x, ty, pos, af, g⟩ s Γ (.func (.func f) p q) := fun _ _ _ e _ => by simp [execOp, e _ _ h]
theorem q_fa {b o f off : Nat} (hf : faB P T f = some off) (h : ev s x = some (.pointer (some ⟨b, o, none⟩))) : Q1 P ⟨d, .fieldAddr T x f, ty, pos, af, g⟩ s Γ (.pointer (some ⟨b, o + off, none⟩)) := fun _ w _ e _ => by
  unfold faB at hf
  cases e1 : P.underlying T with
  | none => rw [e1] at hf; cases hf
  | some D =>
    rw [e1] at hf
    cases D <;> simp only [reduceCtorEq] at hf
    rename_i fs
    cases e2 : fs[f]? with
    | none => rw [e2] at hf; cases hf
    | some fl =>
      rw [e2] at hf
      simp only at hf
      cases e3 : P.info? fl.type with
      | none => rw [e3] at hf; cases hf
      | some i =>
        rw [e3] at hf
        simp only at hf
        cases e4 : Nat.beq i.size 0 with
        | true => rw [e4] at hf; cases hf
        | false =>
          rw [e4] at hf
          simp at hf
          subst hf
          have h0 : i.size ≠ 0 := by intro e5; rw [e5] at e4; simp at e4
          simp [execOp, e _ _ h, Instr.fieldAt, Instr.sureAddr, underlying, e1, e2, fieldPlace, sizeOf, typeInfo, e3, h0, add_lit]
theorem isAgg_of {k : Option Nat} (h : ldB P T = some k) (w : World) : (isAgg T).run P w = .ok k.isSome w ∧ (∀ m, k = some m → szB P T = some m) ∧ (k = none → szB P T = some 1) := by
  unfold ldB at h
  cases e1 : P.underlying T with
  | none => rw [e1] at h; cases h
  | some D =>
    rw [e1] at h
    cases e2 : P.info? T with
    | none => rw [e2] at h; cases D <;> simp at h
    | some i =>
      rw [e2] at h
      have one : (match Nat.beq i.size 1 with | true => some (none : Option Nat) | false => none) = some k → k = none ∧ i.size = 1 := by
        intro h
        cases e3 : Nat.beq i.size 1 with
        | true => rw [e3] at h; simp at h; exact ⟨h.symm, Nat.eq_of_beq_eq_true e3⟩
        | false => rw [e3] at h; cases h
      cases D <;> simp only [Option.map_some, Option.some.injEq] at h <;> first
        | (subst h; simp [isAgg, underlying, e1, szB, e2])
        | (obtain ⟨rfl, h1⟩ := one h; simp [isAgg, underlying, e1, szB, e2, h1])
theorem q_load1 {p : Bool} {b o a i : Nat} {vs : List Value} (hT : ldB P T = some none) (hx : ev s x = some (.pointer (some ⟨b, a, none⟩))) (hm : cells p b o vs ∈ Γ) (ha : a = o + i) (hv : vs[i]? = some v) :
    Q1 P ⟨d, .load T x, ty, pos, af, g⟩ s Γ v := fun _ w _ e t => by
  obtain ⟨Θ, t⟩ := Sat.mem hm t
  have hc := t.cell hv
  have h1 := (isAgg_of hT w).1
  subst ha
  simp at h1
  simp [execOp, e _ _ hx, Instr.loadAt, Instr.sureAddr, loadVar, h1, load, Sem.run, hc]
theorem Sat.load {p : Bool} {b o : Nat} {vs : List Value} {F : A} {w : World} (t : Sat (cells p b o vs :: Γ) F w) (i : Nat) (us : List Value) (h : (vs.drop i).take us.length = us) :
    (loadCells ⟨b, o + i, none⟩ us.length).run P w = .ok us.toArray w := by
  refine run_loadCells_list _ _ us fun j v hv => ?_
  rw [add_lit, Nat.add_assoc]
  refine t.cell ?_
  have hj : j < us.length := (List.getElem?_eq_some_iff.1 hv).1
  rw [← h, List.getElem?_take, if_pos hj, List.getElem?_drop] at hv
  exact hv
theorem q_loadN {p : Bool} {b o a i k : Nat} {vs us : List Value} (hT : ldB P T = some (some k)) (hx : ev s x = some (.pointer (some ⟨b, a, none⟩))) (hm : cells p b o vs ∈ Γ) (ha : a = o + i) (hk : us.length = k)
    (hv : (vs.drop i).take k = us) : Q1 P ⟨d, .load T x, ty, pos, af, g⟩ s Γ (.agg us.toArray) := fun _ w _ e t => by
  obtain ⟨Θ, t⟩ := Sat.mem hm t
  obtain ⟨h1, h2, _⟩ := isAgg_of hT w
  subst ha hk
  have h3 := run_size (h2 _ rfl) w
  have h4 := t.load (P := P) i us hv
  simp at h1
  simp [execOp, e _ _ hx, Instr.loadAt, Instr.sureAddr, loadVar, h1, h3, h4]
theorem run_storeCells {b o : Nat} : ∀ (us : List Value) (i k : Nat) {vs : List Value} {F : A} {w : World}, (∀ u ∈ us, u.oneCell' = true) → i + k + us.length ≤ vs.length → Sat (cells true b o vs :: Γ) F w →
    ∃ w', (storeCells ⟨b, o + i, none⟩ us k).run P w = .ok () w' ∧ Sat (cells true b o (vs.take (i + k) ++ us ++ vs.drop (i + k + us.length)) :: Γ) F w' ∧ Adv w w'
  | [], i, k, vs, F, w, _, _, t => ⟨w, by simp [storeCells], by simpa using t, .refl w⟩
  | u :: us, i, k, vs, F, w, h1, hl, t => by
    have hi : i + k < vs.length := by simp at hl; omega
    have t' := t.store (v := u) hi
    obtain ⟨w', hr, t'', ad⟩ := run_storeCells us i (k + 1) (vs := vs.set (i + k) u) (fun x hx => h1 x (by simp [hx])) (by simp at hl ⊢; omega) t'
    refine ⟨w', ?_, ?_, (Adv.setCell w _ _).trans ad⟩
    · have hc := t.cell (i := i + k) (v := vs[i + k]) (by simp [hi])
      have hz := t.unfrozen (i := i + k) hi
      have hs := run_store P w ⟨b, o + (i + k), none⟩ u .plain (h1 u (by simp))
      rw [hc] at hs
      simp only [hz, Bool.false_eq_true, if_false] at hs
      simp only [storeCells, add_lit, Sem.run_bind, Nat.add_assoc] at hr ⊢
      rw [hs]
      exact hr
    · have e : List.take (i + (k + 1)) (vs.set (i + k) u) ++ us ++ List.drop (i + (k + 1) + us.length) (vs.set (i + k) u) = List.take (i + k) vs ++ u :: us ++ List.drop (i + k + (u :: us).length) vs := by
        rw [List.drop_set_of_lt (by omega), show i + (k + 1) = i + k + 1 by omega, List.take_succ_eq_append_getElem (by simpa using hi)]
        simp only [List.getElem_set_self, List.take_set_of_le (Nat.le_refl _), List.length_cons, List.append_assoc, List.cons_append, List.nil_append]
        rw [show i + k + (us.length + 1) = i + k + 1 + us.length by omega]
      rw [e] at t''
      exact t''
theorem s_store1 {b o a i : Nat} {vs vs' : List Value} (hT : szB P T = some 1) (hx : ev s x = some (.pointer (some ⟨b, a, none⟩))) (hy : ev s y = some u) (hu : u.oneCell' = true) (hc : u.cells = #[u])
    (ha : a = o + i) (hv : SetAt vs i u vs') (hm : Upd Γ (cells true b o vs) (cells true b o vs') Δ) : S1 P ⟨d, .store T x y, ty, pos, af, g⟩ s Γ Δ := fun F w ρ e t => by
  obtain ⟨Θ, t1, t2⟩ := hm.sat t
  obtain ⟨hi, rfl⟩ := hv.set
  have hs := run_size hT w
  subst ha
  obtain ⟨w', hr, t', ad⟩ := run_storeCells (P := P) [u] i 0 (by simpa using hu) (by simp; omega) t1
  refine ⟨w', ?_, t2 w' ?_, ad⟩
  · simp [execOp, e _ _ hx, e _ _ hy, Instr.storeAt, Instr.sureAddr, storeVar, hs, hc, hr]
  · have : List.take (i + 0) vs ++ [u] ++ List.drop (i + 0 + [u].length) vs = vs.set i u := by
      rw [List.set_eq_take_append_cons_drop, if_pos hi]; simp
    rw [this] at t'; exact t'
theorem s_storeN {b o a i k : Nat} {vs us : List Value} (hT : szB P T = some k) (hx : ev s x = some (.pointer (some ⟨b, a, none⟩))) (hy : ev s y = some (.agg us.toArray)) (hu : ∀ u ∈ us, u.oneCell' = true) (hk : us.length = k)
    (ha : a = o + i) (hl : i + k ≤ vs.length) (hm : Upd Γ (cells true b o vs) (cells true b o (vs.take i ++ us ++ vs.drop (i + k))) Δ) : S1 P ⟨d, .store T x y, ty, pos, af, g⟩ s Γ Δ := fun F w ρ e t => by
  obtain ⟨Θ, t1, t2⟩ := hm.sat t
  have hs := run_size hT w
  subst ha hk
  obtain ⟨w', hr, t', ad⟩ := run_storeCells (P := P) us i 0 hu (by simpa using hl) t1
  refine ⟨w', ?_, t2 w' ?_, ad⟩
  · simp [execOp, e _ _ hx, e _ _ hy, Instr.storeAt, Instr.sureAddr, storeVar, hs, Value.cells, hr]
  · simpa using t'
/-- New memory. -/
def newR (Γ : List A) (vs : List Value) (f : Nat → Value) : Value → List A → Prop := fun v Δ => ∃ b, v = f b ∧ Δ = cells true b 0 vs :: Γ
theorem e_box {v : Value} (hx : ev s x = some v) : E1 P ⟨d, .box T x, ty, pos, af, g⟩ s Γ (newR Γ v.cells.toList fun b => .pointer (some ⟨b, 0, none⟩)) := fun F w ρ e t =>
  ⟨_, _, w.alloc (.cells v.cells T), by simp [execOp, e _ _ hx, Instr.box, newVar, newRow], ⟨w.heap.size, rfl, rfl⟩, t.alloc v.cells T, .alloc w _⟩
theorem e_alloc {z : Value} (hz : zB P T = some z) : E1 P ⟨d, .alloc T, ty, pos, af, g⟩ s Γ (newR Γ z.cells.toList fun b => .pointer (some ⟨b, 0, none⟩)) := fun F w ρ e t => by
  refine ⟨_, _, w.alloc (.cells z.cells T), ?_, ⟨w.heap.size, rfl, rfl⟩, t.alloc z.cells T, .alloc w _⟩
  have hz' : (zeroValue T).run P w = .ok z w := by
    unfold zB at hz
    cases e1 : P.info? T with
    | none => rw [e1] at hz; cases hz
    | some i => rw [e1] at hz; simp at hz; simp [zeroValue, typeInfo, e1, hz]
  simp [execOp, Instr.alloc, hz', newVar, newRow]
def ints (k : IntKind) (op : BinOp) (a b : Int) : Option Value := match op with
  | .add => some (.int k (k.wrap (a + b)))
  | .sub => some (.int k (k.wrap (a - b)))
  | .mul => some (.int k (k.wrap (a * b)))
  | .eql => some (.bool (a == b))
  | .neq => some (.bool (a != b))
  | .lss => some (.bool (decide (a < b)))
  | .leq => some (.bool (decide (a ≤ b)))
  | .gtr => some (.bool (decide (a > b)))
  | .geq => some (.bool (decide (a ≥ b)))
  | _ => none
theorem q_int {op : BinOp} {T' : TypeId} {k : IntKind} {a b : Int} (hx : ev s x = some (.int k a)) (hy : ev s y = some (.int k b)) (hv : ints k op a b = some v) : Q1 P ⟨d, .binOp op T x y T', ty, pos, af, g⟩ s Γ v := fun _ _ _ e _ => by
  cases op <;> simp [ints] at hv <;> subst hv <;> simp [execOp, e _ _ hx, e _ _ hy, eqGuard, binOp, Op.intArith, Op.intCmp]
theorem q_bits {op : BinOp} {T' : TypeId} {k : IntKind} {a b : Int} (hx : ev s x = some (.int k a)) (hy : ev s y = some (.int k b)) (ho : op = .and ∨ op = .or ∨ op = .xor ∨ op = .andNot)
    (hv : ∀ w, (Op.intBits op k a b).run P w = .ok v w) : Q1 P ⟨d, .binOp op T x y T', ty, pos, af, g⟩ s Γ v := fun _ w _ e _ => by
  have := hv w
  rcases ho with rfl | rfl | rfl | rfl <;> simp [execOp, e _ _ hx, e _ _ hy, eqGuard, binOp, this]
theorem q_quo {T' : TypeId} {k : IntKind} {a b : Int} (hx : ev s x = some (.int k a)) (hy : ev s y = some (.int k b)) (hb : b ≠ 0) : Q1 P ⟨d, .binOp .quo T x y T', ty, pos, af, g⟩ s Γ (.int k (k.wrap (a.tdiv b))) := fun _ _ _ e _ => by
  simp [execOp, e _ _ hx, e _ _ hy, eqGuard, binOp, Op.intDiv, hb]
theorem q_rem {T' : TypeId} {k : IntKind} {a b : Int} (hx : ev s x = some (.int k a)) (hy : ev s y = some (.int k b)) (hb : b ≠ 0) : Q1 P ⟨d, .binOp .rem T x y T', ty, pos, af, g⟩ s Γ (.int k (a.tmod b)) := fun _ _ _ e _ => by
  simp [execOp, e _ _ hx, e _ _ hy, eqGuard, binOp, Op.intDiv, hb]
theorem q_shl {T' : TypeId} {k k' : IntKind} {a b : Int} (hx : ev s x = some (.int k a)) (hy : ev s y = some (.int k' b)) (hb : 0 ≤ b) : Q1 P ⟨d, .binOp .shl T x y T', ty, pos, af, g⟩ s Γ (.int k (k.wrap (a * 2 ^ min b.toNat k.bits))) := fun _ _ _ e _ => by
  simp [execOp, e _ _ hx, e _ _ hy, eqGuard, binOp, Op.shift, Int.not_lt.2 hb]
theorem q_shr {T' : TypeId} {k k' : IntKind} {a b : Int} (hx : ev s x = some (.int k a)) (hy : ev s y = some (.int k' b)) (hb : 0 ≤ b) : Q1 P ⟨d, .binOp .shr T x y T', ty, pos, af, g⟩ s Γ (.int k (a.fdiv (2 ^ min b.toNat k.bits))) := fun _ _ _ e _ => by
  simp [execOp, e _ _ hx, e _ _ hy, eqGuard, binOp, Op.shift, Int.not_lt.2 hb]
theorem q_strCat {T' : TypeId} {a b : ByteArray} (hx : ev s x = some (.string a)) (hy : ev s y = some (.string b)) (hb : a.size + b.size ≤ 9223372036854775807) : Q1 P ⟨d, .binOp .add T x y T', ty, pos, af, g⟩ s Γ (.string (a ++ b)) := fun _ _ _ e _ => by
  simp [execOp, e _ _ hx, e _ _ hy, eqGuard, binOp, Op.stringOp]; omega
theorem q_strEq {T' : TypeId} {a b : ByteArray} (hx : ev s x = some (.string a)) (hy : ev s y = some (.string b)) : Q1 P ⟨d, .binOp .eql T x y T', ty, pos, af, g⟩ s Γ (.bool (a.toList == b.toList)) := fun _ _ _ e _ => by
  simp [execOp, e _ _ hx, e _ _ hy, eqGuard, binOp, Op.stringOp]
theorem q_not {b : Bool} (hx : ev s x = some (.bool b)) : Q1 P ⟨d, .unOp .not T x, ty, pos, af, g⟩ s Γ (.bool (!b)) := fun _ _ _ e _ => by simp [execOp, e _ _ hx, Op.unary]
theorem q_neg {k : IntKind} {a : Int} (hx : ev s x = some (.int k a)) : Q1 P ⟨d, .unOp .neg T x, ty, pos, af, g⟩ s Γ (.int k (k.wrap (0 - a))) := fun _ _ _ e _ => by simp [execOp, e _ _ hx, Op.unary, Op.intArith]
theorem q_com {k : IntKind} {a : Int} (hx : ev s x = some (.int k a)) (hv : ∀ w, (Op.intBits .xor k (if k.signed then -1 else k.max) a).run P w = .ok v w) : Q1 P ⟨d, .unOp .xor T x, ty, pos, af, g⟩ s Γ v := fun _ w _ e _ => by
  have := hv w
  simp [execOp, e _ _ hx, Op.unary, this]
def intB (P : Program) (T : TypeId) : Option IntKind := match P.underlying T with
  | some (.int k) => some k
  | _ => none
theorem intB_of {k : IntKind} (h : intB P T = some k) : P.underlying T = some (.int k) := by
  unfold intB at h
  split at h
  · rename_i k' e; simp at h; rw [e, h]
  · cases h
theorem q_conv {T' : TypeId} {k k' : IntKind} {a : Int} (h1 : intB P T = some k) (h2 : intB P T' = some k') (hx : ev s x = some (.int k a)) : Q1 P ⟨d, .convert T T' x, ty, pos, af, g⟩ s Γ (.int k' (k'.wrap a)) := fun _ _ _ e _ => by
  simp [execOp, e _ _ hx, convert, underlying, intB_of h1, intB_of h2, Conv.intToInt]
theorem q_extract {i : Nat} {vs : Array Value} (hx : ev s x = some (.tuple vs)) (hv : vs[i]? = some v) : Q1 P ⟨d, .extract x i, ty, pos, af, g⟩ s Γ v := fun _ _ _ e _ => by simp [execOp, e _ _ hx, Instr.extract, hv]
def evA (s : St) (xs : Array Operand) : Option (List Value) := evs s xs.toList
theorem EvOk.arr {ρ : Operand → Value} (h : EvOk s ρ) {xs : Array Operand} {vs : List Value} (e : evs s xs.toList = some vs) : xs.map ρ = vs.toArray := by
  have := h.list e
  apply Array.ext'
  simpa using this
theorem q_func {fn : Fn} {xs ys : List Operand} {vs us : List Value} (h1 : evs s xs = some vs) (h2 : evs s ys = some us) : Q1 P ⟨d, .makeFunc fn xs.toArray ys.toArray, ty, pos, af, g⟩ s Γ (.func fn vs.toArray us.toArray) := fun _ _ _ e _ => by
  simp [execOp, Instr.makeFunc, e.list h1, e.list h2]
theorem c_call {f : FuncId} {xs : List Operand} {ts : Array TypeId} {vs : List Value} {fn : Func} {c : Code} (hf : P.funcs[f]? = some fn) (hb : fn.body = some c) (hn : (fn.name == "runtime.NumGoroutine") = false) (h : evs s xs = some vs) :
    C1 P ⟨d, .call { callee := .value (.func f), args := xs.toArray, argTypes := ts }, ty, pos, af, g⟩ s f vs.toArray := fun w ρ e => by
  have e1 := e.list h
  have e2 : ρ (.func f) = .func (.func f) #[] #[] := e _ _ rfl
  simp only [beq_eq_false_iff_ne, ne_eq] at hn
  simp [execOp, resolve, e2, Deferred.ofValue, invoke, callFunc, hf, hb, hn, e1]
theorem c_callV {f : FuncId} {xs : List Operand} {ts : Array TypeId} {vs : List Value} {p q : Array Value} {fn : Func} {c : Code} (hx : ev s x = some (.func (.func f) p q)) (hf : P.funcs[f]? = some fn) (hb : fn.body = some c) (hn : (fn.name == "runtime.NumGoroutine") = false)
    (h : evs s xs = some vs) : C1 P ⟨d, .call { callee := .value x, args := xs.toArray, argTypes := ts }, ty, pos, af, g⟩ s f (p ++ vs.toArray ++ q) := fun w ρ e => by
  have e1 := e.list h
  simp only [beq_eq_false_iff_ne, ne_eq] at hn
  simp [execOp, resolve, e _ _ hx, Deferred.ofValue, invoke, callFunc, hf, hb, hn, e1]
/- The builtins that read no memory. -/
theorem q_len {a : Option Addr} {m c : Nat} {ts : Array TypeId} {e : TypeId} (ht : ts[0]? = some T) (hT : P.underlying T = some (.slice e)) (hx : ev s x = some (.slice a m c)) :
    Q1 P ⟨d, .call { callee := .builtin .len, args := #[x], argTypes := ts }, ty, pos, af, g⟩ s Γ (.int .i64 m) := fun _ _ _ e _ => by
  simp [execOp, resolve, invoke, builtin, Builtin.len_, ht, underlying, hT, e _ _ hx, goInt]
theorem q_lenS {b : ByteArray} {ts : Array TypeId} (ht : ts[0]? = some T) (hT : P.underlying T = some .string) (hx : ev s x = some (.string b)) :
    Q1 P ⟨d, .call { callee := .builtin .len, args := #[x], argTypes := ts }, ty, pos, af, g⟩ s Γ (.int .i64 b.size) := fun _ _ _ e _ => by
  simp [execOp, resolve, invoke, builtin, Builtin.len_, ht, underlying, hT, e _ _ hx, goInt]
end
end Go.Sl
/- Separation logic over the model's code: slices, composite literals, append, copy, make. -/
namespace Go.Sl
open Go Go.RowKit

def blk (a : Option Addr) : Nat := (a.getD ⟨0, 0, none⟩).block
def off (a : Option Addr) : Nat := (a.getD ⟨0, 0, none⟩).off
theorem blk_some (b o : Nat) : blk (some ⟨b, o, none⟩) = b := rfl
theorem off_some (b o : Nat) : off (some ⟨b, o, none⟩) = o := rfl
/-- The cells behind a slice's address are those at (blk a, off a). -/
def Pl (a : Option Addr) : Prop := a = some ⟨blk a, off a, none⟩
theorem Pl.mk (b o : Nat) : Pl (some ⟨b, o, none⟩) := rfl
/-- A slice value over cells. -/
structure Sok (sz : Nat) (a : Option Addr) (n c : Nat) (cs : List Value) : Prop where
  len : cs.length = n * sz
  cap : n ≤ c
  pl : cs = [] ∨ Pl a
theorem Sok.at {sz : Nat} {a : Option Addr} {n c : Nat} {cs : List Value} (h : Sok sz a n c cs) (hn : 0 < n) (hs : 0 < sz) : a = some ⟨blk a, off a, none⟩ := by
  rcases h.pl with e | e
  · have := h.len; rw [e] at this; have := Nat.mul_pos hn hs; simp at *; omega
  · exact e
/-- Its cells. -/
abbrev sl (p : Bool) (a : Option Addr) (cs : List Value) : A := cells p (blk a) (off a) cs
/-- A value that is a slice over these cells. -/
def slv (p : Bool) (sz : Nat) (v : Value) (cs : List Value) : A := ex fun a : Option Addr => ex fun n : Nat => ex fun c : Nat => star (pu (v = .slice a n c ∧ Sok sz a n c cs)) (sl p a cs)
theorem Pers.slv (sz : Nat) (v : Value) (cs : List Value) : Pers (slv false sz v cs) := Pers.ex fun _ => Pers.ex fun _ => Pers.ex fun _ => (Pers.pu _).star (Pers.cells _ _ _)
/-- A slice of one's own, with what it may grow into. -/
def buf (sz : Nat) (a : Option Addr) (n c : Nat) (cs : List Value) : A :=
  star (pu (Sok sz a n c cs)) (ex fun sp : List Value => star (pu (sp.length = (c - n) * sz ∧ (Pl a ∨ c = 0))) (cells true (blk a) (off a) (cs ++ sp)))

section
variable {P : Program} {s : St} {Γ Δ : List A} {d : Option Tmp} {ty : TypeId} {pos : String} {af : Array Edge} {g : Option (Nat × Bool)} {v u : Value} {x y z : Operand} {T : TypeId}

theorem slB_of {e sz : Nat} (h : slB P T = some (e, sz)) : P.underlying T = some (.slice e) ∧ szB P e = some sz := by
  unfold slB at h
  split at h
  · rename_i e' hu
    cases hi : P.info? e' with
    | none => rw [hi] at h; cases h
    | some i => rw [hi] at h; simp at h; obtain ⟨rfl, rfl⟩ := h; exact ⟨hu, by simp [szB, hi]⟩
  · cases h
theorem q_idx {e sz : Nat} {a : Option Addr} {n c : Nat} {k : IntKind} {i : Int} (hT : slB P T = some (e, sz)) (hx : ev s x = some (.slice a n c)) (hy : ev s y = some (.int k i)) (h0 : 0 ≤ i) (h1 : i < n) (ha : a = some ⟨blk a, off a, none⟩) :
    Q1 P ⟨d, .indexAddr T x y, ty, pos, af, g⟩ s Γ (.pointer (some ⟨blk a, off a + i.toNat * sz, none⟩)) := fun _ w _ e _ => by
  obtain ⟨h2, h3⟩ := slB_of hT
  have h4 := run_size h3 w
  have h5 : a.map (fun x => x.add (i.toNat * sz)) = some ⟨blk a, off a + i.toNat * sz, none⟩ := by
    rw [ha]; simp [add_lit, blk, off]
  rw [ha] at hx
  simp [execOp, e _ _ hx, e _ _ hy, Instr.indexAt, asIntOf, underlying, h2, h0, h1, h4, add_lit]
def arB (P : Program) (T : TypeId) : Option (Nat × Nat) := match P.underlying T with
  | some (.array n e) => (P.info? e).map fun i => (n, i.size)
  | _ => none
theorem arB_of {n sz : Nat} (h : arB P T = some (n, sz)) : ∃ e, P.underlying T = some (.array n e) ∧ szB P e = some sz := by
  unfold arB at h
  split at h
  · rename_i n' e' hu
    cases hi : P.info? e' with
    | none => rw [hi] at h; cases h
    | some i => rw [hi] at h; simp at h; obtain ⟨rfl, rfl⟩ := h; exact ⟨e', hu, by simp [szB, hi]⟩
  · cases h
theorem q_idxA {m sz b o : Nat} {k : IntKind} {i : Int} (hT : arB P T = some (m, sz)) (hx : ev s x = some (.pointer (some ⟨b, o, none⟩))) (hy : ev s y = some (.int k i)) (h0 : 0 ≤ i) (h1 : i < m) :
    Q1 P ⟨d, .indexAddr T x y, ty, pos, af, g⟩ s Γ (.pointer (some ⟨b, o + i.toNat * sz, none⟩)) := fun _ w _ e _ => by
  obtain ⟨el, h2, h3⟩ := arB_of hT
  have h4 := run_size h3 w
  simp [execOp, e _ _ hx, e _ _ hy, Instr.indexAt, asIntOf, underlying, h2, h0, h1, h4, add_lit, Instr.sureAddr]
theorem q_idxV {m sz : Nat} {k : IntKind} {i : Int} {cs : Array Value} (hT : arB P T = some (m, sz)) (hx : ev s x = some (.agg cs)) (hy : ev s y = some (.int k i)) (h0 : 0 ≤ i) (h1 : i < m)
    (he : ∀ e, P.underlying T = some (.array m e) → ldB P e = some none) (hv : cs[i.toNat * sz]? = some v) :
    Q1 P ⟨d, .index T x y, ty, pos, af, g⟩ s Γ v := fun _ w _ e _ => by
  obtain ⟨el, h2, h3⟩ := arB_of hT
  have h4 := run_size h3 w
  have h5 := (isAgg_of (he el h2) w).1
  simp at h5
  simp [execOp, e _ _ hx, e _ _ hy, Instr.index, asIntOf, underlying, h2, h0, h1, h4, part, h5, hv]

/- x[lo:hi] -/
def optV (s : St) : Option Operand → Option (Option Int)
  | none => some none
  | some o => match ev s o with
    | some (.int _ i) => some (some i)
    | _ => none
theorem optV_of {ρ : Operand → Value} (e : EvOk s ρ) {o : Option Operand} {r : Option Int} (h : optV s o = some r) : (o = none ∧ r = none) ∨ ∃ k i, r = some i ∧ o.map ρ = some (.int k i) := by
  cases o with
  | none => simp [optV] at h; exact .inl ⟨rfl, h.symm⟩
  | some x =>
    simp only [optV] at h
    split at h
    · rename_i k i hx; simp at h; subst h; exact .inr ⟨k, i, rfl, by simp [e _ _ hx]⟩
    · cases h
def cut (a : Option Addr) (m l k : Nat) : Option Addr := if m = l then a else a.map (·.add k)
theorem cut_zero (a : Option Addr) (m : Nat) : cut a m 0 0 = a := by
  unfold cut; split
  · rfl
  · cases a <;> simp [Addr.add]
theorem Pl.cut {a : Option Addr} (h : Pl a) {m l k : Nat} : Pl (cut a m l k) ∧ blk (cut a m l k) = blk a ∧ (m ≠ l → off (cut a m l k) = off a + k) := by
  unfold Pl at h
  rw [h]
  unfold Sl.cut
  by_cases e : m = l
  · rw [if_pos e]; exact ⟨rfl, rfl, fun h => absurd e h⟩
  · rw [if_neg e]; simp [Option.map_some, add_lit, Pl, blk, off]
theorem run_sliceBound {k : IntKind} {i : Int} {m : Nat} {cd : BoundsCode} (h0 : 0 ≤ i) (h1 : i ≤ m) (w : World) : (Instr.sliceBound (.int k i) m cd).run P w = .ok i.toNat w := by
  simp [Instr.sliceBound, asIntOf, h0, h1]
theorem run_sliceBounds {ρ : Operand → Value} (e : EvOk s ρ) {isS : Bool} {n c : Nat} {lo hi mx : Option Operand} {l h m : Option Int} (hl : optV s lo = some l) (hh : optV s hi = some h) (hm : optV s mx = some m)
    (h0 : 0 ≤ l.getD 0) (h1 : l.getD 0 ≤ h.getD n) (h2 : h.getD n ≤ m.getD c) (h3 : m.getD c ≤ c) (h4 : m = none ∨ h ≠ none) (w : World) :
    (Instr.sliceBounds isS n c (lo.map ρ) (hi.map ρ) (mx.map ρ)).run P w = .ok ((l.getD 0).toNat, (h.getD n).toNat, (m.getD c).toNat) w := by
  have b := fun (k : IntKind) (i : Int) (m : Nat) (cd : BoundsCode) (a : 0 ≤ i) (b : i ≤ m) => run_sliceBound (P := P) (k := k) (cd := cd) a b w
  unfold Instr.sliceBounds
  rcases optV_of e hm with ⟨rfl, rfl⟩ | ⟨km, im, rfl, em⟩
  · simp only [Option.getD_none] at h2 h3 ⊢
    rcases optV_of e hh with ⟨rfl, rfl⟩ | ⟨kh, ih, rfl, eh⟩
    · rcases optV_of e hl with ⟨rfl, rfl⟩ | ⟨kl, il, rfl, el⟩
      · simp
      · simp only [Option.getD_some, Option.getD_none] at h0 h1 ⊢
        simp [el, b kl il n .sliceB h0 h1]
    · simp only [Option.getD_some] at h1 h2 ⊢
      have e1 := b kh ih c (if isS then .sliceAcap else .sliceAlen) (by omega) h2
      rcases optV_of e hl with ⟨rfl, rfl⟩ | ⟨kl, il, rfl, el⟩
      · simp [eh, e1]
      · simp only [Option.getD_some] at h0 h1 ⊢
        simp [eh, e1, el, b kl il ih.toNat .sliceB h0 (by omega)]
  · simp only [Option.getD_some] at h2 h3 ⊢
    rcases optV_of e hh with ⟨rfl, rfl⟩ | ⟨kh, ih, rfl, eh⟩
    · simp at h4
    · simp only [Option.getD_some] at h1 h2 ⊢
      have e0 := b km im c (if isS then .slice3Acap else .slice3Alen) (by omega) h3
      have e1 := b kh ih im.toNat .slice3B (by omega) (by omega)
      rcases optV_of e hl with ⟨rfl, rfl⟩ | ⟨kl, il, rfl, el⟩
      · simp [em, e0, eh, e1]
      · simp only [Option.getD_some] at h0 h1 ⊢
        simp [em, e0, eh, e1, el, b kl il ih.toNat .slice3C h0 (by omega)]
theorem q_slice {el sz : Nat} {a : Option Addr} {n c : Nat} {lo hi mx : Option Operand} {l h m : Option Int} (hT : slB P T = some (el, sz)) (hx : ev s x = some (.slice a n c)) (hl : optV s lo = some l) (hh : optV s hi = some h) (hm : optV s mx = some m)
    (h0 : 0 ≤ l.getD 0) (h1 : l.getD 0 ≤ h.getD n) (h2 : h.getD n ≤ m.getD c) (h3 : m.getD c ≤ c) (h4 : m = none ∨ h ≠ none) :
    Q1 P ⟨d, .slice T x lo hi mx, ty, pos, af, g⟩ s Γ (.slice (cut a (m.getD c).toNat (l.getD 0).toNat ((l.getD 0).toNat * sz)) ((h.getD n).toNat - (l.getD 0).toNat) ((m.getD c).toNat - (l.getD 0).toNat)) := fun _ w _ e _ => by
  obtain ⟨h5, h6⟩ := slB_of hT
  have h7 := run_size h6 w
  have h8 := run_sliceBounds (P := P) (isS := true) e hl hh hm h0 h1 h2 h3 h4 w
  simp [execOp, e _ _ hx, Instr.sliceAt, Instr.slice, underlying, h5, h8, h7, cut]
theorem q_sliceA {sz b o : Nat} {n : Nat} {lo hi mx : Option Operand} {l h m : Option Int} (hT : arB P T = some (n, sz)) (hx : ev s x = some (.pointer (some ⟨b, o, none⟩))) (hl : optV s lo = some l) (hh : optV s hi = some h) (hm : optV s mx = some m)
    (h0 : 0 ≤ l.getD 0) (h1 : l.getD 0 ≤ h.getD n) (h2 : h.getD n ≤ m.getD n) (h3 : m.getD n ≤ n) (h4 : m = none ∨ h ≠ none) :
    Q1 P ⟨d, .slice T x lo hi mx, ty, pos, af, g⟩ s Γ (.slice (cut (some ⟨b, o, none⟩) (m.getD n).toNat (l.getD 0).toNat ((l.getD 0).toNat * sz)) ((h.getD n).toNat - (l.getD 0).toNat) ((m.getD n).toNat - (l.getD 0).toNat)) := fun _ w _ e _ => by
  obtain ⟨el, h5, h6⟩ := arB_of hT
  have h7 := run_size h6 w
  have h8 := run_sliceBounds (P := P) (isS := false) e hl hh hm h0 h1 h2 h3 h4 w
  simp [execOp, e _ _ hx, Instr.sliceAt, Instr.sureAddr, underlying, h5, h8, h7, cut]
  split <;> rfl
/-- The part of a slice is a slice. -/
theorem Sok.cut {sz : Nat} {a : Option Addr} {n c : Nat} {cs : List Value} (h : Sok sz a n c cs) {l k m : Nat} (h1 : l ≤ k) (h2 : k ≤ n) (h3 : k ≤ m) :
    Sok sz (cut a m l (l * sz)) (k - l) (m - l) ((cs.drop (l * sz)).take ((k - l) * sz)) := by
  refine ⟨?_, by omega, ?_⟩
  · rw [List.length_take, List.length_drop, h.len, ← Nat.sub_mul]
    exact Nat.min_eq_left (Nat.mul_le_mul_right _ (by omega))
  · rcases h.pl with rfl | hp
    · simp
    · exact .inr hp.cut.1
theorem cells_sub {p : Bool} {b o i k : Nat} {cs : List Value} {h : PH} (hh : cells p b o cs h) : cells p b (o + i) ((cs.drop i).take k) h := by
  intro j v hv
  have hj : j < k := by have := (List.getElem?_eq_some_iff.1 hv).1; simp at this; omega
  rw [List.getElem?_take, if_pos hj, List.getElem?_drop] at hv
  have := hh _ _ hv
  rwa [show o + (i + j) = o + i + j by omega] at this
theorem sl_cut {p : Bool} {sz : Nat} {a : Option Addr} {n c : Nat} {cs : List Value} (h : Sok sz a n c cs) {l k m : Nat} (h1 : l ≤ k) (h3 : k ≤ m) {H : PH} (hh : sl p a cs H) : sl p (Sl.cut a m l (l * sz)) ((cs.drop (l * sz)).take ((k - l) * sz)) H := by
  by_cases e : m = l
  · have : k - l = 0 := by omega
    rw [this]; simp; exact cells_nil _ _ _ _
  · rcases h.pl with rfl | hp
    · simp; exact cells_nil _ _ _ _
    · unfold sl
      rw [hp.cut.2.1, hp.cut.2.2 e]
      exact cells_sub hh

/- make -/
def mkB (P : Program) (T : TypeId) : Option (List Value × Nat) := match P.underlying T with
  | some (.slice e) => match P.info? e with
    | some i => match i.zero with
      | some z => match Nat.beq i.size z.cells.size with
        | true => some (z.cells.toList, i.bytes)
        | false => none
      | none => none
    | none => none
  | _ => none
theorem mkB_of {zs : List Value} {by_ : Nat} (h : mkB P T = some (zs, by_)) : ∃ e i z, P.underlying T = some (.slice e) ∧ P.info? e = some i ∧ i.zero = some z ∧ z.cells.toList = zs ∧ i.size = zs.length ∧ z.cells.size = zs.length ∧ i.bytes = by_ := by
  unfold mkB at h
  split at h
  · rename_i e hu
    split at h
    · rename_i i hi
      split at h
      · rename_i z hz
        split at h
        · rename_i hb
          simp only [Option.some.injEq, Prod.mk.injEq] at h
          obtain ⟨rfl, rfl⟩ := h
          exact ⟨e, i, z, hu, hi, hz, rfl, by simpa using Nat.eq_of_beq_eq_true hb, by simp, rfl⟩
        · cases h
      · cases h
    · cases h
  · cases h
def repZ (zs : List Value) : Nat → List Value
  | 0 => []
  | n + 1 => zs ++ repZ zs n
theorem repZ_length (zs : List Value) (n : Nat) : (repZ zs n).length = n * zs.length := by
  induction n with
  | zero => simp [repZ]
  | succ n ih => simp [repZ, ih, Nat.succ_mul, Nat.add_comm]
theorem getElem?_repZ (zs : List Value) (n i : Nat) (h : i < n * zs.length) : (repZ zs n)[i]? = zs[i % zs.length]? := by
  induction n generalizing i with
  | zero => simp at h
  | succ n ih =>
    simp only [repZ]
    by_cases hi : i < zs.length
    · rw [List.getElem?_append_left hi, Nat.mod_eq_of_lt hi]
    · have h' : i - zs.length < n * zs.length := by rw [Nat.succ_mul] at h; omega
      rw [List.getElem?_append_right (by omega), ih _ h', Nat.mod_eq_sub_mod (a := i) (by omega)]
theorem range_repZ (z : Array Value) (n : Nat) (hz : 0 < z.size) : ((Array.range (n * z.size)).map fun i => z[i % z.size]!).toList = repZ z.toList n := by
  apply List.ext_getElem?
  intro i
  by_cases h : i < n * z.size
  · rw [getElem?_repZ _ _ _ (by simpa using h)]
    have hm : i % z.size < z.size := Nat.mod_lt _ hz
    simp [h, hm]
  · rw [List.getElem?_eq_none (by simp; omega), List.getElem?_eq_none (by rw [repZ_length]; simp; omega)]
theorem e_make {zs : List Value} {by_ : Nat} {k k' : IntKind} {n c : Int} (hT : mkB P T = some (zs, by_)) (hz : 0 < zs.length) (hx : ev s x = some (.int k n)) (hy : ev s y = some (.int k' c)) (h0 : 0 ≤ n) (h1 : n ≤ c) (h2 : c ≤ 4294967296) (h3 : c * by_ ≤ 281474976710656) :
    E1 P ⟨d, .makeSlice T x y, ty, pos, af, g⟩ s Γ (newR Γ (repZ zs c.toNat) fun b => .slice (some ⟨b, 0, none⟩) n.toNat c.toNat) := fun F w ρ e t => by
  obtain ⟨el, i, z, h4, h5, h6, rfl, h7, h8, rfl⟩ := mkB_of hT
  have wn : IntKind.i64.wrap n = n := by unfold IntKind.wrap; simp [IntKind.bits, IntKind.signed]; omega
  have wc : IntKind.i64.wrap c = c := by unfold IntKind.wrap; simp [IntKind.bits, IntKind.signed]; omega
  have hb : ¬ (281474976710656 < (i.bytes : Int) * c) := by rw [Int.mul_comm]; omega
  have hc : ¬ c < 0 := by omega
  have hn : ¬ n < 0 := by omega
  have hnc : ¬ c < n := by omega
  let cs : Array Value := (Array.range (c.toNat * i.size)).map fun j => (if c.toNat * i.size = 0 then #[] else z.cells)[j % (if c.toNat * i.size = 0 then #[] else z.cells).size]!
  have hcs : cs.toList = repZ z.cells.toList c.toNat := by
    simp only [cs]
    by_cases e0 : c.toNat * i.size = 0
    · have : c.toNat = 0 := by
        rcases Nat.mul_eq_zero.1 e0 with h | h
        · exact h
        · omega
      simp [e0, this, repZ]
    · rw [if_neg e0, h7, Array.length_toList]
      exact range_repZ z.cells c.toNat (by simpa using hz)
  refine ⟨_, _, w.alloc (.cells cs el), ?_, ⟨w.heap.size, rfl, rfl⟩, hcs ▸ t.alloc cs el, .alloc w _⟩
  by_cases e0 : c.toNat * i.size = 0
  · simp [execOp, e _ _ hx, e _ _ hy, Instr.makeSlice, underlying, h4, typeInfo, h5, asInt, asIntOf, wn, wc, hc, hn, hnc, hb, askRoom, sizeOf, e0, newRow, cs]
  · simp [execOp, e _ _ hx, e _ _ hy, Instr.makeSlice, underlying, h4, typeInfo, h5, asInt, asIntOf, wn, wc, hc, hn, hnc, hb, askRoom, sizeOf, e0, newRow, cs, zeroValue, h6]

/- composite literals -/
def splice : List Value → Nat → List Value → List Value
  | xs, _, [] => xs
  | xs, i, c :: l => splice (xs.set i c) (i + 1) l
theorem splice_length : ∀ (l xs : List Value) (i : Nat), (splice xs i l).length = xs.length
  | [], xs, _ => rfl
  | c :: l, xs, i => by simp [splice, splice_length l]
theorem foldl_splice (o : Nat) : ∀ (l : List Value) (k : Nat) (cs : Array Value), ((l.zipIdx k).foldl (fun cs (x : Value × Nat) => cs.setIfInBounds (o + x.2) x.1) cs).toList = splice cs.toList (o + k) l
  | [], _, _ => rfl
  | c :: l, k, cs => by
    simp only [List.zipIdx_cons, List.foldl_cons, splice]
    rw [foldl_splice o l (k + 1), Array.toList_setIfInBounds, Nat.add_assoc]
def fillL (place : Nat → Option (Nat × Nat)) : List Value → List (Nat × Value) → Option (List Value)
  | cells, [] => some cells
  | cells, (i, v) :: rest => match place i with
    | none => none
    | some (o, sz) => match v.cells.size == sz && Nat.ble (o + sz) cells.length with
      | true => fillL place (splice cells o v.cells.toList) rest
      | false => none
theorem fill_of (place : Nat → Option (Nat × Nat)) : ∀ (parts : List (Nat × Value)) (cells : Array Value) (r : List Value), fillL place cells.toList parts = some r → Instr.fill place cells parts = some r.toArray
  | [], cells, r, h => by simp [fillL] at h; subst h; simp [Instr.fill]
  | (i, v) :: rest, cells, r, h => by
    simp only [fillL] at h
    cases hp : place i with
    | none => rw [hp] at h; cases h
    | some q =>
      obtain ⟨o, sz⟩ := q
      rw [hp] at h
      simp only at h
      split at h
      · rename_i hb
        simp only [Bool.and_eq_true, beq_iff_eq, Nat.ble_eq, Array.length_toList] at hb
        obtain ⟨hs, hle⟩ := hb
        simp only [Instr.fill, hp]
        have h1 : ¬ (v.cells.size ≠ sz ∨ o + v.cells.size > cells.size) := by rw [hs]; omega
        simp only [bne_iff_ne, ne_eq, gt_iff_lt, decide_eq_true_eq, Bool.or_eq_true] at h1 ⊢
        rw [if_neg h1]
        refine fill_of place rest _ r ?_
        rw [← h, ← Array.foldl_toList, Array.toList_zipIdx, foldl_splice]
        simp
      · cases h
def plB (P : Program) (T : TypeId) : Option (List Value × List (Nat × Nat)) := match P.underlying T with
  | some (.struct fs) => match zB P T, fs.toList.mapM fun f => (szB P f.type).map fun k => (f.offset, k) with
    | some z, some l => some (z.cells.toList, l)
    | _, _ => none
  | _ => none
theorem run_mapM_size : ∀ (fs : List Field) (l : List (Nat × Nat)) (w : World), (fs.mapM fun f => (szB P f.type).map fun k => (f.offset, k)) = some l →
    (fs.mapM fun f => (do Pure.pure (f.offset, ← sizeOf f.type) : Sem (Nat × Nat))).run P w = .ok l w
  | [], l, w, h => by simp at h; simp [h]
  | f :: fs, l, w, h => by
    simp only [List.mapM_cons] at h
    cases h1 : szB P f.type with
    | none => rw [h1] at h; simp at h
    | some k =>
      rw [h1] at h
      cases h2 : (fs.mapM fun f => (szB P f.type).map fun k => (f.offset, k)) with
      | none => rw [h2] at h; simp at h
      | some l' =>
        rw [h2] at h
        simp at h
        subst h
        have := run_mapM_size fs l' w h2
        simp at this
        simp [List.mapM_cons, run_size h1, this]
def evp (s : St) : List (Nat × Operand) → Option (List (Nat × Value))
  | [] => some []
  | (i, x) :: r => match ev s x, evp s r with
    | some v, some vs => some ((i, v) :: vs)
    | _, _ => none
theorem EvOk.parts {ρ : Operand → Value} (h : EvOk s ρ) : ∀ {xs : List (Nat × Operand)} {vs : List (Nat × Value)}, evp s xs = some vs → xs.map (fun p => (p.1, ρ p.2)) = vs
  | [], vs, e => by simp [evp] at e; simp [e]
  | (i, x) :: xs, vs, e => by
    simp only [evp] at e
    split at e
    · rename_i v us hv hus
      cases e
      simp [h x v hv, EvOk.parts h hus]
    · cases e
theorem run_zero {z : Value} (h : zB P T = some z) (w : World) : (zeroValue T).run P w = .ok z w := by
  unfold zB at h
  cases e : P.info? T with
  | none => rw [e] at h; cases h
  | some i => rw [e] at h; simp at h; simp [zeroValue, typeInfo, e, h]
theorem q_build {zs cs : List Value} {pl : List (Nat × Nat)} {ps : List (Nat × Operand)} {vs : List (Nat × Value)} (hT : plB P T = some (zs, pl)) (hp : evp s ps = some vs) (hf : fillL (fun i => pl[i]?) zs vs = some cs) :
    Q1 P ⟨d, .build T ps.toArray, ty, pos, af, g⟩ s Γ (.agg cs.toArray) := fun _ w _ e _ => by
  unfold plB at hT
  split at hT
  · rename_i fs hu
    split at hT
    · rename_i z l hz hl
      simp only [Option.some.injEq, Prod.mk.injEq] at hT
      obtain ⟨rfl, rfl⟩ := hT
      have h1 := run_zero hz w
      have h2 := run_mapM_size fs.toList l w hl
      have h3 := fill_of (fun i => l[i]?) vs z.cells cs hf
      have h4 := e.parts hp
      simp at h2
      simp only [execOp, Instr.build, Sem.run_bind, h1, Result.andThen_ok, underlying]
      simp [hu, Array.mapM_eq_mapM_toList, h2, h4, h3]
    · cases hT
  · cases hT
theorem e_buildSlice {zs cs : List Value} {by_ n : Nat} {ps : List (Nat × Operand)} {vs : List (Nat × Value)} (hT : mkB P T = some (zs, by_)) (hz : 0 < zs.length) (hn : Nat.ble (n * zs.length) 16777216 = true) (hp : evp s ps = some vs)
    (hf : fillL (fun i => some (i * zs.length, zs.length)) (repZ zs n) vs = some cs) :
    E1 P ⟨d, .buildSlice T n ps.toArray, ty, pos, af, g⟩ s Γ (newR Γ cs fun b => .slice (some ⟨b, 0, none⟩) n n) := fun F w ρ e t => by
  obtain ⟨el, i, z, h4, h5, h6, rfl, h7, h8, rfl⟩ := mkB_of hT
  have h9 := e.parts hp
  simp only [Nat.ble_eq] at hn
  have h10 : ¬ (16777216 < n * i.size) := by rw [h7]; omega
  refine ⟨_, _, w.alloc (.cells cs.toArray el), ?_, ⟨w.heap.size, rfl, rfl⟩, t.alloc cs.toArray el, .alloc w _⟩
  by_cases e0 : n * i.size = 0
  · have hn0 : n = 0 := by
      rcases Nat.mul_eq_zero.1 e0 with h | h
      · exact h
      · omega
    subst hn0
    have h3 := fill_of (fun j => some (j * i.size, i.size)) vs #[] cs (by rw [h7]; simpa [repZ] using hf)
    have hr : Array.map (fun _ : Nat => (default : Value)) (Array.range 0) = #[] := by simp
    simp [execOp, Instr.buildSlice, underlying, h4, sizeOf, typeInfo, h5, h9, hr, h3, newRow]
  · have hr : ((Array.range (n * i.size)).map fun j => z.cells[j % z.cells.size]!) = (repZ z.cells.toList n).toArray := by
      apply Array.ext'
      have hs : i.size = z.cells.size := by rw [h7]; simp
      rw [hs, range_repZ _ _ (by simpa using hz)]
    have h3 := fill_of (fun j => some (j * i.size, i.size)) vs (repZ z.cells.toList n).toArray cs (by rw [h7]; simpa using hf)
    simp [execOp, Instr.buildSlice, underlying, h4, sizeOf, typeInfo, h5, h9, e0, zeroValue, h6, hr, h3, newRow, Int.not_lt.2, h10]

/- append -/
theorem run_first {p : Bool} {sz : Nat} {a : Option Addr} {n c : Nat} {cs : List Value} (h : Sok sz a n c cs) {F : A} {w : World} (t : Sat (sl p a cs :: Γ) F w) (hn : a = none → n = 0) : (Builtin.firstCells sz n (.slice a n c)).run P w = .ok cs.toArray w := by
  cases a with
  | none =>
    have := h.len
    rw [hn rfl] at this
    have : cs = [] := List.eq_nil_of_length_eq_zero (by simpa using this)
    subst this
    simp [Builtin.firstCells]
  | some ad =>
    rcases h.pl with rfl | hp
    · have h0 : n * sz = 0 := by have := h.len; simpa using this.symm
      simp [Builtin.firstCells, h0, loadCells, loadCellsFrom]
    · have h1 := t.load (P := P) 0 cs (by simp)
      unfold Pl at hp
      rw [hp]
      simp only [Builtin.firstCells, ← h.len]
      simpa using h1
def appR (sz : Nat) (n m : Nat) (cs news : List Value) (Θ : List A) : Value → List A → Prop := fun v Δ => ∃ a c, v = .slice a (n + m) c ∧ (n + m = 0 ∨ Pl a) ∧ Δ = buf sz a (n + m) c (cs ++ news) :: Θ
theorem Sat.buf {sz : Nat} {a : Option Addr} {n c : Nat} {cs : List Value} {F : A} {w : World} : Sat (buf sz a n c cs :: Γ) F w ↔ Sok sz a n c cs ∧ ∃ sp : List Value, (sp.length = (c - n) * sz ∧ (Pl a ∨ c = 0)) ∧ Sat (cells true (blk a) (off a) (cs ++ sp) :: Γ) F w := by
  unfold Sl.buf
  rw [Sat.star, Sat.pure, Sat.ex]
  constructor
  · rintro ⟨h, sp, t⟩
    rw [Sat.star, Sat.pure] at t
    exact ⟨h, sp, t⟩
  · rintro ⟨h, sp, t⟩
    refine ⟨h, sp, ?_⟩
    rw [Sat.star, Sat.pure]
    exact t
end
end Go.Sl
/- Separation logic over the model's code: append, copy, clear, min, max. -/
namespace Go.Sl
open Go Go.RowKit
section
variable {P : Program} {s : St} {Γ Δ Θ : List A} {d : Option Tmp} {ty : TypeId} {pos : String} {af : Array Edge} {g : Option (Nat × Bool)} {v u : Value} {x y z : Operand} {T : TypeId}

/-- A value's first elements can be read. -/
def Rd (P : Program) (sz : Nat) (Γ : List A) (v : Value) (m : Nat) (news : List Value) : Prop :=
  (∃ a c, v = .slice a m c) ∧ news.length = m * sz ∧ ∀ F w, Sat Γ F w → (Builtin.firstCells sz m v).run P w = .ok news.toArray w
theorem Rd.mem {p : Bool} {sz : Nat} {a : Option Addr} {n c : Nat} {cs : List Value} (h : Sok sz a n c cs) (hn : a = none → n = 0) (hm : sl p a cs ∈ Γ) : Rd P sz Γ (.slice a n c) n cs :=
  ⟨⟨a, c, rfl⟩, h.len, fun _ _ t => let ⟨_, t⟩ := t.mem hm; run_first h t hn⟩
theorem Rd.part {p : Bool} {sz b o i a n c : Nat} {vs cs : List Value} (hm : cells p b o vs ∈ Γ) (ha : a = o + i) (hn : cs.length = n * sz) (hv : (vs.drop i).take cs.length = cs) : Rd P sz Γ (.slice (some ⟨b, a, none⟩) n c) n cs :=
  ⟨⟨_, c, rfl⟩, hn, fun _ _ t => by
    obtain ⟨_, t⟩ := t.mem hm
    subst ha
    have := t.load (P := P) i cs hv
    simp only [Builtin.firstCells, ← hn]
    simpa using this⟩
theorem Rd.zero {sz : Nat} {a : Option Addr} {c : Nat} : Rd P sz Γ (.slice a 0 c) 0 [] := ⟨⟨a, c, rfl⟩, by simp, fun _ _ _ => by cases a <;> simp [Builtin.firstCells, loadCells, loadCellsFrom]⟩

theorem run_append_to {e : TypeId} {i : TypeInfo} {zv : Value} {ty : TypeId} (ht : P.underlying T = some (.slice e)) (hi : P.info? e = some i) (hz : i.zero = some zv) {a : Option Addr} {n c m : Nat} {src : Value} {olds news : List Value} {w : World}
    (hs : ∃ a c, src = .slice a m c) (hnew : ∀ w', w' = w ∨ w' = w.drew → (Builtin.firstCells i.size m src).run P w' = .ok news.toArray w') (hold : (Builtin.firstCells i.size n (.slice a n c)).run P w.drew = .ok olds.toArray w.drew)
    (hg : c < n + m) (h63 : n + m ≤ 4611686018427387904) (hfit : (n + m) * i.bytes ≤ 140737488355328) :
    (Builtin.append_ #[T, T] ty #[.slice a n c, src]).run P w = .ok (.slice (some ⟨w.heap.size, 0, none⟩) (n + m) (grownCap w (n + m) c e))
      (w.drew.alloc (.cells (olds.toArray ++ news.toArray ++ Builtin.zeroCells zv.cells (grownCap w (n + m) c e - (n + m))) e)) := by
  obtain ⟨a', c', rfl⟩ := hs
  have hn : ¬ (n + m ≤ c) := by omega
  have h63' : ¬ (9223372036854775807 < ((n : Int) + (m : Int))) := by omega
  have h48 := growslice_fits hg hfit
  have h48' : ¬ (281474976710656 < Builtin.nextslicecap (n + m) c * i.bytes) := by omega
  have hf := hnew _ (.inr rfl)
  simp [Builtin.append_, run_underlying ht, sizeOf, typeInfo, zeroValue, hi, hz, Builtin.lenOf, hn, h63', h48', Question.forced, hf, hold, newRow, grownCap]
  congr 2
  apply Array.ext'
  simp [List.append_assoc]

theorem appR_grow {zs : List Value} {n c m : Nat} {cs news : List Value} {F : A} {w : World} {e : TypeId} {zv : Value} (hz : zv.cells.size = zs.length) (hc : cs.length = n * zs.length) (hl : news.length = m * zs.length) (t : Sat Θ F w) :
    let w' := w.drew.alloc (.cells (cs.toArray ++ news.toArray ++ Builtin.zeroCells zv.cells (grownCap w (n + m) c e - (n + m))) e)
    appR zs.length n m cs news Θ (.slice (some ⟨w.heap.size, 0, none⟩) (n + m) (grownCap w (n + m) c e)) (buf zs.length (some ⟨w.heap.size, 0, none⟩) (n + m) (grownCap w (n + m) c e) (cs ++ news) :: Θ) ∧
    Sat (buf zs.length (some ⟨w.heap.size, 0, none⟩) (n + m) (grownCap w (n + m) c e) (cs ++ news) :: Θ) F w' ∧ Adv w w' := by
  intro w'
  have hge := grownCap_ge w (n + m) c e
  refine ⟨⟨_, _, rfl, .inr (Pl.mk _ _), rfl⟩, Sat.buf.2 ⟨⟨?_, hge, .inr (Pl.mk _ _)⟩, (Builtin.zeroCells zv.cells (grownCap w (n + m) c e - (n + m))).toList, ⟨?_, .inl (Pl.mk _ _)⟩, ?_⟩, (Adv.drew w).trans (.alloc _ _)⟩
  · rw [List.length_append, hc, hl, Nat.add_mul]
  · rw [Array.length_toList, size_zeroCells, hz]
  · have := t.drew.alloc (cs.toArray ++ news.toArray ++ Builtin.zeroCells zv.cells (grownCap w (n + m) c e - (n + m))) e
    have e1 : (cs.toArray ++ news.toArray ++ Builtin.zeroCells zv.cells (grownCap w (n + m) c e - (n + m))).toList = cs ++ news ++ (Builtin.zeroCells zv.cells (grownCap w (n + m) c e - (n + m))).toList := by simp
    rw [e1] at this
    exact this

/-- Behind a slice of one's own. -/
theorem e_append {zs : List Value} {by_ : Nat} {a : Option Addr} {n c m : Nat} {cs news : List Value} (hT : mkB P T = some (zs, by_)) (hz : 0 < zs.length) (hx : ev s x = some (.slice a n c)) (hy : ev s y = some u) (hp : Pick1 Γ (buf zs.length a n c cs) Θ)
    (hs : Rd P zs.length Γ u m news) (h1 : ∀ q ∈ news, q.oneCell' = true) (h63 : n + m ≤ 4611686018427387904) (hfit : (n + m) * by_ ≤ 140737488355328) :
    E1 P ⟨d, .call { callee := .builtin .append, args := #[x, y], argTypes := #[T, T] }, ty, pos, af, g⟩ s Γ (appR zs.length n m cs news Θ) := fun F w ρ ee t => by
  obtain ⟨e, i, zv, h4, h5, h6, h6', h7, h8, rfl⟩ := mkB_of hT
  obtain ⟨hs1, hs2, hs3⟩ := hs
  have t0 := Imp.perm hp.perm _ _ t
  obtain ⟨hok, sp, ⟨hsp, hpl⟩, t1⟩ := Sat.buf.1 t0
  have hrun : ∀ r, (Builtin.append_ #[T, T] ty #[.slice a n c, u]).run P w = r → (execOp ρ ⟨d, .call { callee := .builtin .append, args := #[x, y], argTypes := #[T, T] }, ty, pos, af, g⟩).run P w = r.andThen fun v w' => .ok (.value v) w' := by
    rintro r rfl
    simp [execOp, resolve, invoke, builtin, ee _ _ hx, ee _ _ hy]
  by_cases hg : n + m ≤ c
  · have h2 := hs3 F w t
    obtain ⟨a', c', rfl⟩ := hs1
    by_cases hP : Pl a
    · have hlen : n * zs.length + 0 + news.length ≤ (cs ++ sp).length := by
        rw [List.length_append, hok.len, hsp, hs2, ← Nat.add_mul, Nat.add_zero, ← Nat.add_mul]
        exact Nat.mul_le_mul_right _ (by omega)
      obtain ⟨w', hr, t', ad⟩ := run_storeCells (P := P) news (n * zs.length) 0 h1 hlen t1
      refine ⟨_, _, w', ?_, ⟨a, c, rfl, .inr hP, rfl⟩, Sat.buf.2 ⟨⟨?_, hg, .inr hP⟩, sp.drop (m * zs.length), ⟨?_, .inl hP⟩, ?_⟩, ad⟩
      · rw [hrun _ rfl]
        unfold Pl at hP
        rw [hP]
        rw [← h7] at h2 hr
        simp [Builtin.append_, run_underlying h4, sizeOf, typeInfo, h5, Builtin.lenOf, hg, h2, add_lit, hr]
      · rw [List.length_append, hok.len, hs2, Nat.add_mul]
      · rw [List.length_drop, hsp, ← Nat.sub_mul]; congr 1; omega
      · have e1 : List.take (n * zs.length + 0) (cs ++ sp) ++ news ++ List.drop (n * zs.length + 0 + news.length) (cs ++ sp) = cs ++ news ++ List.drop (m * zs.length) sp := by
          rw [Nat.add_zero, ← hok.len, List.take_left, ← List.drop_drop, List.drop_left, hs2]
        rw [e1] at t'
        exact t'
    · have hc0 : c = 0 := hpl.resolve_left hP
      have hn0 : n = 0 := by omega
      have hm0 : m = 0 := by omega
      subst hc0 hn0 hm0
      have hnews : news = [] := List.eq_nil_of_length_eq_zero (by simpa using hs2)
      subst hnews
      refine ⟨.slice a 0 0, _, w, ?_, ⟨a, 0, rfl, .inl rfl, rfl⟩, ?_, .refl w⟩
      · rw [hrun _ rfl]
        rw [← h7] at h2
        cases a with
        | none => simp [Builtin.append_, run_underlying h4, sizeOf, typeInfo, h5, Builtin.lenOf, h2]
        | some ad => simp [Builtin.append_, run_underlying h4, sizeOf, typeInfo, h5, Builtin.lenOf, h2, storeCells]
      · simpa using t0
  · have hold : (Builtin.firstCells i.size n (.slice a n c)).run P w.drew = .ok cs.toArray w.drew := by
      rw [h7]
      have t2 : Sat (sl true a cs :: Θ) F w.drew := by
        have := (Imp.split true (blk a) (off a) cs sp Θ F w t1).drew
        exact Imp.drop _ _ _ _ (Imp.perm (.swap _ _ _) _ _ this)
      refine run_first hok t2 fun h => ?_
      subst h
      rcases hpl with h | h
      · simp [Pl] at h
      · have := hok.cap; omega
    have hr := run_append_to (P := P) (ty := ty) h4 h5 h6 (a := a) (n := n) (c := c) hs1 (fun w' hw' => by
      rw [h7]
      rcases hw' with rfl | rfl
      · exact hs3 F _ t
      · exact hs3 F _ t.drew) hold (by omega) h63 hfit
    have ht := Imp.drop _ _ _ _ t1
    obtain ⟨q1, q2, q3⟩ := appR_grow (zs := zs) (n := n) (c := c) (m := m) (cs := cs) (news := news) (e := e) (zv := zv) h8 hok.len hs2 ht
    exact ⟨_, _, _, by rw [hrun _ hr]; rfl, q1, q2, q3⟩

/-- Behind one that has no room (clipped, nil), that is only read. -/
theorem e_appendNew {zs : List Value} {by_ : Nat} {a : Option Addr} {n c m : Nat} {cs news : List Value} (hT : mkB P T = some (zs, by_)) (hz : 0 < zs.length) (hx : ev s x = some (.slice a n c)) (hy : ev s y = some u)
    (ho : Rd P zs.length Γ (.slice a n c) n cs) (hs : Rd P zs.length Γ u m news) (hc : c = n) (hm : 0 < m ∨ n = 0) (h63 : n + m ≤ 4611686018427387904) (hfit : (n + m) * by_ ≤ 140737488355328) :
    E1 P ⟨d, .call { callee := .builtin .append, args := #[x, y], argTypes := #[T, T] }, ty, pos, af, g⟩ s Γ (appR zs.length n m cs news Γ) := fun F w ρ ee t => by
  obtain ⟨e, i, zv, h4, h5, h6, h6', h7, h8, rfl⟩ := mkB_of hT
  obtain ⟨hs1, hs2, hs3⟩ := hs
  obtain ⟨_, ho2, ho3⟩ := ho
  have hrun : ∀ r, (Builtin.append_ #[T, T] ty #[.slice a n c, u]).run P w = r → (execOp ρ ⟨d, .call { callee := .builtin .append, args := #[x, y], argTypes := #[T, T] }, ty, pos, af, g⟩).run P w = r.andThen fun v w' => .ok (.value v) w' := by
    rintro r rfl
    simp [execOp, resolve, invoke, builtin, ee _ _ hx, ee _ _ hy]
  subst hc
  by_cases hg : m = 0
  · subst hg
    have hn0 : c = 0 := by omega
    subst hn0
    have h2 := hs3 F w t
    obtain ⟨a', c', rfl⟩ := hs1
    have hnews : news = [] := List.eq_nil_of_length_eq_zero (by simpa using hs2)
    have hcs : cs = [] := List.eq_nil_of_length_eq_zero (by simpa using ho2)
    subst hnews hcs
    refine ⟨.slice a 0 0, _, w, ?_, ⟨a, 0, rfl, .inl rfl, rfl⟩, ?_, .refl w⟩
    · rw [hrun _ rfl]
      rw [← h7] at h2
      cases a with
      | none => simp [Builtin.append_, run_underlying h4, sizeOf, typeInfo, h5, Builtin.lenOf, h2]
      | some ad => simp [Builtin.append_, run_underlying h4, sizeOf, typeInfo, h5, Builtin.lenOf, h2, storeCells]
    · refine Sat.buf.2 ⟨⟨by simp, Nat.le_refl _, .inl rfl⟩, [], ⟨by simp, .inr rfl⟩, ?_⟩
      obtain ⟨h, q, m⟩ := t
      exact ⟨h, ⟨_, h, join_empty h, cells_nil _ _ _ _, q⟩, m⟩
  · have hr := run_append_to (P := P) (ty := ty) h4 h5 h6 (a := a) (n := c) (c := c) hs1 (fun w' hw' => by
      rw [h7]
      rcases hw' with rfl | rfl
      · exact hs3 F _ t
      · exact hs3 F _ t.drew) (by rw [h7]; exact ho3 F _ t.drew) (by omega) h63 hfit
    obtain ⟨q1, q2, q3⟩ := appR_grow (zs := zs) (n := c) (c := c) (m := m) (cs := cs) (news := news) (e := e) (zv := zv) h8 ho2 hs2 t
    exact ⟨_, _, _, by rw [hrun _ hr]; rfl, q1, q2, q3⟩

/-- There is room, in cells of one's own (from wherever the source is). -/
theorem e_appendRoom {zs : List Value} {by_ : Nat} {b o i n c m : Nat} {vs news : List Value} (hT : mkB P T = some (zs, by_)) (hx : ev s x = some (.slice (some ⟨b, o + i, none⟩) n c)) (hy : ev s y = some u) (hs : Rd P zs.length Γ u m news) (h1 : ∀ q ∈ news, q.oneCell' = true)
    (hr : n + m ≤ c) (hl : i + (n + m) * zs.length ≤ vs.length) (hm : Upd Γ (cells true b o vs) (cells true b o (vs.take (i + n * zs.length) ++ news ++ vs.drop (i + (n + m) * zs.length))) Δ) :
    E1 P ⟨d, .call { callee := .builtin .append, args := #[x, y], argTypes := #[T, T] }, ty, pos, af, g⟩ s Γ (fun v Δ' => v = .slice (some ⟨b, o + i, none⟩) (n + m) c ∧ Δ' = Δ) := fun F w ρ ee t => by
  obtain ⟨e, ti, zv, h4, h5, h6, h6', h7, h8, rfl⟩ := mkB_of hT
  obtain ⟨hs1, hs2, hs3⟩ := hs
  obtain ⟨Θ, t1, t2⟩ := hm.sat t
  have h2 := hs3 F w t
  obtain ⟨a', c', rfl⟩ := hs1
  have hlen : (i + n * zs.length) + 0 + news.length ≤ vs.length := by rw [hs2, Nat.add_zero, Nat.add_assoc, ← Nat.add_mul]; exact hl
  obtain ⟨w', hr', t', ad⟩ := run_storeCells (P := P) news (i + n * zs.length) 0 h1 hlen t1
  refine ⟨_, _, w', ?_, ⟨rfl, rfl⟩, t2 w' ?_, ad⟩
  · rw [← h7, ← Nat.add_assoc] at hr'
    rw [← h7] at h2
    simp [execOp, resolve, invoke, builtin, ee _ _ hx, ee _ _ hy, Builtin.append_, run_underlying h4, sizeOf, typeInfo, h5, Builtin.lenOf, hr, h2, add_lit, hr']
  · rw [Nat.add_zero, hs2, Nat.add_assoc, ← Nat.add_mul] at t'
    exact t'

/-- copy -/
theorem e_copy {e sz : Nat} {b o i n c m : Nat} {sT : TypeId} {v' : Option Addr} {c' : Nat} {vs news : List Value} (hT : slB P T = some (e, sz)) (hx : ev s x = some (.slice (some ⟨b, o + i, none⟩) n c)) (hy : ev s y = some (.slice v' m c')) (hs : ∀ F w, Sat Γ F w → (Builtin.firstCells sz (min m n) (.slice v' m c')).run P w = .ok news.toArray w)
    (hn : news.length = min m n * sz) (h1 : ∀ q ∈ news, q.oneCell' = true) (hl : i + news.length ≤ vs.length) (hm : Upd Γ (cells true b o vs) (cells true b o (vs.take i ++ news ++ vs.drop (i + news.length))) Δ) :
    E1 P ⟨d, .call { callee := .builtin .copy, args := #[x, y], argTypes := #[T, sT] }, ty, pos, af, g⟩ s Γ (fun v Δ' => v = .int .i64 (min m n : Nat) ∧ Δ' = Δ) := fun F w ρ ee t => by
  obtain ⟨h4, h5⟩ := slB_of hT
  obtain ⟨Θ, t1, t2⟩ := hm.sat t
  have h2 := hs F w t
  obtain ⟨w', hr', t', ad⟩ := run_storeCells (P := P) news i 0 h1 (by simpa using hl) t1
  refine ⟨_, _, w', ?_, ⟨rfl, rfl⟩, t2 w' (by simpa using t'), ad⟩
  have h6 := run_size h5 w
  have h7 : Nat.min m n = min m n := rfl
  simp [execOp, resolve, invoke, builtin, ee _ _ hx, ee _ _ hy, Builtin.copy_, run_underlying h4, Builtin.lenOf, h6, h7, h2, hr', goInt]
end
end Go.Sl
/- Separation logic over the model's code: regions that draw the order of their operations. What only reads is taken as early as may be; what it read must not change till it surely has been done. -/
namespace Go.Sl
open Go Go.RowKit

/-- Nothing but what is said of the ordinary end. -/
def QN (R : Act → World → Prop) : Exit → Act → World → Prop
  | .normal, a, w => R a w
  | _, _, _ => False
theorem QN.lets {R : Act → World → Prop} : ¬ LetsOut (QN R) := fun ⟨_, _, h⟩ => h

/-- Operation i stands before operation j, by the edges that always bind. -/
def ancB (ops : Array Oper) : Nat → Nat → Nat → Bool
  | 0, _, _ => false
  | f + 1, j, i => match ops[j]? with
    | none => false
    | some o => o.after.toList.any fun e => Region.binds .any e && (Nat.beq e.on i || ancB ops f e.on i)
abbrev anc (ops : Array Oper) (j i : Nat) : Bool := ancB ops ops.size j i

def Closed (ops : Array Oper) (listed : Array Bool) : Prop := ∀ j o, listed.getD j false = true → ops[j]? = some o → ∀ e ∈ o.after, Region.binds .any e = true → listed.getD e.on false = true
theorem Closed.ready {ops : Array Oper} {listed : Array Bool} (hc : Closed ops listed) {j : Nat} (hj : j ∈ Region.ready .any ops listed) {i : Nat} : ∀ f, ancB ops f j i = true → listed.getD i false = true := by
  have key : ∀ f j, (∀ o, ops[j]? = some o → ∀ e ∈ o.after, Region.binds .any e = true → listed.getD e.on false = true) → ancB ops f j i = true → listed.getD i false = true := by
    intro f
    induction f with
    | zero => intro j _ h; cases h
    | succ f ih =>
      intro j hp h
      simp only [ancB] at h
      cases ho : ops[j]? with
      | none => rw [ho] at h; cases h
      | some o =>
        rw [ho] at h
        simp only [List.any_eq_true, Bool.and_eq_true, Bool.or_eq_true] at h
        obtain ⟨e, he, hb, h⟩ := h
        have he := Array.mem_toList_iff.1 he
        have hl := hp o ho e he hb
        rcases h with h | h
        · rw [← Nat.eq_of_beq_eq_true h]; exact hl
        · exact ih e.on (fun o' ho' e' he' hb' => hc e.on o' hl ho' e' he' hb') h
  intro f
  obtain ⟨_, o, ho, hp⟩ := mem_ready.1 hj
  exact key f j fun o' ho' => by rw [ho] at ho'; cases ho'; exact hp
theorem Closed.set {ops : Array Oper} {listed : Array Bool} (hc : Closed ops listed) {i : Nat} (hi : i ∈ Region.ready .any ops listed) : Closed ops (listed.setIfInBounds i true) := by
  obtain ⟨_, o, ho, hp⟩ := mem_ready.1 hi
  intro j o' hj ho' e he hb
  apply getD_set_true
  by_cases hij : i = j
  · subst hij; rw [ho] at ho'; cases ho'; exact hp e he hb
  · rw [getD_set_ne _ hij] at hj; exact hc j o' hj ho' e he hb
theorem ready_set {ops : Array Oper} {listed : Array Bool} {i j : Nat} (hij : i ≠ j) (hj : j ∈ Region.ready .any ops listed) : j ∈ Region.ready .any ops (listed.setIfInBounds i true) := by
  obtain ⟨h0, o, ho, hp⟩ := mem_ready.1 hj
  exact mem_ready.2 ⟨by rw [getD_set_ne _ hij]; exact h0, o, ho, fun e he hb => getD_set_true (hp e he hb)⟩

abbrev Locks := List (Nat × (World → Prop))
def wpAnyL (P : Program) (ops : Array Oper) (R : Act → World → Prop) : Nat → Locks → Array Bool → Act → World → Prop
  | 0, _, listed, a, w => Region.ready .any ops listed = [] ∧ R a w
  | f + 1, lk, listed, a, w => (Region.ready .any ops listed = [] → R a w) ∧ ∀ i ∈ Region.ready .any ops listed,
      wpOp P ops (QN R) i (fun a' w' => ∃ lk' : Locks, (∀ p ∈ lk, p ∈ lk' ∨ anc ops i p.1 = true) ∧ (∀ p ∈ lk', p.2 w') ∧ wpAnyL P ops R f lk' (listed.setIfInBounds i true) a' w') a w
section
variable {P : Program} {ops : Array Oper} {R : Act → World → Prop}
theorem wpAny_of_L : ∀ {f : Nat} {lk : Locks} {listed : Array Bool} {a : Act} {w : World}, wpAnyL P ops R f lk listed a w → wpAny P .any ops (QN R) f listed a w
  | 0, _, _, _, _, h => h
  | _ + 1, _, _, _, _, h => ⟨h.1, fun i hi => wpOp_mono (fun _ _ ⟨_, _, _, h⟩ => wpAny_of_L h) (h.2 i hi)⟩
theorem wpAnyL.weak {f : Nat} {lk lk2 : Locks} {listed : Array Bool} {a : Act} {w : World} (hs : ∀ p ∈ lk2, p ∈ lk) (h : wpAnyL P ops R f lk listed a w) : wpAnyL P ops R f lk2 listed a w := by
  cases f with
  | zero => exact h
  | succ f => exact ⟨h.1, fun i hi => wpOp_mono (fun _ _ ⟨lk', h1, h2, h3⟩ => ⟨lk', fun p hp => h1 p (hs p hp), h2, h3⟩) (h.2 i hi)⟩

/-- In this state the operation yields v in every world of the class. -/
def YC (P : Program) (ops : Array Oper) (o : Oper) (v : Value) (C : World → Prop) (a : Act) : Prop :=
  (Region.wanted o (yielded ops a.tmps) = true ∧ ∀ w, C w → (execOp a.eval o).run P w = .ok (.value v) w) ∨ (Region.wanted o (yielded ops a.tmps) = false ∧ v = undef)
theorem YC.same {o : Oper} {v : Value} {C : World → Prop} {a a' : Act} (h : YC P ops o v C a) (he : execOp a'.eval o = execOp a.eval o) (hw : Region.wanted o (yielded ops a'.tmps) = Region.wanted o (yielded ops a.tmps)) : YC P ops o v C a' := by
  unfold YC at *; rw [he, hw]; exact h
theorem YC.run {i : Nat} {o : Oper} {v : Value} {C : World → Prop} {a : Act} (hi : ops[i]? = some o) (h : YC P ops o v C a) {w : World} (hw : C w) {K : Act → World → Prop} (k : K (a.put o.dst v) w) : wpOp P ops (QN R) i K a w := by
  unfold wpOp
  simp only [hi]
  rcases h with ⟨h1, h2⟩ | ⟨h1, rfl⟩
  · simp only [h1, if_true, Oper.wp, h2 w hw, Oper.upon]; exact .inl k
  · simp only [h1, Bool.false_eq_true, if_false]; exact k
theorem wpOp_putC {j : Nat} {oi oj : Oper} {v : Value} {C : World → Prop} (hj : ops[j]? = some oj) (hap : oi.apart ops oj = true) (hsi : ∀ cs b, oi.op ≠ .select cs b) (hsj : ∀ cs b, oj.op ≠ .select cs b) {K : Act → World → Prop} {a : Act} {w : World}
    (hy : YC P ops oi v C a) (h : wpOp P ops (QN R) j K (a.put oi.dst v) w) : wpOp P ops (QN R) j (fun a' w' => YC P ops oi v C a' ∧ K (a'.put oi.dst v) w') a w := by
  obtain ⟨h1, h2, h3⟩ := Oper.apart_spec hap
  have keep : ∀ u, YC P ops oi v C (a.put oj.dst u) := fun u => hy.same (execOp_put oi hsi a oj.dst u h3) (wanted_put oi a oj.dst u h3)
  have keepD : ∀ d u, YC P ops oi v C (({ a with defers := d :: a.defers } : Act).put oj.dst u) := fun d u =>
    (hy.same (a' := { a with defers := d :: a.defers }) rfl rfl).same (execOp_put oi hsi _ oj.dst u h3) (wanted_put oi _ oj.dst u h3)
  unfold wpOp at *
  simp only [hj] at *
  rw [wanted_put oj a oi.dst v h1] at h
  split
  · rename_i hw
    simp only [hw, if_true] at h
    have h := h.resolve_right fun x => QN.lets x.2
    refine .inl ?_
    unfold Oper.wp at *
    rw [execOp_put oj hsj a oi.dst v h1] at h
    generalize (execOp a.eval oj).run P w = r at *
    cases r with
    | ok n w' =>
      cases n <;> simp only [Oper.upon] at h ⊢
      case value u => exact ⟨keep u, by rw [← Act.put_comm a v u h2]; exact h⟩
      case skip => exact ⟨keep _, by rw [← Act.put_comm a v undef h2]; exact h⟩
      case defer d =>
        refine ⟨keepD d _, ?_⟩
        rw [← Act.put_comm _ v undef h2, ← Act.put_defers]
        exact h
      case enter f args =>
        refine Calls.mono h fun e w'' he => ?_
        cases e with
        | returned u => exact ⟨keep u, by rw [← Act.put_comm a v u h2]; exact he⟩
        | panicked c => exact he.elim
        | outgrown => exact (QN.lets he).elim
      case row row args => exact Rows.mono h fun u w'' he => ⟨keep u, by rw [← Act.put_comm a v u h2]; exact he⟩
    | halt x w' => cases x <;> simp only [Oper.upon] at h ⊢ <;> exact h.elim
  · rename_i hw
    simp only [hw] at h
    exact ⟨keep _, by rw [← Act.put_comm a v undef h2]; exact h⟩

/-- What may be asked of all that is still to be done, for an operation to be taken first. -/
def takeB (ops : Array Oper) (listed : Array Bool) (i : Nat) (o : Oper) : Bool :=
  (List.range ops.size).all fun j => match ops[j]? with
    | none => true
    | some oj => Nat.beq j i || listed.getD j true || anc ops j i || o.apart ops oj
def noSel (ops : Array Oper) : Bool := ops.toList.all fun o => match o.op with
  | .select _ _ => false
  | _ => true
theorem noSel_of (h : noSel ops = true) {j : Nat} {o : Oper} (hj : ops[j]? = some o) : ∀ cs b, o.op ≠ .select cs b := by
  intro cs b e
  have hm : o ∈ ops.toList := by rw [← Array.getElem?_toList] at hj; exact List.mem_of_getElem? hj
  have := List.all_eq_true.1 h o hm
  rw [e] at this
  cases this
theorem takeB_set {listed : Array Bool} {i k : Nat} {o : Oper} (h : takeB ops listed i o = true) : takeB ops (listed.setIfInBounds k true) i o = true := by
  unfold takeB at *
  rw [List.all_eq_true] at *
  intro j hj
  have := h j hj
  cases ho : ops[j]? with
  | none => rfl
  | some oj =>
    rw [ho] at this
    simp only [Bool.or_eq_true] at this ⊢
    rcases this with ((h | h) | h) | h
    · exact .inl (.inl (.inl h))
    · refine .inl (.inl (.inr ?_))
      by_cases e : k = j
      · subst e
        by_cases hk : k < listed.size
        · simp [hk]
        · simp [Array.getElem?_setIfInBounds, hk]
      · rw [getD_set_ne _ e]; exact h
    · exact .inl (.inr h)
    · exact .inr h
theorem wpAnyL.take {i : Nat} {o : Oper} {v : Value} {C : World → Prop} (ho : ops[i]? = some o) (hsel : noSel ops = true) : ∀ (f : Nat) (lk : Locks) (listed : Array Bool) (a : Act) (w : World), Closed ops listed → i ∈ Region.ready .any ops listed →
    takeB ops listed i o = true → YC P ops o v C a → C w → (∀ p ∈ lk, p.2 w) → wpAnyL P ops R f ((i, C) :: lk) (listed.setIfInBounds i true) (a.put o.dst v) w → wpAnyL P ops R (f + 1) lk listed a w := by
  intro f
  induction f with
  | zero =>
    intro lk listed a w hc hi ht hy hC hlk h
    refine ⟨(fun e => by rw [e] at hi; cases hi), fun j hj => ?_⟩
    by_cases hij : i = j
    · subst hij
      exact hy.run ho hC ⟨lk, fun p hp => .inl hp, hlk, h.weak fun p hp => List.mem_cons_of_mem _ hp⟩
    · have := ready_set hij hj
      rw [h.1] at this
      cases this
  | succ f ih =>
    intro lk listed a w hc hi ht hy hC hlk h
    refine ⟨(fun e => by rw [e] at hi; cases hi), fun j hj => ?_⟩
    by_cases hij : i = j
    · subst hij
      exact hy.run ho hC ⟨lk, fun p hp => .inl hp, hlk, h.weak fun p hp => List.mem_cons_of_mem _ hp⟩
    · have hj2 := ready_set hij hj
      have h' := h.2 j hj2
      obtain ⟨hj0, oj, hoj, _⟩ := mem_ready.1 hj
      have hi0 : listed.getD i false = false := by
        obtain ⟨h0, _⟩ := mem_ready.1 hi
        cases e : listed[i]? with
        | none => simp [e]
        | some b => simp [e] at h0 ⊢; exact h0
      have hanc : anc ops j i = false := by
        cases e : anc ops j i with
        | false => rfl
        | true => have := hc.ready hj _ e; rw [hi0] at this; cases this
      have hap : o.apart ops oj = true := by
        have hlt : j < ops.size := (Array.getElem?_eq_some_iff.1 hoj).1
        have := List.all_eq_true.1 ht j (List.mem_range.2 hlt)
        rw [hoj] at this
        simp only [Bool.or_eq_true, hanc, hj0, Bool.false_eq_true, or_false] at this
        exact this.resolve_left fun h => hij (Nat.eq_of_beq_eq_true h).symm
      refine wpOp_mono ?_ (wpOp_putC hoj hap (noSel_of hsel ho) (noSel_of hsel hoj) hy h')
      rintro a' w' ⟨hy', lk1, h1, h2, h3⟩
      have hmem : (i, C) ∈ lk1 := (h1 (i, C) (by simp)).resolve_right (by rw [hanc]; simp)
      refine ⟨lk1, fun p hp => h1 p (List.mem_cons_of_mem _ hp), h2, ?_⟩
      refine ih lk1 (listed.setIfInBounds j true) a' w' (hc.set hj) (ready_set (Ne.symm hij) hi) (takeB_set ht) hy' (h2 _ hmem) h2 ?_
      rw [Array.setIfInBounds_comm _ _ (Ne.symm hij)]
      exact h3.weak fun p hp => by
        rcases List.mem_cons.1 hp with rfl | hp
        · exact hmem
        · exact hp
end

/-- One list of assertions holds wherever another one does. -/
def Ent (Γ H : List A) : Prop := ∀ F w, Sat Γ F w → ∃ G, Sat H G w
theorem Ent.nil (Γ : List A) : Ent Γ [] := fun F w t => ⟨F, Imp.nil Γ F w t⟩
theorem Ent.mem {c : A} {Γ : List A} (h : c ∈ Γ) : Ent Γ [c] := fun F w t => by
  obtain ⟨l, r, rfl⟩ := List.append_of_mem h
  have t' := Imp.perm List.perm_middle F w t
  exact ⟨stars (l ++ r) F, t'⟩
theorem Ent.imp {Γ Δ H : List A} (i : Imp Γ Δ) (h : Ent Δ H) : Ent Γ H := fun F w t => h F w (i F w t)

abbrev SLocks := List (Nat × List A)
def lockC (H : List A) : World → Prop := fun w => ∃ G, Sat H G w
/-- A region that draws its order: what is left of it; 'lk': which operations were taken, and what they read. -/
def WPA (P : Program) (n : Nat) (ops : Array Oper) (f : Nat) (lk : SLocks) (listed : Array Bool) (s : St) (Γ : List A) (K : St → List A → Prop) : Prop :=
  ∀ F w0 w a, Adv w0 w → Ok n s a → Sat Γ F w → Closed ops listed → wpAnyL P ops (Pst n F w0 K) f (lk.map fun p => (p.1, lockC p.2)) listed a w

section
variable {P : Program} {n : Nat} {s : St} {Γ : List A} {Q : QX} {K : St → List A → Prop} {ops : Array Oper} {f : Nat} {lk : SLocks} {listed : Array Bool}
theorem WPC.draw {id : Nat} {l : List Oper} (hm : P.follows .mixedOrders = true) (h : WPA P n l.toArray l.length [] (Array.replicate l.length false) s Γ (Q .normal)) : WPC P n (.region id l.toArray true) s Γ Q := by
  intro F w a o t
  refine wp_mono (wp_region_any (Q := QN (Pst n F w (Q .normal))) hm (wpAny_of_L (lk := []) ?_)) fun e a' w' p => ?_
  · have hc : Closed l.toArray (Array.replicate l.length false) := by
      intro j o' hj
      simp [Array.getElem?_replicate] at hj
      split at hj <;> simp at hj
    have := h F w w.drew a (Adv.drew w) o t.drew hc
    simpa using this
  · cases e with
    | normal => exact p
    | _ => exact p.elim
theorem WPA.done (hr : Region.ready .any ops listed = []) (k : K s Γ) : WPA P n ops f lk listed s Γ K := by
  intro F w0 w a ad o t hc
  cases f with
  | zero => exact ⟨hr, s, Γ, k, o, t, ad⟩
  | succ f => exact ⟨fun _ => ⟨s, Γ, k, o, t, ad⟩, fun i hi => by rw [hr] at hi; cases hi⟩
theorem WPA.imp {Δ : List A} (i : Imp Γ Δ) (h : WPA P n ops f lk listed s Δ K) : WPA P n ops f lk listed s Γ K := fun F w0 w a ad o t hc => h F w0 w a ad o (i F w t) hc
theorem WPA.pure {φ : Prop} (h : φ → WPA P n ops f lk listed s Γ K) : WPA P n ops f lk listed s (pu φ :: Γ) K :=
  fun F w0 w a ad o t hc => let ⟨p, t⟩ := Sat.pure.1 t; h p F w0 w a ad o t hc
theorem WPA.ex {α : Sort _} {g : α → A} (h : ∀ x, WPA P n ops f lk listed s (g x :: Γ) K) : WPA P n ops f lk listed s (Sl.ex g :: Γ) K :=
  fun F w0 w a ad o t hc => let ⟨x, t⟩ := Sat.ex.1 t; h x F w0 w a ad o t hc
/-- All that was taken is still as it was read. -/
def Lk (lk : SLocks) (Γ : List A) : Prop := ∀ p ∈ lk, Ent Γ p.2
theorem Lk.nil (Γ : List A) : Lk [] Γ := fun _ h => by cases h
theorem Lk.cons {i : Nat} {H : List A} (h : Ent Γ H) (k : Lk lk Γ) : Lk ((i, H) :: lk) Γ := fun p hp => by
  rcases List.mem_cons.1 hp with rfl | hp
  · exact h
  · exact k p hp
/-- An operation that only reads is taken. -/
theorem WPA.take (i : Nat) {o : Oper} {v : Value} (H : List A) (ho : ops[i]? = some o) (hsel : noSel ops = true) (hr : (Region.ready .any ops listed).contains i = true) (ht : takeB ops listed i o = true) (hg : o.guard = none) (hd : dok n o.dst = true) (hq : Q1 P o s H v) (he : Ent Γ H) (hl : Lk lk Γ)
    (h : WPA P n ops f ((i, H) :: lk) (listed.setIfInBounds i true) (s.put o.dst v) Γ K) : WPA P n ops (f + 1) lk listed s Γ K := by
  intro F w0 w a ad ok t hc
  have hi : i ∈ Region.ready .any ops listed := by simpa using hr
  refine wpAnyL.take (C := lockC H) ho hsel f _ listed a w hc hi ht (.inl ⟨by simp [Region.wanted, hg], fun w' ⟨G, t'⟩ => hq G w' _ ok.ev t'⟩) (he F w t) ?_ (h F w0 w _ ad (ok.put hd v) t (hc.set hi))
  intro p hp
  obtain ⟨q, hq', rfl⟩ := List.mem_map.1 hp
  exact hl q hq' F w t
theorem WPA.takeYes (i : Nat) {o : Oper} {v : Value} {j tt : Nat} {b : Bool} (H : List A) (ho : ops[i]? = some o) (hsel : noSel ops = true) (hr : (Region.ready .any ops listed).contains i = true) (ht : takeB ops listed i o = true) (hg : o.guard = some (j, b))
    (hj : (ops[j]?).bind (·.dst) = some tt) (hv : getE s.env tt = some (.bool b)) (hd : dok n o.dst = true) (hq : Q1 P o s H v) (he : Ent Γ H) (hl : Lk lk Γ)
    (h : WPA P n ops f ((i, H) :: lk) (listed.setIfInBounds i true) (s.put o.dst v) Γ K) : WPA P n ops (f + 1) lk listed s Γ K := by
  intro F w0 w a ad ok t hc
  have hi : i ∈ Region.ready .any ops listed := by simpa using hr
  refine wpAnyL.take (C := lockC H) ho hsel f _ listed a w hc hi ht (.inl ⟨by simp [Region.wanted, hg, yielded_of ok hj hv], fun w' ⟨G, t'⟩ => hq G w' _ ok.ev t'⟩) (he F w t) ?_ (h F w0 w _ ad (ok.put hd v) t (hc.set hi))
  intro p hp
  obtain ⟨q, hq', rfl⟩ := List.mem_map.1 hp
  exact hl q hq' F w t
theorem WPA.takeNo (i : Nat) {o : Oper} {j tt : Nat} {b : Bool} {u : Value} (ho : ops[i]? = some o) (hsel : noSel ops = true) (hr : (Region.ready .any ops listed).contains i = true) (ht : takeB ops listed i o = true) (hg : o.guard = some (j, b))
    (hj : (ops[j]?).bind (·.dst) = some tt) (hv : getE s.env tt = some u) (hb : u = undef ∨ ∃ c, u = .bool c ∧ (b == c) = false) (hd : dok n o.dst = true) (hl : Lk lk Γ)
    (h : WPA P n ops f ((i, []) :: lk) (listed.setIfInBounds i true) (s.put o.dst undef) Γ K) : WPA P n ops (f + 1) lk listed s Γ K := by
  intro F w0 w a ad ok t hc
  have hi : i ∈ Region.ready .any ops listed := by simpa using hr
  have hw : Region.wanted o (yielded ops a.tmps) = false := by
    rcases hb with rfl | ⟨c, rfl, hb⟩
    · simp [Region.wanted, hg, yielded_undef ok hj hv]
    · simp [Region.wanted, hg, yielded_of ok hj hv]; intro e; subst e; simp at hb
  have h' := h F w0 w _ ad (ok.put hd undef) t (hc.set hi)
  have hlk : ∀ p ∈ lk.map fun p => (p.1, lockC p.2), p.2 w := by
    intro p hp
    obtain ⟨q, hq', rfl⟩ := List.mem_map.1 hp
    exact hl q hq' F w t
  exact wpAnyL.take (C := lockC []) ho hsel f _ listed a w hc hi ht (.inr ⟨hw, rfl⟩) (Ent.nil Γ F w t) hlk h'
/-- One of those that may come up now, and does more than read. -/
def Eff (P : Program) (n : Nat) (ops : Array Oper) (f : Nat) (lk : SLocks) (listed : Array Bool) (s : St) (Γ : List A) (K : St → List A → Prop) (i : Nat) : Prop :=
  ∃ o lk', ops[i]? = some o ∧ (∀ p ∈ lk, p ∈ lk' ∨ anc ops i p.1 = true) ∧
    ((o.guard = none ∧ WPO P n o s Γ (fun s' Γ' => Lk lk' Γ' ∧ WPA P n ops f lk' (listed.setIfInBounds i true) s' Γ' K)) ∨
     (∃ j tt b, o.guard = some (j, b) ∧ (ops[j]?).bind (·.dst) = some tt ∧ getE s.env tt = some (.bool b) ∧ WPO P n o s Γ (fun s' Γ' => Lk lk' Γ' ∧ WPA P n ops f lk' (listed.setIfInBounds i true) s' Γ' K)))
theorem WPA.step (rs : List Nat) (hr : Region.ready .any ops listed = rs) (hne : rs ≠ []) (h : ∀ i ∈ rs, Eff P n ops f lk listed s Γ K i) : WPA P n ops (f + 1) lk listed s Γ K := by
  intro F w0 w a ad ok t hc
  refine ⟨fun e => absurd (hr.symm.trans e) hne, fun i hi => ?_⟩
  obtain ⟨o, lk', ho, hlk, hw⟩ := h i (hr ▸ hi)
  have fin : ∀ {next : Act → World → Prop}, WPO P n o s Γ (fun s' Γ' => Lk lk' Γ' ∧ WPA P n ops f lk' (listed.setIfInBounds i true) s' Γ' K) →
      (∀ a' w', (∃ L : Locks, (∀ p ∈ lk.map (fun p => (p.1, lockC p.2)), p ∈ L ∨ anc ops i p.1 = true) ∧ (∀ p ∈ L, p.2 w') ∧ wpAnyL P ops (Pst n F w0 K) f L (listed.setIfInBounds i true) a' w') → next a' w') → o.wp P a w next (QN (Pst n F w0 K)) := by
    intro next hw hn
    refine hw F w a ok t next _ fun a' w' p => hn a' w' ?_
    obtain ⟨s', Γ', ⟨hl, hA⟩, ok', t', ad'⟩ := p
    refine ⟨lk'.map fun p => (p.1, lockC p.2), ?_, ?_, hA F w0 w' a' (ad.trans ad') ok' t' (hc.set hi)⟩
    · intro p hp
      obtain ⟨q, hq, rfl⟩ := List.mem_map.1 hp
      exact (hlk q hq).imp (fun h => List.mem_map.2 ⟨q, h, rfl⟩) id
    · intro p hp
      obtain ⟨q, hq, rfl⟩ := List.mem_map.1 hp
      exact hl q hq F w' t'
  unfold wpOp
  simp only [ho]
  rcases hw with ⟨hg, hw⟩ | ⟨j, tt, b, hg, hj, hv, hw⟩
  · rw [if_pos (by simp [Region.wanted, hg])]
    exact .inl (fin hw fun _ _ h => h)
  · rw [if_pos (by simp [Region.wanted, hg, yielded_of ok hj hv])]
    exact .inl (fin hw fun _ _ h => h)
/-- One alone may come up. -/
theorem WPA.one (i : Nat) {o : Oper} (lk' : SLocks) (hr : Region.ready .any ops listed = [i]) (ho : ops[i]? = some o) (hg : o.guard = none) (hlk : ∀ p ∈ lk, p ∈ lk' ∨ anc ops i p.1 = true)
    (h : WPO P n o s Γ (fun s' Γ' => Lk lk' Γ' ∧ WPA P n ops f lk' (listed.setIfInBounds i true) s' Γ' K)) : WPA P n ops (f + 1) lk listed s Γ K :=
  .step [i] hr (by simp) fun j hj => by
    rcases List.mem_singleton.1 hj with rfl
    exact ⟨o, lk', ho, hlk, .inl ⟨hg, h⟩⟩
theorem WPA.split (t : Nat) (b : Bool) (hv : getE s.env t = some (.bool b)) (ht : b = true → WPA P n ops f lk listed (s.put (some t) (.bool true)) Γ K) (hf : b = false → WPA P n ops f lk listed (s.put (some t) (.bool false)) Γ K) :
    WPA P n ops f lk listed s Γ K := by
  intro F w0 w a ad o tt hc
  have h2 : ∀ c, b = c → Ok n (s.put (some t) (.bool c)) a := by
    rintro c rfl
    refine ⟨o.size, o.ds, fun i u hu => ?_⟩
    simp only [St.put, St.get, getE_cons] at hu
    by_cases e : t = i
    · subst e; simp at hu; subst hu; exact o.get _ _ hv
    · rw [if_neg e] at hu; exact o.get i u hu
  cases hb : b with
  | true => exact ht hb F w0 w a ad (h2 _ hb) tt hc
  | false => exact hf hb F w0 w a ad (h2 _ hb) tt hc
end
end Go.Sl
/- Separation logic over the model's code: the forms in which the printed walks use the rules. -/
namespace Go.Sl
open Go Go.RowKit
section
variable {P : Program} {n : Nat} {s : St} {Γ Δ Θ : List A} {Q : QX} {K : St → List A → Prop} {ops : Array Oper} {d : Option Tmp} {ty : TypeId} {pos : String} {af : Array Edge} {g : Option (Nat × Bool)} {v u : Value} {x y z : Operand} {T : TypeId}

theorem thenQ_n (h : K s Γ) : thenQ K Q .normal s Γ := h
theorem thenQ_r (h : Q .ret s Γ) : thenQ K Q .ret s Γ := h
theorem thenQ_e {id : Nat} (h : Q (.exit id) s Γ) : thenQ K Q (.exit id) s Γ := h
theorem blockQ_n {id : Nat} (h : Q .normal s Γ) : blockQ id Q .normal s Γ := h
theorem blockQ_r {id : Nat} (h : Q .ret s Γ) : blockQ id Q .ret s Γ := h
theorem blockQ_here {id : Nat} (h : Q .normal s Γ) : blockQ id Q (.exit id) s Γ := .inl ⟨rfl, h⟩
theorem blockQ_there {id id' : Nat} (hn : id' ≠ id) (h : Q (.exit id') s Γ) : blockQ id Q (.exit id') s Γ := .inr ⟨hn, h⟩
theorem WPC.seqR {id : Nat} {l : List Oper} {c : Code} (h : WPL P n l.toArray l s Γ (fun s Γ => WPC P n c s Γ Q)) : WPC P n (.seq (.region id l.toArray false) c) s Γ Q := .seq (.region h)
theorem WPC.seqD {id : Nat} {l : List Oper} {c : Code} (hm : P.follows .mixedOrders = true) (h : WPA P n l.toArray l.length [] (Array.replicate l.length false) s Γ (fun s Γ => WPC P n c s Γ Q)) : WPC P n (.seq (.region id l.toArray true) c) s Γ Q := .seq (.draw hm h)
theorem WPC.seqS {c : Code} (h : WPC P n c s Γ Q) : WPC P n (.seq .skip c) s Γ Q := .seq (.skip h)
theorem WPC.seqCut {c c' : Code} (M : St → List A → Prop) (h : WPC P n c s Γ (thenQ M Q)) (k : ∀ s Γ, M s Γ → WPC P n c' s Γ Q) : WPC P n (.seq c c') s Γ Q :=
  .seq (h.mono fun e s Γ q => by cases e <;> first | exact k s Γ q | exact q)
theorem WPC.scopeS {c : Code} (h : WPC P n c s Γ (fun e s Γ => match e with | .goto _ => False | e => Q e s Γ)) : WPC P n (.scope c) s Γ Q := by
  intro F w a o t
  refine wp_scope_straight (wp_mono (h F w a o t) fun e a' w' p => ?_)
  cases e with
  | goto l => obtain ⟨_, _, k, _⟩ := p; exact k.elim
  | _ => exact p
theorem q_faK {b o k f off : Nat} (hf : faB P T f = some off) (h : ev s x = some (.pointer (some ⟨b, o + k, none⟩))) : Q1 P ⟨d, .fieldAddr T x f, ty, pos, af, g⟩ s Γ (.pointer (some ⟨b, o + (k + off), none⟩)) := by
  rw [← Nat.add_assoc]; exact q_fa hf h
theorem q_load1z {p : Bool} {b o : Nat} {vs : List Value} (hT : ldB P T = some none) (hx : ev s x = some (.pointer (some ⟨b, o, none⟩))) (hm : cells p b o vs ∈ Γ) (hv : vs[0]? = some v) :
    Q1 P ⟨d, .load T x, ty, pos, af, g⟩ s Γ v := q_load1 (i := 0) hT hx hm rfl hv
theorem q_loadNz {p : Bool} {b o k : Nat} {vs us : List Value} (hT : ldB P T = some (some k)) (hx : ev s x = some (.pointer (some ⟨b, o, none⟩))) (hm : cells p b o vs ∈ Γ) (hv : vs.take us.length = us ∧ us.length = k) :
    Q1 P ⟨d, .load T x, ty, pos, af, g⟩ s Γ (.agg us.toArray) := q_loadN (i := 0) hT hx hm rfl hv.2 (by rw [← hv.2]; simpa using hv.1)
theorem q_loadNk {p : Bool} {b o i k : Nat} {vs us : List Value} (hT : ldB P T = some (some k)) (hx : ev s x = some (.pointer (some ⟨b, o + i, none⟩))) (hm : cells p b o vs ∈ Γ) (hv : (vs.drop i).take us.length = us ∧ us.length = k) :
    Q1 P ⟨d, .load T x, ty, pos, af, g⟩ s Γ (.agg us.toArray) := q_loadN (i := i) hT hx hm rfl hv.2 (by rw [← hv.2]; simpa using hv.1)
theorem s_store1k {b o i : Nat} {vs vs' : List Value} (hT : szB P T = some 1) (hx : ev s x = some (.pointer (some ⟨b, o + i, none⟩))) (hy : ev s y = some u) (hu : u.oneCell' = true) (hc : u.cells = #[u])
    (hm : Upd Γ (cells true b o vs) (cells true b o vs') Δ) (hv : SetAt vs i u vs') : S1 P ⟨d, .store T x y, ty, pos, af, g⟩ s Γ Δ := s_store1 hT hx hy hu hc rfl hv hm
theorem s_store1z {b o : Nat} {vs vs' : List Value} (hT : szB P T = some 1) (hx : ev s x = some (.pointer (some ⟨b, o, none⟩))) (hy : ev s y = some u) (hu : u.oneCell' = true) (hc : u.cells = #[u])
    (hm : Upd Γ (cells true b o vs) (cells true b o vs') Δ) (hv : SetAt vs 0 u vs') : S1 P ⟨d, .store T x y, ty, pos, af, g⟩ s Γ Δ := s_store1 (i := 0) hT hx hy hu hc rfl hv hm
inductive SpL : List Value → Nat → List Value → List Value → Prop
  | nil {r : List Value} : SpL r 0 [] r
  | put {x u : Value} {r us r' : List Value} : SpL r 0 us r' → SpL (x :: r) 0 (u :: us) (u :: r')
  | skip {x : Value} {i : Nat} {r us r' : List Value} : SpL r i us r' → SpL (x :: r) (i + 1) us (x :: r')
theorem SpL.eq {vs us vs' : List Value} {i : Nat} (h : SpL vs i us vs') : i + us.length ≤ vs.length ∧ vs' = vs.take i ++ us ++ vs.drop (i + us.length) := by
  induction h with
  | nil => simp
  | @put x u r us r' _ ih =>
    refine ⟨by simp at ih ⊢; exact ih.1, ?_⟩
    rw [ih.2]; simp
  | @skip x i r us r' _ ih =>
    refine ⟨by simp at ih ⊢; omega, ?_⟩
    rw [ih.2, show i + 1 + us.length = i + us.length + 1 by omega]; simp
theorem s_storeNk {b o i k : Nat} {vs us vs' : List Value} (hT : szB P T = some k) (hx : ev s x = some (.pointer (some ⟨b, o + i, none⟩))) (hy : ev s y = some (.agg us.toArray)) (hu : ∀ u ∈ us, u.oneCell' = true) (hk : us.length = k)
    (hm : Upd Γ (cells true b o vs) (cells true b o vs') Δ) (hv : SpL vs i us vs') : S1 P ⟨d, .store T x y, ty, pos, af, g⟩ s Γ Δ := by
  obtain ⟨h1, rfl⟩ := hv.eq
  subst hk
  exact s_storeN hT hx hy hu rfl rfl h1 hm
theorem s_storeNz {b o k : Nat} {vs us vs' : List Value} (hT : szB P T = some k) (hx : ev s x = some (.pointer (some ⟨b, o, none⟩))) (hy : ev s y = some (.agg us.toArray)) (hu : ∀ u ∈ us, u.oneCell' = true) (hk : us.length = k)
    (hm : Upd Γ (cells true b o vs) (cells true b o vs') Δ) (hv : SpL vs 0 us vs') : S1 P ⟨d, .store T x y, ty, pos, af, g⟩ s Γ Δ := s_storeNk (o := o) (i := 0) hT hx hy hu hk hm hv
theorem e_box1 (hx : ev s x = some v) (hc : v.cells = #[v]) : E1 P ⟨d, .box T x, ty, pos, af, g⟩ s Γ (newR Γ [v] fun b => .pointer (some ⟨b, 0, none⟩)) := by
  have := e_box (P := P) (Γ := Γ) (d := d) (ty := ty) (pos := pos) (af := af) (g := g) (T := T) hx
  rw [hc] at this; exact this
theorem e_boxN {us : List Value} (hx : ev s x = some (.agg us.toArray)) : E1 P ⟨d, .box T x, ty, pos, af, g⟩ s Γ (newR Γ us fun b => .pointer (some ⟨b, 0, none⟩)) :=
  e_box (P := P) (Γ := Γ) (d := d) (ty := ty) (pos := pos) (af := af) (g := g) (T := T) hx
def zL (P : Program) (T : TypeId) : Option (List Value) := (zB P T).map (·.cells.toList)
theorem e_allocL {zs : List Value} (hz : zL P T = some zs) : E1 P ⟨d, .alloc T, ty, pos, af, g⟩ s Γ (newR Γ zs fun b => .pointer (some ⟨b, 0, none⟩)) := by
  unfold zL at hz
  cases h : zB P T with
  | none => rw [h] at hz; cases hz
  | some z => rw [h] at hz; simp at hz; subst hz; exact e_alloc h
def bit (a b : Bool) : Bool := a == b
theorem q_boolEq {T' : TypeId} {a b : Bool} (hT : P.underlying T = some .bool) (hx : ev s x = some (.bool a)) (hy : ev s y = some (.bool b)) : Q1 P ⟨d, .binOp .eql T x y T', ty, pos, af, g⟩ s Γ (.bool (a == b)) := fun _ w _ e _ => by
  have := run_equal_bool (P := P) w T a b hT
  simp [execOp, e _ _ hx, e _ _ hy, eqGuard, binOp, this]
theorem q_boolNe {T' : TypeId} {a b : Bool} (hT : P.underlying T = some .bool) (hx : ev s x = some (.bool a)) (hy : ev s y = some (.bool b)) : Q1 P ⟨d, .binOp .neq T x y T', ty, pos, af, g⟩ s Γ (.bool (!(a == b))) := fun _ w _ e _ => by
  have := run_equal_bool (P := P) w T a b hT
  simp [execOp, e _ _ hx, e _ _ hy, eqGuard, binOp, this]
theorem run_equalIn_slNil {e : TypeId} (hT : P.underlying T = some (.slice e)) (dd : Nat) (a : Option Addr) (m c : Nat) (w : World) : (Op.equalIn (dd + 1) T (.slice a m c) (.slice none 0 0)).run P w = .ok a.isNone w := by
  cases a <;> simp [Op.equalIn, underlying, hT]
theorem run_equal_slNil {e : TypeId} (hT : P.underlying T = some (.slice e)) (a : Option Addr) (m c : Nat) (w : World) : (Op.equal T (.slice a m c) (.slice none 0 0)).run P w = .ok a.isNone w := run_equalIn_slNil hT 9999 a m c w
theorem q_slNilEq {T' : TypeId} {e m c : Nat} {a : Option Addr} (hT : P.underlying T = some (.slice e)) (hx : ev s x = some (.slice a m c)) (hy : ev s y = some (.slice none 0 0)) : Q1 P ⟨d, .binOp .eql T x y T', ty, pos, af, g⟩ s Γ (.bool a.isNone) := fun _ w _ e _ => by
  have := run_equal_slNil hT a m c w
  simp [execOp, e _ _ hx, e _ _ hy, eqGuard, binOp, this]
theorem q_slNilNe {T' : TypeId} {e m c : Nat} {a : Option Addr} (hT : P.underlying T = some (.slice e)) (hx : ev s x = some (.slice a m c)) (hy : ev s y = some (.slice none 0 0)) : Q1 P ⟨d, .binOp .neq T x y T', ty, pos, af, g⟩ s Γ (.bool (!a.isNone)) := fun _ w _ e _ => by
  have := run_equal_slNil hT a m c w
  simp [execOp, e _ _ hx, e _ _ hy, eqGuard, binOp, this]
theorem run_equalIn_ptNil {e : TypeId} (hT : P.underlying T = some (.pointer e)) (dd : Nat) (a : Option Addr) (w : World) : (Op.equalIn (dd + 1) T (.pointer a) (.pointer none)).run P w = .ok a.isNone w := by
  cases a <;> simp [Op.equalIn, underlying, hT]
theorem run_equal_ptNil {e : TypeId} (hT : P.underlying T = some (.pointer e)) (a : Option Addr) (w : World) : (Op.equal T (.pointer a) (.pointer none)).run P w = .ok a.isNone w := run_equalIn_ptNil hT 9999 a w
theorem q_ptNilEq {T' : TypeId} {e : Nat} {a : Option Addr} (hT : P.underlying T = some (.pointer e)) (hx : ev s x = some (.pointer a)) (hy : ev s y = some (.pointer none)) : Q1 P ⟨d, .binOp .eql T x y T', ty, pos, af, g⟩ s Γ (.bool a.isNone) := fun _ w _ e _ => by
  have := run_equal_ptNil hT a w
  cases a <;> simp at this <;> simp [execOp, e _ _ hx, e _ _ hy, eqGuard, binOp, this]
theorem q_ptNilNe {T' : TypeId} {e : Nat} {a : Option Addr} (hT : P.underlying T = some (.pointer e)) (hx : ev s x = some (.pointer a)) (hy : ev s y = some (.pointer none)) : Q1 P ⟨d, .binOp .neq T x y T', ty, pos, af, g⟩ s Γ (.bool (!a.isNone)) := fun _ w _ e _ => by
  have := run_equal_ptNil hT a w
  cases a <;> simp at this <;> simp [execOp, e _ _ hx, e _ _ hy, eqGuard, binOp, this]
theorem q_field1 {f off : Nat} {cs : Array Value} (hT : ∃ fs fl, P.underlying T = some (.struct fs) ∧ fs[f]? = some fl ∧ fl.offset = off ∧ ldB P fl.type = some none) (hx : ev s x = some (.agg cs)) (hv : cs[off]? = some v) :
    Q1 P ⟨d, .field T x f, ty, pos, af, g⟩ s Γ v := fun _ w _ e _ => by
  obtain ⟨fs, fl, h1, h2, rfl, h3⟩ := hT
  have h4 := (isAgg_of h3 w).1
  simp at h4
  simp [execOp, e _ _ hx, Instr.field, underlying, h1, h2, asAgg, part, h4, hv]
theorem q_min2 {k : IntKind} {a b : Int} {ts : Array TypeId} (hx : ev s x = some (.int k a)) (hy : ev s y = some (.int k b)) : Q1 P ⟨d, .call { callee := .builtin .min, args := #[x, y], argTypes := ts }, ty, pos, af, g⟩ s Γ (.int k (min a b)) := fun _ _ _ e _ => by
  have : (if b < a then b else a) = min a b := by rw [Int.min_def]; split <;> split <;> omega
  simp [execOp, resolve, invoke, builtin, Builtin.min_, Builtin.min2, e _ _ hx, e _ _ hy, this]
theorem q_max2 {k : IntKind} {a b : Int} {ts : Array TypeId} (hx : ev s x = some (.int k a)) (hy : ev s y = some (.int k b)) : Q1 P ⟨d, .call { callee := .builtin .max, args := #[x, y], argTypes := ts }, ty, pos, af, g⟩ s Γ (.int k (max a b)) := fun _ _ _ e _ => by
  have : (if a < b then b else a) = max a b := by rw [Int.max_def]; split <;> split <;> omega
  simp [execOp, resolve, invoke, builtin, Builtin.max_, Builtin.max2, e _ _ hx, e _ _ hy, this]
theorem C1.call {o : Oper} {f : FuncId} {args : Array Value} {pre : List A} {R : Value → List A → Prop} (h : C1 P o s f args) (c : Trip P f args pre R) (hp : Pick Γ pre Θ) (hd : dok n o.dst = true)
    (k : ∀ v Δ, R v Δ → K (s.put o.dst v) (Δ ++ Θ)) : WPO P n o s Γ K :=
  h.wpo ((c.frame Θ).imp hp.imp) hd fun v Δ ⟨Δ', hR, e⟩ => e ▸ k v Δ' hR

/- A function's end: results in slots and in memory. -/
inductive ResL (P : Program) (s : St) (Γ : List A) : List ResultVar → List Value → Prop
  | nil : ResL P s Γ [] []
  | tmp {t : Tmp} {v : Value} {rs : List ResultVar} {vs : List Value} : getE s.env t = some v → ResL P s Γ rs vs → ResL P s Γ (.tmp t :: rs) (v :: vs)
  | cell1 {t T : Nat} {b o i : Nat} {p : Bool} {cs : List Value} {v : Value} {rs : List ResultVar} {vs : List Value} : getE s.env t = some (.pointer (some ⟨b, o + i, none⟩)) → ldB P T = some none → cells p b o cs ∈ Γ → cs[i]? = some v → ResL P s Γ rs vs → ResL P s Γ (.cell t T :: rs) (v :: vs)
  | cellN {t T : Nat} {b k : Nat} {p : Bool} {cs us : List Value} {rs : List ResultVar} {vs : List Value} : getE s.env t = some (.pointer (some ⟨b, 0, none⟩)) → ldB P T = some (some k) → cells p b 0 cs ∈ Γ → cs.take us.length = us → us.length = k → ResL P s Γ rs vs → ResL P s Γ (.cell t T :: rs) (.agg us.toArray :: vs)
  | cell0 {t T : Nat} {b : Nat} {p : Bool} {cs : List Value} {v : Value} {rs : List ResultVar} {vs : List Value} : getE s.env t = some (.pointer (some ⟨b, 0, none⟩)) → ldB P T = some none → cells p b 0 cs ∈ Γ → cs[0]? = some v → ResL P s Γ rs vs → ResL P s Γ (.cell t T :: rs) (v :: vs)
theorem ResL.run {rs : List ResultVar} {vs : List Value} (h : ResL P s Γ rs vs) {F : A} {w : World} {a : Act} (o : Ok n s a) (t : Sat Γ F w) : (rs.mapM (resOne a.tmps)).run P w = .ok vs w := by
  induction h with
  | nil => simp
  | tmp hg _ ih => have hg := o.get _ _ hg; simp [List.mapM_cons, resOne, hg, ih]
  | cell1 hg hT hm hv _ ih =>
    have hg := o.get _ _ hg
    obtain ⟨_, t1⟩ := Sat.mem hm t
    have hc := t1.cell hv
    have h1 := (isAgg_of hT w).1
    simp at h1
    simp [List.mapM_cons, resOne, hg, ih, asAddr, loadVar, h1, load, Sem.run, hc]
  | cell0 hg hT hm hv _ ih =>
    have hg := o.get _ _ hg
    obtain ⟨_, t1⟩ := Sat.mem hm t
    have hc := t1.cell hv
    have h1 := (isAgg_of hT w).1
    simp at h1 hc
    simp [List.mapM_cons, resOne, hg, ih, asAddr, loadVar, h1, load, Sem.run, hc]
  | cellN hg hT hm hv hk _ ih =>
    rename_i us _ _ _
    have hg := o.get _ _ hg
    obtain ⟨_, t1⟩ := Sat.mem hm t
    obtain ⟨h1, h2, _⟩ := isAgg_of hT w
    subst hk
    have h3 := run_size (h2 _ rfl) w
    have h4 := t1.load (P := P) 0 us (by simpa using hv)
    simp at h1 h4
    simp [List.mapM_cons, resOne, hg, ih, asAddr, loadVar, h1, h3, h4]
def endR (P : Program) (rs : List ResultVar) (R : Value → List A → Prop) : QX
  | .normal, s, Γ | .ret, s, Γ => s.ds = [] ∧ ∃ vs Δ, ResL P s Γ rs vs ∧ Imp Γ Δ ∧ R (packV vs) Δ
  | _, _, _ => False
theorem endR_n {rs : List ResultVar} {R : Value → List A → Prop} {vs : List Value} (hd : s.ds = []) (h : ResL P s Γ rs vs) (i : Imp Γ Δ) (r : R (packV vs) Δ) : endR P rs R .normal s Γ := ⟨hd, vs, Δ, h, i, r⟩
theorem endR_r {rs : List ResultVar} {R : Value → List A → Prop} {vs : List Value} (hd : s.ds = []) (h : ResL P s Γ rs vs) (i : Imp Γ Δ) (r : R (packV vs) Δ) : endR P rs R .ret s Γ := ⟨hd, vs, Δ, h, i, r⟩
theorem Trip.start {f : FuncId} {fn : Func} {c : Code} {args : Array Value} {R : Value → List A → Prop} (n : Nat) (rs : List ResultVar) (e : List (Nat × Value))
    (hf : P.funcs[f]? = some fn) (hb : fn.body = some c) (hn : fn.ntmps = n) (hr : fn.results = rs.toArray) (he : ArgsOk e args) (ha : Nat.ble args.size n = true)
    (h : WPC P n c ⟨[], e⟩ Γ (endR P rs R)) : Trip P f args Γ R := by
  intro F w t
  have ha' : args.size ≤ n := by simpa using ha
  refine calls_of_wp hf hb (wp_mono (h F w _ ⟨?_, rfl, fun i v hv => ?_⟩ t) fun e a' w' p => ?_)
  · simp [hn]; omega
  · have := he.get hv
    have hlt := (Array.getElem?_eq_some_iff.1 this).1
    simp only
    rw [Array.getElem?_append_left hlt]; exact this
  · have fin : ∀ s Γ', (s.ds = [] ∧ ∃ vs Δ, ResL P s Γ' rs vs ∧ Imp Γ' Δ ∧ R (packV vs) Δ) → Ok n s a' → Sat Γ' F w' → Adv w w' →
        a'.defers = [] ∧ ∃ v, (results fn a'.tmps).run P w' = .ok v w' ∧ ∃ u Δ, Ending.returned v = .returned u ∧ R u Δ ∧ Sat Δ F w' ∧ Adv w w' := by
      rintro s Γ' ⟨hd, vs, Δ, hv, i, hR⟩ o t ad
      refine ⟨o.ds.trans hd, packV vs, ?_, packV vs, Δ, rfl, hR, i F w' t, ad⟩
      have := hv.run o t
      rw [results_eq, Array.mapM_eq_mapM_toList, hr]
      simp only [Sem.run_bind, Sem.run_map, this, Result.andThen_ok]
      match vs with
      | [] => simp [packV]
      | [v] => simp [packV]
      | v :: u :: r => simp [packV]
    obtain ⟨s, Δ, k, o, t, ad⟩ := p
    cases e with
    | normal => exact fin s Δ k o t ad
    | ret => exact fin s Δ k o t ad
    | _ => exact k.elim
/- Packed assertions. -/
theorem Trip.exg {α : Sort _} {f : FuncId} {args : Array Value} {L : α → List A} {R : Value → List A → Prop} (h : ∀ r, Trip P f args (L r ++ Γ) R) : Trip P f args (Sl.ex (fun r => grp (L r)) :: Γ) R :=
  fun F w t => let ⟨x, t⟩ := Sat.ex.1 t; h x F w (Sat.grp.1 t)
theorem WPC.exg {α : Sort _} {c : Code} {L : α → List A} (h : ∀ r, WPC P n c s (L r ++ Γ) Q) : WPC P n c s (Sl.ex (fun r => grp (L r)) :: Γ) Q :=
  fun F w a o t => let ⟨x, t⟩ := Sat.ex.1 t; h x F w a o (Sat.grp.1 t)
theorem WPL.exg {α : Sort _} {l : List Oper} {L : α → List A} (h : ∀ r, WPL P n ops l s (L r ++ Γ) K) : WPL P n ops l s (Sl.ex (fun r => grp (L r)) :: Γ) K :=
  fun F w a o t => let ⟨x, t⟩ := Sat.ex.1 t; h x F w a o (Sat.grp.1 t)
theorem WPA.exg {α : Sort _} {f : Nat} {lk : SLocks} {listed : Array Bool} {L : α → List A} (h : ∀ r, WPA P n ops f lk listed s (L r ++ Γ) K) : WPA P n ops f lk listed s (Sl.ex (fun r => grp (L r)) :: Γ) K :=
  fun F w0 w a ad o t hc => let ⟨x, t⟩ := Sat.ex.1 t; h x F w0 w a ad o (Sat.grp.1 t) hc
theorem Imp.packg {α : Sort _} {L : α → List A} (x : α) {Γ : List A} : Imp (L x ++ Γ) (Sl.ex (fun r => grp (L r)) :: Γ) := fun F w t => Sat.ex.2 ⟨x, Sat.grp.2 t⟩
theorem Imp.pureI {φ : Prop} (h : φ) {Γ : List A} : Imp Γ (pu φ :: Γ) := fun _ _ t => Sat.pure.2 ⟨h, t⟩
/-- Any list that can be picked out. -/
theorem Imp.pick (h : Pick Γ Δ Θ) : Imp Γ Δ := by
  have := h.imp.trans (Imp.pre Δ (Imp.nil Θ))
  rwa [List.append_nil] at this
/- Regions that draw: the forms for the printed walks. -/
theorem wpAnyL.addTrue {R : Act → World → Prop} {p : Nat × (World → Prop)} (hp : ∀ w, p.2 w) : ∀ {f : Nat} {lk : Locks} {listed : Array Bool} {a : Act} {w : World}, wpAnyL P ops R f lk listed a w → wpAnyL P ops R f (p :: lk) listed a w
  | 0, _, _, _, _, h => h
  | _ + 1, _, _, _, _, h => ⟨h.1, fun i hi => wpOp_mono (fun _ _ ⟨lk', h1, h2, h3⟩ => ⟨p :: lk', fun q hq => by
      rcases List.mem_cons.1 hq with rfl | hq
      · exact .inl (by simp)
      · exact (h1 q hq).imp (fun h => List.mem_cons_of_mem _ h) id, fun q hq => by
      rcases List.mem_cons.1 hq with rfl | hq
      · exact hp _
      · exact h2 q hq, wpAnyL.addTrue hp h3⟩) (h.2 i hi)⟩
theorem lockC_nil (w : World) : lockC [] w := ⟨fun _ => True, fun _ => none, trivial, fun k p x h => by cases h⟩
section
variable {f : Nat} {lk : SLocks} {listed : Array Bool}
theorem WPA.addTrue {i : Nat} (h : WPA P n ops f lk listed s Γ K) : WPA P n ops f ((i, []) :: lk) listed s Γ K := fun F w0 w a ad o t hc =>
  wpAnyL.addTrue lockC_nil (h F w0 w a ad o t hc)
theorem WPA.takeP (i : Nat) {o : Oper} {v : Value} (ho : ops[i]? = some o) (hq : Q1 P o s [] v) (hsel : noSel ops = true) (hr : (Region.ready .any ops listed).contains i = true) (ht : takeB ops listed i o = true) (hg : o.guard = none) (hd : dok n o.dst = true) (hl : Lk lk Γ)
    (h : WPA P n ops f lk (listed.setIfInBounds i true) (s.put o.dst v) Γ K) : WPA P n ops (f + 1) lk listed s Γ K := .take i [] ho hsel hr ht hg hd hq (Ent.nil Γ) hl h.addTrue
theorem WPA.takeL (i : Nat) {o : Oper} {v : Value} {H : List A} (ho : ops[i]? = some o) (he : Ent Γ H) (hq : Q1 P o s H v) (hsel : noSel ops = true) (hr : (Region.ready .any ops listed).contains i = true) (ht : takeB ops listed i o = true) (hg : o.guard = none) (hd : dok n o.dst = true) (hl : Lk lk Γ)
    (h : WPA P n ops f ((i, H) :: lk) (listed.setIfInBounds i true) (s.put o.dst v) Γ K) : WPA P n ops (f + 1) lk listed s Γ K := .take i H ho hsel hr ht hg hd hq he hl h
theorem WPA.takePY (i : Nat) {o : Oper} {v : Value} {j tt : Nat} {b : Bool} (ho : ops[i]? = some o) (hg : o.guard = some (j, b)) (hj : (ops[j]?).bind (·.dst) = some tt) (hv : getE s.env tt = some (.bool b)) (hq : Q1 P o s [] v) (hsel : noSel ops = true) (hr : (Region.ready .any ops listed).contains i = true)
    (ht : takeB ops listed i o = true) (hd : dok n o.dst = true) (hl : Lk lk Γ) (h : WPA P n ops f lk (listed.setIfInBounds i true) (s.put o.dst v) Γ K) : WPA P n ops (f + 1) lk listed s Γ K := .takeYes i [] ho hsel hr ht hg hj hv hd hq (Ent.nil Γ) hl h.addTrue
theorem WPA.takeLY (i : Nat) {o : Oper} {v : Value} {H : List A} {j tt : Nat} {b : Bool} (ho : ops[i]? = some o) (he : Ent Γ H) (hg : o.guard = some (j, b)) (hj : (ops[j]?).bind (·.dst) = some tt) (hv : getE s.env tt = some (.bool b)) (hq : Q1 P o s H v) (hsel : noSel ops = true)
    (hr : (Region.ready .any ops listed).contains i = true) (ht : takeB ops listed i o = true) (hd : dok n o.dst = true) (hl : Lk lk Γ) (h : WPA P n ops f ((i, H) :: lk) (listed.setIfInBounds i true) (s.put o.dst v) Γ K) : WPA P n ops (f + 1) lk listed s Γ K := .takeYes i H ho hsel hr ht hg hj hv hd hq he hl h
theorem WPA.takeN (i : Nat) {o : Oper} {j tt : Nat} {b c : Bool} (ho : ops[i]? = some o) (hg : o.guard = some (j, b)) (hj : (ops[j]?).bind (·.dst) = some tt) (hv : getE s.env tt = some (.bool c)) (hb : (b == c) = false) (hsel : noSel ops = true) (hr : (Region.ready .any ops listed).contains i = true)
    (ht : takeB ops listed i o = true) (hd : dok n o.dst = true) (hl : Lk lk Γ) (h : WPA P n ops f lk (listed.setIfInBounds i true) (s.put o.dst undef) Γ K) : WPA P n ops (f + 1) lk listed s Γ K := .takeNo i ho hsel hr ht hg hj hv (.inr ⟨c, rfl, hb⟩) hd hl h.addTrue
theorem WPA.takeU (i : Nat) {o : Oper} {j tt : Nat} {b : Bool} (ho : ops[i]? = some o) (hg : o.guard = some (j, b)) (hj : (ops[j]?).bind (·.dst) = some tt) (hv : getE s.env tt = some undef) (hsel : noSel ops = true) (hr : (Region.ready .any ops listed).contains i = true)
    (ht : takeB ops listed i o = true) (hd : dok n o.dst = true) (hl : Lk lk Γ) (h : WPA P n ops f lk (listed.setIfInBounds i true) (s.put o.dst undef) Γ K) : WPA P n ops (f + 1) lk listed s Γ K := .takeNo i ho hsel hr ht hg hj hv (.inl rfl) hd hl h.addTrue
inductive Hk (ops : Array Oper) (i : Nat) (lk' : SLocks) : SLocks → Prop
  | nil : Hk ops i lk' []
  | anc {p : Nat × List A} {r : SLocks} : anc ops i p.1 = true → Hk ops i lk' r → Hk ops i lk' (p :: r)
  | keep {p : Nat × List A} {r : SLocks} : p ∈ lk' → Hk ops i lk' r → Hk ops i lk' (p :: r)
theorem Hk.get {i : Nat} {lk' lk : SLocks} (h : Hk ops i lk' lk) : ∀ p ∈ lk, p ∈ lk' ∨ Sl.anc ops i p.1 = true := by
  induction h with
  | nil => intro p hp; cases hp
  | anc ha _ ih =>
    intro p hp
    rcases List.mem_cons.1 hp with rfl | hp
    · exact .inr ha
    · exact ih p hp
  | keep hk _ ih =>
    intro p hp
    rcases List.mem_cons.1 hp with rfl | hp
    · exact .inl hk
    · exact ih p hp
theorem WPA.oneE (i : Nat) {o : Oper} (lk' : SLocks) (hr : Region.ready .any ops listed = [i]) (ho : ops[i]? = some o) (hg : o.guard = none) (hlk : Hk ops i lk' lk)
    (h : WPO P n o s Γ (fun s' Γ' => Lk lk' Γ' ∧ WPA P n ops f lk' (listed.setIfInBounds i true) s' Γ' K)) : WPA P n ops (f + 1) lk listed s Γ K := .one i lk' hr ho hg hlk.get h
theorem WPA.oneY (i : Nat) {o : Oper} (lk' : SLocks) {j tt : Nat} {b : Bool} (hr : Region.ready .any ops listed = [i]) (ho : ops[i]? = some o) (hg : o.guard = some (j, b)) (hj : (ops[j]?).bind (·.dst) = some tt) (hv : getE s.env tt = some (.bool b)) (hlk : Hk ops i lk' lk)
    (h : WPO P n o s Γ (fun s' Γ' => Lk lk' Γ' ∧ WPA P n ops f lk' (listed.setIfInBounds i true) s' Γ' K)) : WPA P n ops (f + 1) lk listed s Γ K :=
  .step [i] hr (by simp) fun j' hj' => by
    rcases List.mem_singleton.1 hj' with rfl
    exact ⟨o, lk', ho, hlk.get, .inr ⟨j, tt, b, hg, hj, hv, h⟩⟩
theorem Eff.mk (i : Nat) {o : Oper} (lk' : SLocks) (ho : ops[i]? = some o) (hg : o.guard = none) (hlk : Hk ops i lk' lk)
    (h : WPO P n o s Γ (fun s' Γ' => Lk lk' Γ' ∧ WPA P n ops f lk' (listed.setIfInBounds i true) s' Γ' K)) : Eff P n ops f lk listed s Γ K i := ⟨o, lk', ho, hlk.get, .inl ⟨hg, h⟩⟩
theorem WPA.two (i j : Nat) (hr : Region.ready .any ops listed = [i, j]) (hi : Eff P n ops f lk listed s Γ K i) (hj : Eff P n ops f lk listed s Γ K j) : WPA P n ops (f + 1) lk listed s Γ K :=
  .step [i, j] hr (by simp) fun k hk => by
    rcases List.mem_cons.1 hk with rfl | hk
    · exact hi
    · rcases List.mem_singleton.1 hk with rfl; exact hj
theorem WPA.three (i j k : Nat) (hr : Region.ready .any ops listed = [i, j, k]) (hi : Eff P n ops f lk listed s Γ K i) (hj : Eff P n ops f lk listed s Γ K j) (hk : Eff P n ops f lk listed s Γ K k) : WPA P n ops (f + 1) lk listed s Γ K :=
  .step [i, j, k] hr (by simp) fun q hq => by
    simp only [List.mem_cons, List.not_mem_nil, or_false] at hq
    rcases hq with rfl | rfl | rfl
    · exact hi
    · exact hj
    · exact hk
end
end
end Go.Sl
/- Separation logic over the model's code: loops over slices, elements of mapped and flattened lists, counters. -/
namespace Go.Sl
open Go Go.RowKit
section
variable {P : Program} {n : Nat} {s : St} {Γ Δ Θ : List A} {Q : QX} {K : St → List A → Prop} {ops : Array Oper} {d : Option Tmp} {ty : TypeId} {pos : String} {af : Array Edge} {g : Option (Nat × Bool)} {v u : Value} {x y z : Operand} {T : TypeId}

theorem WPC.loopS {c : Code} (I : Nat → List (Nat × Value) → List A → Prop) (m : Nat) {e0 : List (Nat × Value)} {Γ0 : List A} (h0 : I m e0 Γ0) (hs : SubE e0 s.env) (hΓ : Imp Γ Γ0)
    (round : ∀ m e Γ, I m e Γ → WPC P n c ⟨s.ds, e⟩ Γ (thenQ (fun s' Γ' => s'.ds = s.ds ∧ ∃ m' e' Γ'', m' < m ∧ I m' e' Γ'' ∧ SubE e' s'.env ∧ Imp Γ' Γ'') Q)) : WPC P n (.loop c) s Γ Q := by
  refine WPC.loop (fun m s' Γ' => s'.ds = s.ds ∧ ∃ e' Γ'', I m e' Γ'' ∧ SubE e' s'.env ∧ Imp Γ' Γ'') m ⟨rfl, e0, Γ0, h0, hs, hΓ⟩ ?_
  rintro m s' Γ' ⟨hd, e', Γ'', hI, hsub, himp⟩
  refine WPC.imp himp (WPC.env e' hsub ?_)
  rw [hd]
  refine (round m e' Γ'' hI).mono fun ex s1 Γ1 q => ?_
  cases ex with
  | normal =>
    obtain ⟨hd1, m', e1, Γ2, hlt, hI1, hsub1, himp1⟩ := q
    exact ⟨m', hlt, hd1, e1, Γ2, hI1, hsub1, himp1⟩
  | _ => exact q
/-- The ways meet again, told by a relation. -/
theorem WPC.seqCutS {c c' : Code} (M : List (Nat × Value) → List A → Prop) (h : WPC P n c s Γ (thenQ (fun s' Γ' => s'.ds = s.ds ∧ ∃ e Γ'', M e Γ'' ∧ SubE e s'.env ∧ Imp Γ' Γ'') Q)) (k : ∀ e Γ, M e Γ → WPC P n c' ⟨s.ds, e⟩ Γ Q) : WPC P n (.seq c c') s Γ Q :=
  .seqCut _ h fun _ _ ⟨hd, e, _, hM, hs, hi⟩ => WPC.imp hi (WPC.env e hs (hd ▸ k e _ hM))

theorem wrap_i64 {x : Int} (h : -9223372036854775808 ≤ x) (h' : x ≤ 9223372036854775807) : IntKind.i64.wrap x = x := by unfold IntKind.wrap; simp [IntKind.bits, IntKind.signed]; omega
theorem wrap_u64 {x : Int} (h : 0 ≤ x) (h' : x ≤ 18446744073709551615) : IntKind.u64.wrap x = x := by unfold IntKind.wrap; simp [IntKind.bits, IntKind.signed]; omega
theorem wrap_u32 {x : Int} (h : 0 ≤ x) (h' : x ≤ 4294967295) : IntKind.u32.wrap x = x := by unfold IntKind.wrap; simp [IntKind.bits, IntKind.signed]; omega
theorem wrap_u8 {x : Int} (h : 0 ≤ x) (h' : x ≤ 255) : IntKind.u8.wrap x = x := by unfold IntKind.wrap; simp [IntKind.bits, IntKind.signed]; omega
theorem q_inc {T' : TypeId} {k : Nat} (hx : ev s x = some (.int .i64 (k : Int))) (hy : ev s y = some (.int .i64 1)) (hk : k < 9223372036854775807) : Q1 P ⟨d, .binOp .add T x y T', ty, pos, af, g⟩ s Γ (.int .i64 ((k + 1 : Nat) : Int)) := by
  have h := q_int (P := P) (Γ := Γ) (d := d) (ty := ty) (pos := pos) (af := af) (g := g) (T := T) (T' := T') (op := .add) hx hy rfl
  rw [wrap_i64 (by omega) (by omega)] at h
  exact h
/-- A sum, a difference that fits. -/
theorem q_addI {T' : TypeId} {a b : Int} (hx : ev s x = some (.int .i64 a)) (hy : ev s y = some (.int .i64 b)) (h : -9223372036854775808 ≤ a + b ∧ a + b ≤ 9223372036854775807) : Q1 P ⟨d, .binOp .add T x y T', ty, pos, af, g⟩ s Γ (.int .i64 (a + b)) := by
  have h' := q_int (P := P) (Γ := Γ) (d := d) (ty := ty) (pos := pos) (af := af) (g := g) (T := T) (T' := T') (op := .add) hx hy rfl
  rw [wrap_i64 h.1 h.2] at h'
  exact h'
theorem q_subI {T' : TypeId} {a b : Int} (hx : ev s x = some (.int .i64 a)) (hy : ev s y = some (.int .i64 b)) (h : -9223372036854775808 ≤ a - b ∧ a - b ≤ 9223372036854775807) : Q1 P ⟨d, .binOp .sub T x y T', ty, pos, af, g⟩ s Γ (.int .i64 (a - b)) := by
  have h' := q_int (P := P) (Γ := Γ) (d := d) (ty := ty) (pos := pos) (af := af) (g := g) (T := T) (T' := T') (op := .sub) hx hy rfl
  rw [wrap_i64 h.1 h.2] at h'
  exact h'
theorem q_mulI {T' : TypeId} {a b : Int} (hx : ev s x = some (.int .i64 a)) (hy : ev s y = some (.int .i64 b)) (h : -9223372036854775808 ≤ a * b ∧ a * b ≤ 9223372036854775807) : Q1 P ⟨d, .binOp .mul T x y T', ty, pos, af, g⟩ s Γ (.int .i64 (a * b)) := by
  have h' := q_int (P := P) (Γ := Γ) (d := d) (ty := ty) (pos := pos) (af := af) (g := g) (T := T) (T' := T') (op := .mul) hx hy rfl
  rw [wrap_i64 h.1 h.2] at h'
  exact h'
theorem q_addU {T' : TypeId} {a b : Int} (hx : ev s x = some (.int .u64 a)) (hy : ev s y = some (.int .u64 b)) (h : 0 ≤ a + b ∧ a + b ≤ 18446744073709551615) : Q1 P ⟨d, .binOp .add T x y T', ty, pos, af, g⟩ s Γ (.int .u64 (a + b)) := by
  have h' := q_int (P := P) (Γ := Γ) (d := d) (ty := ty) (pos := pos) (af := af) (g := g) (T := T) (T' := T') (op := .add) hx hy rfl
  rw [wrap_u64 h.1 h.2] at h'
  exact h'
theorem q_subU {T' : TypeId} {a b : Int} (hx : ev s x = some (.int .u64 a)) (hy : ev s y = some (.int .u64 b)) (h : 0 ≤ a - b ∧ a - b ≤ 18446744073709551615) : Q1 P ⟨d, .binOp .sub T x y T', ty, pos, af, g⟩ s Γ (.int .u64 (a - b)) := by
  have h' := q_int (P := P) (Γ := Γ) (d := d) (ty := ty) (pos := pos) (af := af) (g := g) (T := T) (T' := T') (op := .sub) hx hy rfl
  rw [wrap_u64 h.1 h.2] at h'
  exact h'
theorem q_convU {T' : TypeId} {k : IntKind} {a : Int} (h1 : intB P T = some k) (h2 : intB P T' = some .u64) (hx : ev s x = some (.int k a)) (h : 0 ≤ a ∧ a ≤ 18446744073709551615) : Q1 P ⟨d, .convert T T' x, ty, pos, af, g⟩ s Γ (.int .u64 a) := by
  have h' := q_conv (P := P) (Γ := Γ) (d := d) (ty := ty) (pos := pos) (af := af) (g := g) h1 h2 hx
  rw [wrap_u64 h.1 h.2] at h'
  exact h'
theorem q_convI {T' : TypeId} {k : IntKind} {a : Int} (h1 : intB P T = some k) (h2 : intB P T' = some .i64) (hx : ev s x = some (.int k a)) (h : -9223372036854775808 ≤ a ∧ a ≤ 9223372036854775807) : Q1 P ⟨d, .convert T T' x, ty, pos, af, g⟩ s Γ (.int .i64 a) := by
  have h' := q_conv (P := P) (Γ := Γ) (d := d) (ty := ty) (pos := pos) (af := af) (g := g) h1 h2 hx
  rw [wrap_i64 h.1 h.2] at h'
  exact h'
theorem q_conv32 {T' : TypeId} {k : IntKind} {a : Int} (h1 : intB P T = some k) (h2 : intB P T' = some .u32) (hx : ev s x = some (.int k a)) (h : 0 ≤ a ∧ a ≤ 4294967295) : Q1 P ⟨d, .convert T T' x, ty, pos, af, g⟩ s Γ (.int .u32 a) := by
  have h' := q_conv (P := P) (Γ := Γ) (d := d) (ty := ty) (pos := pos) (af := af) (g := g) h1 h2 hx
  rw [wrap_u32 h.1 h.2] at h'
  exact h'
theorem wrap_in {k : IntKind} {x : Int} (h0 : 0 ≤ x) (h1 : x ≤ 127) : k.wrap x = x := by cases k <;> (unfold IntKind.wrap; simp [IntKind.bits, IntKind.signed]; omega)
theorem q_quoI {T' : TypeId} {a b : Int} (hx : ev s x = some (.int .i64 a)) (hy : ev s y = some (.int .i64 b)) (h : 0 ≤ a ∧ a ≤ 9223372036854775807 ∧ 0 < b) : Q1 P ⟨d, .binOp .quo T x y T', ty, pos, af, g⟩ s Γ (.int .i64 (a / b)) := by
  have h' := q_quo (P := P) (Γ := Γ) (d := d) (ty := ty) (pos := pos) (af := af) (g := g) (T := T) (T' := T') hx hy (by omega)
  have e : a.tdiv b = a / b := Int.tdiv_eq_ediv_of_nonneg h.1
  have := Int.ediv_le_self b h.1
  have := Int.ediv_nonneg h.1 (show 0 ≤ b by omega)
  rw [e, wrap_i64 (by omega) (by omega)] at h'
  exact h'
theorem q_quoU {T' : TypeId} {a b : Int} (hx : ev s x = some (.int .u64 a)) (hy : ev s y = some (.int .u64 b)) (h : 0 ≤ a ∧ a ≤ 18446744073709551615 ∧ 0 < b) : Q1 P ⟨d, .binOp .quo T x y T', ty, pos, af, g⟩ s Γ (.int .u64 (a / b)) := by
  have h' := q_quo (P := P) (Γ := Γ) (d := d) (ty := ty) (pos := pos) (af := af) (g := g) (T := T) (T' := T') hx hy (by omega)
  have e : a.tdiv b = a / b := Int.tdiv_eq_ediv_of_nonneg h.1
  have := Int.ediv_le_self b h.1
  have := Int.ediv_nonneg h.1 (show 0 ≤ b by omega)
  rw [e, wrap_u64 (by omega) (by omega)] at h'
  exact h'
theorem q_remN {T' : TypeId} {k : IntKind} {a b : Int} (hx : ev s x = some (.int k a)) (hy : ev s y = some (.int k b)) (h : 0 ≤ a ∧ 0 < b) : Q1 P ⟨d, .binOp .rem T x y T', ty, pos, af, g⟩ s Γ (.int k (a % b)) := by
  have h' := q_rem (P := P) (Γ := Γ) (d := d) (ty := ty) (pos := pos) (af := af) (g := g) (T := T) (T' := T') hx hy (by omega)
  rw [Int.tmod_eq_emod_of_nonneg h.1] at h'
  exact h'
theorem q_idxN {e sz : Nat} {a : Option Addr} {m c : Nat} {k : IntKind} {i : Nat} (hT : slB P T = some (e, sz)) (hx : ev s x = some (.slice a m c)) (hy : ev s y = some (.int k (i : Int))) (h1 : i < m) (ha : Pl a) :
    Q1 P ⟨d, .indexAddr T x y, ty, pos, af, g⟩ s Γ (.pointer (some ⟨blk a, off a + i * sz, none⟩)) := by
  have := q_idx (P := P) (Γ := Γ) (d := d) (ty := ty) (pos := pos) (af := af) (g := g) hT hx hy (by omega) (by omega) ha
  simpa using this
theorem q_idxAN {m sz b o : Nat} {k : IntKind} {i : Nat} (hT : arB P T = some (m, sz)) (hx : ev s x = some (.pointer (some ⟨b, o, none⟩))) (hy : ev s y = some (.int k (i : Int))) (h1 : i < m) :
    Q1 P ⟨d, .indexAddr T x y, ty, pos, af, g⟩ s Γ (.pointer (some ⟨b, o + i * sz, none⟩)) := by
  have := q_idxA (P := P) (Γ := Γ) (d := d) (ty := ty) (pos := pos) (af := af) (g := g) hT hx hy (by omega) (by omega)
  simpa using this
/-- An element of a mapped list. -/
theorem q_ldMap {α : Type} {p : Bool} {b o i : Nat} {xs : List α} {f : α → Value} {e : α} (hT : ldB P T = some none) (hx : ev s x = some (.pointer (some ⟨b, o + i * 1, none⟩))) (hm : cells p b o (xs.map f) ∈ Γ) (hi : xs[i]? = some e) :
    Q1 P ⟨d, .load T x, ty, pos, af, g⟩ s Γ (f e) := q_load1 (i := i) hT hx hm (by omega) (by simp [hi])
theorem flat_get {α : Type} {enc : α → List Value} {k : Nat} (hk : ∀ x, (enc x).length = k) : ∀ (xs : List α) (i j : Nat) {e : α}, xs[i]? = some e → j < k → (xs.flatMap enc)[i * k + j]? = (enc e)[j]?
  | [], i, j, e, h, _ => by simp at h
  | y :: ys, 0, j, e, h, hj => by
    simp at h; subst h
    rw [List.flatMap_cons, List.getElem?_append_left (by rw [hk]; omega)]; simp
  | y :: ys, i + 1, j, e, h, hj => by
    rw [List.flatMap_cons, List.getElem?_append_right (by rw [hk, Nat.succ_mul]; omega)]
    have := flat_get hk ys i j (by simpa using h) hj
    rw [← this, hk]; congr 1; rw [Nat.succ_mul]; omega
theorem flat_drop {α : Type} {enc : α → List Value} {k : Nat} (hk : ∀ x, (enc x).length = k) {xs : List α} {i : Nat} {e : α} (h : xs[i]? = some e) : ((xs.flatMap enc).drop (i * k)).take k = enc e := by
  apply List.ext_getElem?
  intro j
  by_cases hj : j < k
  · rw [List.getElem?_take, if_pos hj, List.getElem?_drop, flat_get hk xs i j h hj]
  · rw [List.getElem?_eq_none (by simp; omega), List.getElem?_eq_none (by rw [hk]; omega)]
theorem flat_length {α : Type} {enc : α → List Value} {k : Nat} (hk : ∀ x, (enc x).length = k) : ∀ (xs : List α), (xs.flatMap enc).length = xs.length * k
  | [] => by simp
  | y :: ys => by rw [List.flatMap_cons, List.length_append, hk, flat_length hk ys, List.length_cons, Nat.succ_mul]; omega
/-- A whole element of a flattened list. -/
theorem q_ldFlat {α : Type} {p : Bool} {b o i k : Nat} {xs : List α} {enc : α → List Value} {e : α} (hT : ldB P T = some (some k)) (hx : ev s x = some (.pointer (some ⟨b, o + i * k, none⟩))) (hm : cells p b o (xs.flatMap enc) ∈ Γ) (hk : ∀ x, (enc x).length = k) (hi : xs[i]? = some e) :
    Q1 P ⟨d, .load T x, ty, pos, af, g⟩ s Γ (.agg (enc e).toArray) := q_loadN (i := i * k) hT hx hm rfl (hk e) (flat_drop hk hi)
/-- One cell of an element. -/
theorem q_ldFlat1 {α : Type} {p : Bool} {b o i j k : Nat} {xs : List α} {enc : α → List Value} {e : α} (hT : ldB P T = some none) (hx : ev s x = some (.pointer (some ⟨b, o + (i * k + j), none⟩))) (hm : cells p b o (xs.flatMap enc) ∈ Γ) (hk : ∀ x, (enc x).length = k) (hi : xs[i]? = some e) (hj : j < k) (hv : (enc e)[j]? = some v) :
    Q1 P ⟨d, .load T x, ty, pos, af, g⟩ s Γ v := q_load1 (i := i * k + j) hT hx hm rfl (by rw [flat_get hk xs i j hi hj]; exact hv)
theorem take_succ {α : Type} {xs : List α} {k : Nat} {e : α} (h : xs[k]? = some e) : xs.take (k + 1) = xs.take k ++ [e] := by
  rw [List.take_add_one]; simp [h]
end
end Go.Sl
/- Separation logic over the model's code: regions that only read, whatever their order; ways that meet again behind '&&' and '||'. -/
namespace Go.Sl
open Go Go.RowKit

theorem Oper.wp_monoQ {P : Program} {o : Oper} {a : Act} {w : World} {K : Act → World → Prop} {Q Q' : Exit → Act → World → Prop} (hp : ∀ c a w, Q' (.panic c) a w → Q (.panic c) a w) (hl : LetsOut Q' → LetsOut Q) (h : o.wp P a w K Q') : o.wp P a w K Q := by
  unfold Oper.wp at *
  generalize (execOp a.eval o).run P w = r at *
  cases r with
  | ok n w' =>
    cases n <;> simp only [Oper.upon] at h ⊢ <;> first
      | exact h
      | exact Calls.mono h fun e w'' he => by cases e <;> first | exact he | exact hp _ _ _ he | exact hl he
  | halt x w' => cases x <;> simp only [Oper.upon] at h ⊢ <;> first | exact hp _ _ _ h | exact h
theorem wpList_append {P : Program} {ops : Array Oper} {Q : Exit → Act → World → Prop} {l2 : List Oper} : ∀ (l1 : List Oper) (a : Act) (w : World),
    wpList P ops (fun e a w => match e with | .normal => wpList P ops Q l2 a w | e => Q e a w) l1 a w → wpList P ops Q (l1 ++ l2) a w
  | [], _, _, h => h
  | o :: l1, a, w, h => by
    have hl : LetsOut (fun e a w => match e with | .normal => wpList P ops Q l2 a w | e => Q e a w) → LetsOut Q := fun h => h
    simp only [wpList, List.cons_append] at h ⊢
    split
    · rename_i hw
      rw [if_pos hw] at h
      rcases h with h | h
      · exact .inl (Oper.wp_monoQ (fun _ _ _ h => h) hl (Oper.wp_mono (fun a w => wpList_append l1 a w) h))
      · exact .inr ⟨h.1, hl h.2⟩
    · rename_i hw
      rw [if_neg hw] at h
      exact wpList_append l1 _ _ h
theorem wpQuiet_append {P : Program} {ops : Array Oper} {C : World → Prop} {Q : Act → Prop} {l2 : List Oper} : ∀ (l1 : List Oper) (a : Act), wpQuiet P ops C (wpQuiet P ops C Q l2) l1 a → wpQuiet P ops C Q (l1 ++ l2) a
  | [], _, h => h
  | o :: l1, a, h => by
    simp only [wpQuiet, List.cons_append] at h ⊢
    split
    · rename_i hw; rw [if_pos hw] at h; exact Oper.quiet_mono (fun a => wpQuiet_append l1 a) h
    · rename_i hw; rw [if_neg hw] at h; exact wpQuiet_append l1 _ h

section
variable {P : Program} {n : Nat} {ds : List Deferred} {env e' : List (Nat × Value)} {s : St} {Γ Δ Θ : List A} {Q : QX} {K : St → List A → Prop} {ops : Array Oper} {l : List Oper}
theorem WPL.append {l1 l2 : List Oper} (h : WPL P n ops l1 s Γ (fun s' Γ' => WPL P n ops l2 s' Γ' K)) : WPL P n ops (l1 ++ l2) s Γ K := by
  intro F w a o t Q hq
  refine wpList_append l1 a w (h F w a o t _ fun a' w' p => ?_)
  obtain ⟨s', Γ', k, o', t', ad⟩ := p
  exact k F w' a' o' t' Q fun a'' w'' p' => hq _ _ (p'.adv ad)
/-- Where two ways meet. -/
def Jn (ds : List Deferred) (e' : List (Nat × Value)) (Γ : List A) (t : Nat) (x : Bool) : St → List A → Prop := fun s' Γ' => s'.ds = ds ∧ getE s'.env t = some (.bool x) ∧ SubE e' s'.env ∧ Imp Γ' Γ
theorem WPL.jn {t : Nat} {x : Bool} (hd : s.ds = ds) (hv : getE s.env t = some (.bool x)) (he : SubE e' s.env) : WPL P n ops [] s Γ (Jn ds e' Γ t x) := .nil ⟨hd, hv, he, .refl Γ⟩
theorem WPL.jnI {t : Nat} {x : Bool} (hd : s.ds = ds) (hv : getE s.env t = some (.bool x)) (he : SubE e' s.env) (i : Imp Γ Δ) : WPL P n ops [] s Γ (Jn ds e' Δ t x) := .nil ⟨hd, hv, he, i⟩
theorem WPL.joinA (tc t k : Nat) {b x : Bool} (hv : getE env tc = some (.bool b)) (ht : b = true → WPL P n ops (l.take k) ⟨ds, (tc, .bool true) :: env⟩ Γ (Jn ds e' Γ t x)) (hf : b = false → WPL P n ops (l.take k) ⟨ds, (tc, .bool false) :: env⟩ Γ (Jn ds e' Γ t false))
    (h : WPL P n ops (l.drop k) ⟨ds, (t, .bool (b && x)) :: e'⟩ Γ K) : WPL P n ops l ⟨ds, env⟩ Γ K := by
  rw [← List.take_append_drop k l]
  refine .append (.split tc b hv (fun e => ?_) (fun e => ?_))
  · intro F w a o tt Q hq
    refine ht e F w a o tt Q fun a' w' ⟨s', Γ', ⟨h1, h2, h3, h4⟩, o', t', ad⟩ => hq a' w' ⟨⟨ds, (t, .bool (b && x)) :: e'⟩, Γ, h, ⟨o'.size, o'.ds.trans h1, fun i v hi => ?_⟩, h4 F w' t', ad⟩
    simp only [St.get, getE_cons] at hi
    by_cases e1 : t = i
    · subst e1; simp at hi; subst hi; rw [e]; exact o'.get _ _ h2
    · rw [if_neg e1] at hi; exact o'.get _ _ (h3.get hi)
  · intro F w a o tt Q hq
    refine hf e F w a o tt Q fun a' w' ⟨s', Γ', ⟨h1, h2, h3, h4⟩, o', t', ad⟩ => hq a' w' ⟨⟨ds, (t, .bool (b && x)) :: e'⟩, Γ, h, ⟨o'.size, o'.ds.trans h1, fun i v hi => ?_⟩, h4 F w' t', ad⟩
    simp only [St.get, getE_cons] at hi
    by_cases e1 : t = i
    · subst e1; simp at hi; subst hi; rw [e]; exact o'.get _ _ h2
    · rw [if_neg e1] at hi; exact o'.get _ _ (h3.get hi)
theorem WPL.joinO (tc t k : Nat) {b x : Bool} (hv : getE env tc = some (.bool b)) (ht : b = true → WPL P n ops (l.take k) ⟨ds, (tc, .bool true) :: env⟩ Γ (Jn ds e' Γ t true)) (hf : b = false → WPL P n ops (l.take k) ⟨ds, (tc, .bool false) :: env⟩ Γ (Jn ds e' Γ t x))
    (h : WPL P n ops (l.drop k) ⟨ds, (t, .bool (b || x)) :: e'⟩ Γ K) : WPL P n ops l ⟨ds, env⟩ Γ K := by
  rw [← List.take_append_drop k l]
  refine .append (.split tc b hv (fun e => ?_) (fun e => ?_))
  · intro F w a o tt Q hq
    refine ht e F w a o tt Q fun a' w' ⟨s', Γ', ⟨h1, h2, h3, h4⟩, o', t', ad⟩ => hq a' w' ⟨⟨ds, (t, .bool (b || x)) :: e'⟩, Γ, h, ⟨o'.size, o'.ds.trans h1, fun i v hi => ?_⟩, h4 F w' t', ad⟩
    simp only [St.get, getE_cons] at hi
    by_cases e1 : t = i
    · subst e1; simp at hi; subst hi; rw [e]; exact o'.get _ _ h2
    · rw [if_neg e1] at hi; exact o'.get _ _ (h3.get hi)
  · intro F w a o tt Q hq
    refine hf e F w a o tt Q fun a' w' ⟨s', Γ', ⟨h1, h2, h3, h4⟩, o', t', ad⟩ => hq a' w' ⟨⟨ds, (t, .bool (b || x)) :: e'⟩, Γ, h, ⟨o'.size, o'.ds.trans h1, fun i v hi => ?_⟩, h4 F w' t', ad⟩
    simp only [St.get, getE_cons] at hi
    by_cases e1 : t = i
    · subst e1; simp at hi; subst hi; rw [e]; exact o'.get _ _ h2
    · rw [if_neg e1] at hi; exact o'.get _ _ (h3.get hi)
/-- One step, the new state written out. -/
theorem L_s {op : Op} {ty : TypeId} {pos : String} {af : Array Edge} {d : Nat} {rest : List Oper} {v : Value} (h : Q1 P ⟨some d, op, ty, pos, af, none⟩ ⟨ds, env⟩ Γ v) (hd : Nat.blt d n = true) (k : WPL P n ops rest ⟨ds, (d, v) :: env⟩ Γ K) : WPL P n ops (⟨some d, op, ty, pos, af, none⟩ :: rest) ⟨ds, env⟩ Γ K :=
  L_q h rfl hd k

theorem L_yes {op : Op} {ty : TypeId} {pos : String} {af : Array Edge} {d : Nat} {rest : List Oper} {v : Value} {j t : Nat} {b : Bool} (hj : (ops[j]?).bind (·.dst) = some t) (hv : getE env t = some (.bool b)) (h : Q1 P ⟨some d, op, ty, pos, af, some (j, b)⟩ ⟨ds, env⟩ Γ v) (hd : Nat.blt d n = true)
    (k : WPL P n ops rest ⟨ds, (d, v) :: env⟩ Γ K) : WPL P n ops (⟨some d, op, ty, pos, af, some (j, b)⟩ :: rest) ⟨ds, env⟩ Γ K := .guardYes rfl hj hv (h.wpo hd k)
theorem L_eyes {o : Oper} {rest : List Oper} {j t : Nat} {b : Bool} (hg : o.guard = some (j, b)) (hj : (ops[j]?).bind (·.dst) = some t) (hv : getE env t = some (.bool b)) (h : WPO P n o ⟨ds, env⟩ Γ (fun s' Γ' => WPL P n ops rest s' Γ' K)) : WPL P n ops (o :: rest) ⟨ds, env⟩ Γ K := .guardYes hg hj hv h
theorem L_no {op : Op} {ty : TypeId} {pos : String} {af : Array Edge} {d : Nat} {rest : List Oper} {j t : Nat} {b c : Bool} (hj : (ops[j]?).bind (·.dst) = some t) (hv : getE env t = some (.bool c)) (hb : (b == c) = false) (hd : Nat.blt d n = true)
    (k : WPL P n ops rest ⟨ds, (d, undef) :: env⟩ Γ K) : WPL P n ops (⟨some d, op, ty, pos, af, some (j, b)⟩ :: rest) ⟨ds, env⟩ Γ K := .guardNo rfl hj hv hb hd k
theorem L_no' {op : Op} {ty : TypeId} {pos : String} {af : Array Edge} {rest : List Oper} {j t : Nat} {b c : Bool} (hj : (ops[j]?).bind (·.dst) = some t) (hv : getE env t = some (.bool c)) (hb : (b == c) = false)
    (k : WPL P n ops rest ⟨ds, env⟩ Γ K) : WPL P n ops (⟨none, op, ty, pos, af, some (j, b)⟩ :: rest) ⟨ds, env⟩ Γ K := .guardNo rfl hj hv hb rfl k
theorem L_off {op : Op} {ty : TypeId} {pos : String} {af : Array Edge} {d : Nat} {rest : List Oper} {j t : Nat} {b : Bool} (hj : (ops[j]?).bind (·.dst) = some t) (hv : getE env t = some undef) (hd : Nat.blt d n = true)
    (k : WPL P n ops rest ⟨ds, (d, undef) :: env⟩ Γ K) : WPL P n ops (⟨some d, op, ty, pos, af, some (j, b)⟩ :: rest) ⟨ds, env⟩ Γ K := .guardOff rfl hj hv hd k
theorem L_split (t : Nat) (b : Bool) (hv : getE env t = some (.bool b)) (ht : b = true → WPL P n ops l ⟨ds, (t, .bool true) :: env⟩ Γ K) (hf : b = false → WPL P n ops l ⟨ds, (t, .bool false) :: env⟩ Γ K) : WPL P n ops l ⟨ds, env⟩ Γ K := .split t b hv ht hf
theorem WPC.prune {c : Code} (e' : List (Nat × Value)) (hs : SubE e' env) (h : WPC P n c ⟨ds, e'⟩ Γ Q) : WPC P n c ⟨ds, env⟩ Γ Q := .env e' hs h

/-- A region whose operations only read. -/
def WPQ (P : Program) (n : Nat) (ops : Array Oper) (l : List Oper) (s : St) (Γ : List A) (J : St → Prop) : Prop :=
  ∀ F w0 a, Ok n s a → wpQuiet P ops (fun w => Sat Γ F w ∧ Adv w0 w) (fun a' => ∃ s', J s' ∧ Ok n s' a') l a
theorem wpQuiet_mono {C : World → Prop} {Q Q' : Act → Prop} (h : ∀ a, Q a → Q' a) : ∀ (l : List Oper) (a : Act), wpQuiet P ops C Q l a → wpQuiet P ops C Q' l a
  | [], _, hh => h _ hh
  | o :: l, a, hh => by
    simp only [wpQuiet] at hh ⊢
    split
    · rename_i hw; rw [if_pos hw] at hh; exact Oper.quiet_mono (fun a => wpQuiet_mono h l a) hh
    · rename_i hw; rw [if_neg hw] at hh; exact wpQuiet_mono h l _ hh
theorem WPC.drawQ {id : Nat} (hm : P.follows .mixedOrders = true) (hB : Region.lexB .any l.toArray = true) (h : WPQ P n l.toArray l s Γ (fun s' => Q .normal s' Γ)) : WPC P n (.region id l.toArray true) s Γ Q := by
  intro F w a o t
  refine wp_region_quiet (C := fun w' => Sat Γ F w' ∧ Adv w w') hm hB ⟨t.drew, Adv.drew w⟩ ?_
  have h1 := h F w a o
  exact wpQuiet_mono (fun a' ⟨s', k, o'⟩ w' ⟨t', ad⟩ => ⟨s', Γ, k, o', t', ad⟩) l a h1
theorem WPC.seqQ {id : Nat} {c : Code} (hm : P.follows .mixedOrders = true) (hB : Region.lexB .any l.toArray = true) (h : WPQ P n l.toArray l s Γ (fun s' => WPC P n c s' Γ Q)) : WPC P n (.seq (.region id l.toArray true) c) s Γ Q := .seq (.drawQ hm hB h)
variable {J : St → Prop}
theorem WPQ.nil (h : J s) : WPQ P n ops [] s Γ J := fun _ _ _ o => ⟨s, h, o⟩
theorem WPQ.quietQ {o : Oper} {rest : List Oper} {v : Value} (hq : Q1 P o s Γ v) (hd : dok n o.dst = true) (h : WPQ P n ops rest (s.put o.dst v) Γ J) {F : A} {w0 : World} {a : Act} (ok : Ok n s a) :
    o.quiet P a (fun w => Sat Γ F w ∧ Adv w0 w) (wpQuiet P ops (fun w => Sat Γ F w ∧ Adv w0 w) (fun a' => ∃ s', J s' ∧ Ok n s' a') rest) :=
  ⟨v, fun w ⟨t, _⟩ => by unfold Oper.quietAt; rw [hq F w _ ok.ev t]; exact ⟨rfl, rfl⟩, h F w0 _ (ok.put hd v)⟩
theorem WPQ.cons {op : Op} {ty : TypeId} {pos : String} {af : Array Edge} {d : Nat} {rest : List Oper} {v : Value} (hq : Q1 P ⟨some d, op, ty, pos, af, none⟩ ⟨ds, env⟩ Γ v) (hd : Nat.blt d n = true) (h : WPQ P n ops rest ⟨ds, (d, v) :: env⟩ Γ J) :
    WPQ P n ops (⟨some d, op, ty, pos, af, none⟩ :: rest) ⟨ds, env⟩ Γ J := by
  intro F w0 a ok
  unfold wpQuiet
  rw [if_pos (by simp [Region.wanted])]
  exact WPQ.quietQ hq hd h ok
theorem Pick.back {Γ cs Θ : List A} (u : Pick Γ cs Θ) : Imp (cs ++ Θ) Γ := by
  induction u with
  | nil => exact .refl _
  | cons h _ ih => exact (ih.cons _).trans (Imp.perm h.perm.symm)
  | keep _ _ _ ih => exact (Imp.drop _ _).trans ih
theorem WPQ.callQ {o : Oper} {rest : List Oper} {f : FuncId} {args : Array Value} {pre : List A} {v : Value} (h : C1 P o s f args) (c : Trip P f args pre (fun r Δ => r = v ∧ Δ = pre)) (hp : Pick Γ pre Θ) (hd : dok n o.dst = true) (k : WPQ P n ops rest (s.put o.dst v) Γ J)
    {F : A} {w0 : World} {a : Act} (ok : Ok n s a) : o.quiet P a (fun w => Sat Γ F w ∧ Adv w0 w) (wpQuiet P ops (fun w => Sat Γ F w ∧ Adv w0 w) (fun a' => ∃ s', J s' ∧ Ok n s' a') rest) :=
  ⟨v, fun w ⟨t, ad0⟩ => by
    unfold Oper.quietAt
    rw [h w _ ok.ev]
    refine ⟨rfl, (c _ w (Sat.app.1 (hp.imp F w t))).mono ?_⟩
    rintro e w' ⟨r, Δ, rfl, ⟨rfl, rfl⟩, t', ad⟩
    exact ⟨rfl, hp.back F w' (Sat.app.2 t'), ad0.trans ad⟩, k F w0 _ (ok.put hd v)⟩
theorem WPQ.call {op : Op} {ty : TypeId} {pos : String} {af : Array Edge} {d : Nat} {rest : List Oper} {f : FuncId} {args : Array Value} {pre : List A} {v : Value} (h : C1 P ⟨some d, op, ty, pos, af, none⟩ ⟨ds, env⟩ f args) (c : Trip P f args pre (fun r Δ => r = v ∧ Δ = pre)) (hp : Pick Γ pre Θ)
    (hd : Nat.blt d n = true) (k : WPQ P n ops rest ⟨ds, (d, v) :: env⟩ Γ J) : WPQ P n ops (⟨some d, op, ty, pos, af, none⟩ :: rest) ⟨ds, env⟩ Γ J := by
  intro F w0 a ok
  unfold wpQuiet
  rw [if_pos (by simp [Region.wanted])]
  exact WPQ.callQ h c hp hd k ok
theorem WPQ.yes {op : Op} {ty : TypeId} {pos : String} {af : Array Edge} {d : Nat} {rest : List Oper} {v : Value} {j t : Nat} {b : Bool} (hj : (ops[j]?).bind (·.dst) = some t) (hv : getE env t = some (.bool b)) (hq : Q1 P ⟨some d, op, ty, pos, af, some (j, b)⟩ ⟨ds, env⟩ Γ v) (hd : Nat.blt d n = true)
    (h : WPQ P n ops rest ⟨ds, (d, v) :: env⟩ Γ J) : WPQ P n ops (⟨some d, op, ty, pos, af, some (j, b)⟩ :: rest) ⟨ds, env⟩ Γ J := by
  intro F w0 a ok
  unfold wpQuiet
  rw [if_pos (by simp [Region.wanted, yielded_of ok hj hv])]
  exact WPQ.quietQ hq hd h ok
theorem WPQ.callYes {op : Op} {ty : TypeId} {pos : String} {af : Array Edge} {d : Nat} {rest : List Oper} {f : FuncId} {args : Array Value} {pre : List A} {v : Value} {j t : Nat} {b : Bool} (hj : (ops[j]?).bind (·.dst) = some t) (hv : getE env t = some (.bool b)) (h : C1 P ⟨some d, op, ty, pos, af, some (j, b)⟩ ⟨ds, env⟩ f args)
    (c : Trip P f args pre (fun r Δ => r = v ∧ Δ = pre)) (hp : Pick Γ pre Θ) (hd : Nat.blt d n = true) (k : WPQ P n ops rest ⟨ds, (d, v) :: env⟩ Γ J) : WPQ P n ops (⟨some d, op, ty, pos, af, some (j, b)⟩ :: rest) ⟨ds, env⟩ Γ J := by
  intro F w0 a ok
  unfold wpQuiet
  rw [if_pos (by simp [Region.wanted, yielded_of ok hj hv])]
  exact WPQ.callQ h c hp hd k ok
theorem WPQ.no {op : Op} {ty : TypeId} {pos : String} {af : Array Edge} {d : Nat} {rest : List Oper} {j t : Nat} {b c : Bool} (hj : (ops[j]?).bind (·.dst) = some t) (hv : getE env t = some (.bool c)) (hb : (b == c) = false) (hd : Nat.blt d n = true)
    (h : WPQ P n ops rest ⟨ds, (d, undef) :: env⟩ Γ J) : WPQ P n ops (⟨some d, op, ty, pos, af, some (j, b)⟩ :: rest) ⟨ds, env⟩ Γ J := by
  intro F w0 a ok
  unfold wpQuiet
  rw [if_neg (by simp [Region.wanted, yielded_of ok hj hv]; intro e; subst e; simp at hb)]
  exact h F w0 _ (ok.put (d := some d) hd undef)
theorem WPQ.off {op : Op} {ty : TypeId} {pos : String} {af : Array Edge} {d : Nat} {rest : List Oper} {j t : Nat} {b : Bool} (hj : (ops[j]?).bind (·.dst) = some t) (hv : getE env t = some undef) (hd : Nat.blt d n = true)
    (h : WPQ P n ops rest ⟨ds, (d, undef) :: env⟩ Γ J) : WPQ P n ops (⟨some d, op, ty, pos, af, some (j, b)⟩ :: rest) ⟨ds, env⟩ Γ J := by
  intro F w0 a ok
  unfold wpQuiet
  rw [if_neg (by simp [Region.wanted, yielded_undef ok hj hv])]
  exact h F w0 _ (ok.put (d := some d) hd undef)
theorem Ok.lit {a : Act} {t : Nat} {b c : Bool} (o : Ok n ⟨ds, env⟩ a) (hv : getE env t = some (.bool b)) (h : b = c) : Ok n ⟨ds, (t, .bool c) :: env⟩ a := by
  subst h
  refine ⟨o.size, o.ds, fun i u hu => ?_⟩
  simp only [St.get, getE_cons] at hu
  by_cases e : t = i
  · subst e; simp at hu; subst hu; exact o.get _ _ hv
  · rw [if_neg e] at hu; exact o.get i u hu
theorem WPQ.split (t : Nat) (b : Bool) (hv : getE env t = some (.bool b)) (ht : b = true → WPQ P n ops l ⟨ds, (t, .bool true) :: env⟩ Γ J) (hf : b = false → WPQ P n ops l ⟨ds, (t, .bool false) :: env⟩ Γ J) : WPQ P n ops l ⟨ds, env⟩ Γ J := by
  intro F w0 a o
  cases hb : b with
  | true => exact ht hb F w0 a (o.lit hv hb)
  | false => exact hf hb F w0 a (o.lit hv hb)
def Jq (ds : List Deferred) (e' : List (Nat × Value)) (t : Nat) (x : Bool) : St → Prop := fun s' => s'.ds = ds ∧ getE s'.env t = some (.bool x) ∧ SubE e' s'.env
theorem WPQ.jn {t : Nat} {x : Bool} (hd : s.ds = ds) (hv : getE s.env t = some (.bool x)) (he : SubE e' s.env) : WPQ P n ops [] s Γ (Jq ds e' t x) := .nil ⟨hd, hv, he⟩
theorem Ok.join {a : Act} {s' : St} {t : Nat} {x : Bool} (o : Ok n s' a) (h1 : s'.ds = ds) (h2 : getE s'.env t = some (.bool x)) (h3 : SubE e' s'.env) : Ok n ⟨ds, (t, .bool x) :: e'⟩ a := by
  refine ⟨o.size, o.ds.trans h1, fun i v hi => ?_⟩
  simp only [St.get, getE_cons] at hi
  by_cases e1 : t = i
  · subst e1; simp at hi; subst hi; exact o.get _ _ h2
  · rw [if_neg e1] at hi; exact o.get _ _ (h3.get hi)
theorem WPQ.joinA (tc t k : Nat) {b x : Bool} (hv : getE env tc = some (.bool b)) (ht : b = true → WPQ P n ops (l.take k) ⟨ds, (tc, .bool true) :: env⟩ Γ (Jq ds e' t x)) (hf : b = false → WPQ P n ops (l.take k) ⟨ds, (tc, .bool false) :: env⟩ Γ (Jq ds e' t false))
    (h : WPQ P n ops (l.drop k) ⟨ds, (t, .bool (b && x)) :: e'⟩ Γ J) : WPQ P n ops l ⟨ds, env⟩ Γ J := by
  rw [← List.take_append_drop k l]
  intro F w0 a o
  refine wpQuiet_append _ a ?_
  cases hb : b with
  | true => exact wpQuiet_mono (fun a' ⟨s', ⟨h1, h2, h3⟩, o'⟩ => h F w0 a' (by rw [hb]; exact o'.join h1 h2 h3)) _ _ (ht hb F w0 a (o.lit hv hb))
  | false => exact wpQuiet_mono (fun a' ⟨s', ⟨h1, h2, h3⟩, o'⟩ => h F w0 a' (by rw [hb]; exact o'.join h1 h2 h3)) _ _ (hf hb F w0 a (o.lit hv hb))
theorem WPQ.joinO (tc t k : Nat) {b x : Bool} (hv : getE env tc = some (.bool b)) (ht : b = true → WPQ P n ops (l.take k) ⟨ds, (tc, .bool true) :: env⟩ Γ (Jq ds e' t true)) (hf : b = false → WPQ P n ops (l.take k) ⟨ds, (tc, .bool false) :: env⟩ Γ (Jq ds e' t x))
    (h : WPQ P n ops (l.drop k) ⟨ds, (t, .bool (b || x)) :: e'⟩ Γ J) : WPQ P n ops l ⟨ds, env⟩ Γ J := by
  rw [← List.take_append_drop k l]
  intro F w0 a o
  refine wpQuiet_append _ a ?_
  cases hb : b with
  | true => exact wpQuiet_mono (fun a' ⟨s', ⟨h1, h2, h3⟩, o'⟩ => h F w0 a' (by rw [hb]; exact o'.join h1 h2 h3)) _ _ (ht hb F w0 a (o.lit hv hb))
  | false => exact wpQuiet_mono (fun a' ⟨s', ⟨h1, h2, h3⟩, o'⟩ => h F w0 a' (by rw [hb]; exact o'.join h1 h2 h3)) _ _ (hf hb F w0 a (o.lit hv hb))
end
end Go.Sl
/- Separation logic over the model's code: stores into mapped and flattened lists, clear, slices cut. -/
namespace Go.Sl
open Go Go.RowKit
section
variable {P : Program} {n : Nat} {s : St} {Γ Δ Θ : List A} {d : Option Tmp} {ty : TypeId} {pos : String} {af : Array Edge} {g : Option (Nat × Bool)} {v u : Value} {x y z : Operand} {T : TypeId}

theorem s_storeMap {α : Type} {b o i : Nat} {xs : List α} {f : α → Value} {e : α} (hT : szB P T = some 1) (hx : ev s x = some (.pointer (some ⟨b, o + i * 1, none⟩))) (hy : ev s y = some (f e)) (hu : (f e).oneCell' = true) (hc : (f e).cells = #[f e]) (hi : i < xs.length)
    (hm : Upd Γ (cells true b o (xs.map f)) (cells true b o ((xs.set i e).map f)) Δ) : S1 P ⟨d, .store T x y, ty, pos, af, g⟩ s Γ Δ := by
  rw [List.map_set] at hm
  rw [Nat.mul_one] at hx
  intro F w ρ ee t
  obtain ⟨Θ, t1, t2⟩ := hm.sat t
  have hs := run_size hT w
  have hl : i < (xs.map f).length := by simpa using hi
  obtain ⟨w', hr, t', ad⟩ := run_storeCells (P := P) [f e] i 0 (by simpa using hu) (by simp; omega) t1
  refine ⟨w', ?_, t2 w' ?_, ad⟩
  · simp [execOp, ee _ _ hx, ee _ _ hy, Instr.storeAt, Instr.sureAddr, storeVar, hs, hc, hr]
  · have : List.take (i + 0) (xs.map f) ++ [f e] ++ List.drop (i + 0 + [f e].length) (xs.map f) = (xs.map f).set i (f e) := by
      rw [List.set_eq_take_append_cons_drop, if_pos hl]; simp
    rw [this] at t'; exact t'
theorem flat_set {α : Type} {enc : α → List Value} {k : Nat} (hk : ∀ x, (enc x).length = k) : ∀ (xs : List α) (i : Nat) (e : α), i < xs.length → (xs.flatMap enc).take (i * k) ++ enc e ++ (xs.flatMap enc).drop (i * k + k) = (xs.set i e).flatMap enc
  | [], i, e, h => by simp at h
  | y :: ys, 0, e, _ => by
    simp [List.flatMap_cons, List.drop_append, hk, List.drop_eq_nil_of_le]
  | y :: ys, i + 1, e, h => by
    have := flat_set hk ys i e (by simpa using h)
    rw [List.set_cons_succ, List.flatMap_cons, List.flatMap_cons, ← this]
    have h1 : (i + 1) * k = (enc y).length + i * k := by rw [hk, Nat.succ_mul]; omega
    rw [h1, List.take_append, List.drop_append]
    have h2 : (enc y).take ((enc y).length + i * k) = enc y := List.take_of_length_le (by omega)
    have h3 : (enc y).drop ((enc y).length + i * k + k) = [] := List.drop_eq_nil_of_le (by omega)
    rw [h2, h3]
    have h4 : (enc y).length + i * k - (enc y).length = i * k := by omega
    have h5 : (enc y).length + i * k + k - (enc y).length = i * k + k := by omega
    rw [h4, h5]; simp
/-- A whole element of a flattened list is written. -/
theorem s_storeFlat {α : Type} {b o i k : Nat} {xs : List α} {enc : α → List Value} {e : α} (hT : szB P T = some k) (hx : ev s x = some (.pointer (some ⟨b, o + i * k, none⟩))) (hy : ev s y = some (.agg (enc e).toArray)) (hu : ∀ u ∈ enc e, u.oneCell' = true) (hk : ∀ x, (enc x).length = k) (hi : i < xs.length)
    (hm : Upd Γ (cells true b o (xs.flatMap enc)) (cells true b o ((xs.set i e).flatMap enc)) Δ) : S1 P ⟨d, .store T x y, ty, pos, af, g⟩ s Γ Δ := by
  refine s_storeN (i := i * k) hT hx hy hu (hk e) rfl ?_ (by rw [flat_set hk xs i e hi]; exact hm)
  rw [flat_length hk]
  have := Nat.mul_le_mul_right k (show i + 1 ≤ xs.length by omega)
  rw [Nat.succ_mul] at this
  exact this
theorem zeroCells_eq (z : Array Value) (m : Nat) (hz : 0 < z.size) : (Builtin.zeroCells z m).toList = repZ z.toList m := range_repZ z m hz
/-- clear(s), s not empty. -/
theorem e_clear {zs : List Value} {by_ : Nat} {b o i m c : Nat} {vs : List Value} (hT : mkB P T = some (zs, by_)) (hz : 0 < zs.length) (h1 : ∀ q ∈ zs, q.oneCell' = true) (hx : ev s x = some (.slice (some ⟨b, o + i, none⟩) m c)) (hm0 : 0 < m) (hl : i + m * zs.length ≤ vs.length)
    (hm : Upd Γ (cells true b o vs) (cells true b o (vs.take i ++ repZ zs m ++ vs.drop (i + m * zs.length))) Δ) :
    E1 P ⟨d, .call { callee := .builtin .clear, args := #[x], argTypes := #[T] }, ty, pos, af, g⟩ s Γ (fun v Δ' => v = .tuple #[] ∧ Δ' = Δ) := fun F w ρ ee t => by
  obtain ⟨e, ti, zv, h4, h5, h6, h6', h7, h8, rfl⟩ := mkB_of hT
  obtain ⟨Θ, t1, t2⟩ := hm.sat t
  have hz' : 0 < zv.cells.size := by rw [h8]; exact hz
  have hone : ∀ (k : Nat), ∀ q ∈ repZ zs k, q.oneCell' = true := by
    intro k
    induction k with
    | zero => intro q hq; simp [repZ] at hq
    | succ k ih => intro q hq; simp only [repZ, List.mem_append] at hq; exact hq.elim (h1 q) (ih q)
  obtain ⟨w', hr, t', ad⟩ := run_storeCells (P := P) (repZ zs m) i 0 (hone m) (by rw [repZ_length]; simpa using hl) t1
  have hzero := run_zero (P := P) (T := e) (z := zv) (by simp [zB, h5, h6]) w
  have hzc : (Builtin.zeroCells zv.cells m).toList = repZ zs m := by rw [zeroCells_eq _ _ hz', h6']
  refine ⟨_, _, w', ?_, ⟨rfl, rfl⟩, t2 w' ?_, ad⟩
  · cases m with
    | zero => omega
    | succ m => simp [execOp, resolve, invoke, builtin, ee _ _ hx, Builtin.clear_, run_underlying h4, hzero, hzc, hr]
  · rw [repZ_length, Nat.add_zero] at t'; exact t'
theorem cut_pl {a : Option Addr} {m l k : Nat} (h : Pl a) (hm : m ≠ l) : cut a m l k = some ⟨blk a, off a + k, none⟩ := by
  unfold cut; rw [if_neg hm]; unfold Pl at h; rw [h]; simp [add_lit, blk, off]
theorem Imp.bufSl {sz : Nat} {a : Option Addr} {n c : Nat} {cs : List Value} {Γ : List A} : Imp (buf sz a n c cs :: Γ) (pu (Sok sz a n c cs) :: sl true a cs :: Γ) := fun F w t => by
  obtain ⟨h1, sp, _, t⟩ := Sat.buf.1 t
  refine Sat.pure.2 ⟨h1, ?_⟩
  have := Imp.split true (blk a) (off a) cs sp Γ F w t
  exact Imp.drop _ _ F w (Imp.perm (.swap _ _ _) F w this)
theorem Imp.bufRo {sz : Nat} {a : Option Addr} {n c : Nat} {cs : List Value} {Γ : List A} : Imp (buf sz a n c cs :: Γ) (pu (Sok sz a n c cs) :: sl false a cs :: Γ) :=
  Imp.bufSl.trans ((Imp.freeze _ _ _ _).cons _)
/-- All the cells that are there are one's own: the slice may grow. -/
theorem Imp.bufI {sz : Nat} {a : Option Addr} {n c : Nat} {cs sp : List Value} {Γ : List A} (h : Sok sz a n c cs) (hp : Pl a ∨ c = 0) (hl : sp.length = (c - n) * sz) : Imp (cells true (blk a) (off a) (cs ++ sp) :: Γ) (buf sz a n c cs :: Γ) :=
  fun _ _ t => Sat.buf.2 ⟨h, sp, ⟨hl, hp⟩, t⟩
theorem Imp.bufFull {sz : Nat} {a : Option Addr} {n : Nat} {cs : List Value} {Γ : List A} (h : Sok sz a n n cs) (hp : Pl a ∨ n = 0) : Imp (cells true (blk a) (off a) cs :: Γ) (buf sz a n n cs :: Γ) := by
  have := Imp.bufI (Γ := Γ) (sp := []) h hp (by simp)
  rwa [List.append_nil] at this
/-- A new slice literal, owned whole. -/
theorem Imp.bufNew {sz b n : Nat} {cs : List Value} {Γ : List A} (h : cs.length = n * sz) : Imp (cells true b 0 cs :: Γ) (buf sz (some ⟨b, 0, none⟩) n n cs :: Γ) :=
  Imp.bufFull (a := some ⟨b, 0, none⟩) ⟨h, Nat.le_refl _, .inr (Pl.mk _ _)⟩ (.inl (Pl.mk _ _))
theorem Imp.bufNil {sz : Nat} {Γ : List A} : Imp Γ (buf sz none 0 0 [] :: Γ) := fun F w t => Sat.buf.2 ⟨⟨by simp, Nat.le_refl _, .inl rfl⟩, [], ⟨by simp, .inr rfl⟩, by
  obtain ⟨h, q, m⟩ := t; exact ⟨h, ⟨_, h, join_empty h, cells_nil _ _ _ _, q⟩, m⟩⟩
theorem Imp.slEmpty {p : Bool} {a : Option Addr} {Γ : List A} : Imp Γ (sl p a [] :: Γ) := fun F w t => by
  obtain ⟨h, q, m⟩ := t; exact ⟨h, ⟨_, h, join_empty h, cells_nil _ _ _ _, q⟩, m⟩
end
end Go.Sl
/- Separation logic over the model's code: slices cut at their ends, predicates packed. -/
namespace Go.Sl
open Go Go.RowKit
section
variable {P : Program} {n : Nat} {s : St} {Γ Δ Θ : List A} {d : Option Tmp} {ty : TypeId} {pos : String} {af : Array Edge} {g : Option (Nat × Bool)} {v u : Value} {x y z : Operand} {T : TypeId}

theorem Sok.none0 {sz : Nat} {a : Option Addr} {n c : Nat} {cs : List Value} (h : Sok sz a n c cs) (hz : 0 < sz) : a = none → n = 0 := by
  intro e
  rcases Nat.eq_zero_or_pos n with h0 | h0
  · exact h0
  · have := h.at h0 hz; rw [e] at this; simp at this
/-- x[lo:], something left of the room. -/
theorem q_sliceLo {el sz : Nat} {a : Option Addr} {m c l : Nat} {lo : Operand} {k : IntKind} (hT : slB P T = some (el, sz)) (hx : ev s x = some (.slice a m c)) (hl : ev s lo = some (.int k (l : Int))) (ha : Pl a) (h1 : l ≤ m) (h2 : m ≤ c) (h3 : l < c) :
    Q1 P ⟨d, .slice T x (some lo) none none, ty, pos, af, g⟩ s Γ (.slice (some ⟨blk a, off a + l * sz, none⟩) (m - l) (c - l)) := by
  have := q_slice (P := P) (lo := some lo) (d := d) (ty := ty) (pos := pos) (af := af) (g := g) (Γ := Γ) (l := some (l : Int)) (h := none) (m := none) (hi := none) (mx := none) hT hx (by simp [optV, hl]) rfl rfl (by simp) (by simp; omega) (by simp; omega) (by simp) (by simp)
  simp only [Option.getD_none, Option.getD_some, Int.toNat_natCast] at this
  rwa [cut_pl ha (by omega)] at this
/-- x[lo:], of any slice. -/
theorem q_sliceLoC {el sz : Nat} {a : Option Addr} {m c l : Nat} {lo : Operand} {k : IntKind} (hT : slB P T = some (el, sz)) (hx : ev s x = some (.slice a m c)) (hl : ev s lo = some (.int k (l : Int))) (h1 : l ≤ m) (h2 : m ≤ c) :
    Q1 P ⟨d, .slice T x (some lo) none none, ty, pos, af, g⟩ s Γ (.slice (cut a c l (l * sz)) (m - l) (c - l)) := by
  have := q_slice (P := P) (lo := some lo) (d := d) (ty := ty) (pos := pos) (af := af) (g := g) (Γ := Γ) (l := some (l : Int)) (h := none) (m := none) (hi := none) (mx := none) hT hx (by simp [optV, hl]) rfl rfl (by simp) (by simp; omega) (by simp; omega) (by simp) (by simp)
  simpa only [Option.getD_none, Option.getD_some, Int.toNat_natCast] using this
/-- x[:hi] -/
theorem q_sliceHi {el sz : Nat} {a : Option Addr} {m c j : Nat} {hi : Operand} {k : IntKind} (hT : slB P T = some (el, sz)) (hx : ev s x = some (.slice a m c)) (hh : ev s hi = some (.int k (j : Int))) (h1 : j ≤ c) :
    Q1 P ⟨d, .slice T x none (some hi) none, ty, pos, af, g⟩ s Γ (.slice a j c) := by
  have := q_slice (P := P) (hi := some hi) (d := d) (ty := ty) (pos := pos) (af := af) (g := g) (Γ := Γ) (l := none) (h := some (j : Int)) (m := none) (lo := none) (mx := none) hT hx rfl (by simp [optV, hh]) rfl (by simp) (by simp) (by simp; omega) (by simp) (by simp)
  simp only [Option.getD_none, Option.getD_some, Int.toNat_natCast, Int.toNat_zero, Nat.zero_mul, Nat.sub_zero] at this
  rwa [cut_zero] at this
/-- x[:hi:mx] -/
theorem q_sliceHiM {el sz : Nat} {a : Option Addr} {m c j r : Nat} {hi mx : Operand} {k k' : IntKind} (hT : slB P T = some (el, sz)) (hx : ev s x = some (.slice a m c)) (hh : ev s hi = some (.int k (j : Int))) (hm : ev s mx = some (.int k' (r : Int))) (h1 : j ≤ r) (h2 : r ≤ c) :
    Q1 P ⟨d, .slice T x none (some hi) (some mx), ty, pos, af, g⟩ s Γ (.slice a j r) := by
  have := q_slice (P := P) (hi := some hi) (mx := some mx) (d := d) (ty := ty) (pos := pos) (af := af) (g := g) (Γ := Γ) (l := none) (h := some (j : Int)) (m := some (r : Int)) (lo := none) hT hx rfl (by simp [optV, hh]) (by simp [optV, hm]) (by simp) (by simp) (by simp; omega) (by simp; omega) (by simp)
  simp only [Option.getD_none, Option.getD_some, Int.toNat_natCast, Int.toNat_zero, Nat.zero_mul, Nat.sub_zero] at this
  rwa [cut_zero] at this
/-- x[lo:hi], of any slice. -/
theorem q_sliceLH {el sz : Nat} {a : Option Addr} {m c l j : Nat} {lo hi : Operand} {k k' : IntKind} (hT : slB P T = some (el, sz)) (hx : ev s x = some (.slice a m c)) (hl : ev s lo = some (.int k (l : Int))) (hh : ev s hi = some (.int k' (j : Int))) (h1 : l ≤ j) (h2 : j ≤ c) :
    Q1 P ⟨d, .slice T x (some lo) (some hi) none, ty, pos, af, g⟩ s Γ (.slice (cut a c l (l * sz)) (j - l) (c - l)) := by
  have := q_slice (P := P) (lo := some lo) (hi := some hi) (d := d) (ty := ty) (pos := pos) (af := af) (g := g) (Γ := Γ) (l := some (l : Int)) (h := some (j : Int)) (m := none) (mx := none) hT hx (by simp [optV, hl]) (by simp [optV, hh]) rfl (by simp) (by simp; omega) (by simp; omega) (by simp) (by simp)
  simpa only [Option.getD_none, Option.getD_some, Int.toNat_natCast] using this
variable {Q : Exit → St → List A → Prop} {ops : Array Oper} {K : St → List A → Prop} {f : Nat} {lk : SLocks} {listed : Array Bool}
/-- A slice of one's own, kept for reading alone. -/
theorem WPC.bufRo {c : Code} {sz m k : Nat} {a : Option Addr} {cs : List Value} (h : Sok sz a m k cs → WPC P n c s (sl false a cs :: Γ) Q) : WPC P n c s (buf sz a m k cs :: Γ) Q := WPC.imp Imp.bufRo (WPC.pure h)
theorem WPL.bufRo {l : List Oper} {sz m k : Nat} {a : Option Addr} {cs : List Value} (h : Sok sz a m k cs → WPL P n ops l s (sl false a cs :: Γ) K) : WPL P n ops l s (buf sz a m k cs :: Γ) K := WPL.imp Imp.bufRo (WPL.pure h)
theorem WPA.bufRo {sz m k : Nat} {a : Option Addr} {cs : List Value} (h : Sok sz a m k cs → WPA P n ops f lk listed s (sl false a cs :: Γ) K) : WPA P n ops f lk listed s (buf sz a m k cs :: Γ) K := WPA.imp Imp.bufRo (WPA.pure h)
theorem WPC.bufSl {c : Code} {sz m k : Nat} {a : Option Addr} {cs : List Value} (h : Sok sz a m k cs → WPC P n c s (sl true a cs :: Γ) Q) : WPC P n c s (buf sz a m k cs :: Γ) Q := WPC.imp Imp.bufSl (WPC.pure h)
theorem WPL.bufSl {l : List Oper} {sz m k : Nat} {a : Option Addr} {cs : List Value} (h : Sok sz a m k cs → WPL P n ops l s (sl true a cs :: Γ) K) : WPL P n ops l s (buf sz a m k cs :: Γ) K := WPL.imp Imp.bufSl (WPL.pure h)
theorem WPA.bufSl {sz m k : Nat} {a : Option Addr} {cs : List Value} (h : Sok sz a m k cs → WPA P n ops f lk listed s (sl true a cs :: Γ) K) : WPA P n ops f lk listed s (buf sz a m k cs :: Γ) K := WPA.imp Imp.bufSl (WPA.pure h)
theorem WPL.putS {l : List Oper} {ds : List Deferred} {env : List (Nat × Value)} {d : Nat} {v : Value} (h : WPL P n ops l ⟨ds, (d, v) :: env⟩ Γ K) : WPL P n ops l (St.put ⟨ds, env⟩ (some d) v) Γ K := h
theorem WPL.putN {l : List Oper} {v : Value} (h : WPL P n ops l s Γ K) : WPL P n ops l (St.put s none v) Γ K := h
theorem WPA.putS {ds : List Deferred} {env : List (Nat × Value)} {d : Nat} {v : Value} (h : WPA P n ops f lk listed ⟨ds, (d, v) :: env⟩ Γ K) : WPA P n ops f lk listed (St.put ⟨ds, env⟩ (some d) v) Γ K := h
theorem WPA.putN {v : Value} (h : WPA P n ops f lk listed s Γ K) : WPA P n ops f lk listed (St.put s none v) Γ K := h
theorem WPC.midS {c c' : Code} (M : List (Nat × Value) → List A → Prop) (h : WPC P n c s Γ (thenQ (fun s' Γ' => s'.ds = s.ds ∧ ∃ e Γ'', M e Γ'' ∧ SubE e s'.env ∧ Imp Γ' Γ'') Q)) (k : ∀ e Γ, M e Γ → WPC P n c' ⟨s.ds, e⟩ Γ Q) : WPC P n c s Γ (thenQ (fun s Γ => WPC P n c' s Γ Q) Q) :=
  WPC.mono h fun e s' Γ' q => by
    cases e with
    | normal => obtain ⟨hd, e, _, hM, hs, hi⟩ := q; exact WPC.imp hi (WPC.env e hs (hd ▸ k e _ hM))
    | _ => exact q
/-- A slice of one's own, opened for a while. -/
theorem WPL.bufOpen {l : List Oper} {sz m k : Nat} {a : Option Addr} {cs : List Value} (h : ∀ sp : List Value, Sok sz a m k cs → sp.length = (k - m) * sz ∧ (Pl a ∨ k = 0) → WPL P n ops l s (sl true a cs :: cells true (blk a) (off a + cs.length) sp :: Γ) K) : WPL P n ops l s (buf sz a m k cs :: Γ) K := fun F w ac o t => by
  obtain ⟨h1, sp, h2, t⟩ := Sat.buf.1 t
  exact h sp h1 h2 F w ac o (Imp.split true (blk a) (off a) cs sp Γ F w t)
theorem WPC.bufOpen {c : Code} {sz m k : Nat} {a : Option Addr} {cs : List Value} (h : ∀ sp : List Value, Sok sz a m k cs → sp.length = (k - m) * sz ∧ (Pl a ∨ k = 0) → WPC P n c s (sl true a cs :: cells true (blk a) (off a + cs.length) sp :: Γ) Q) : WPC P n c s (buf sz a m k cs :: Γ) Q := fun F w ac o t => by
  obtain ⟨h1, sp, h2, t⟩ := Sat.buf.1 t
  exact h sp h1 h2 F w ac o (Imp.split true (blk a) (off a) cs sp Γ F w t)
theorem Imp.bufClose {sz m k : Nat} {a : Option Addr} {cs sp : List Value} {Γ : List A} (h1 : Sok sz a m k cs) (h2 : sp.length = (k - m) * sz ∧ (Pl a ∨ k = 0)) : Imp (sl true a cs :: cells true (blk a) (off a + cs.length) sp :: Γ) (buf sz a m k cs :: Γ) :=
  fun F w t => Sat.buf.2 ⟨h1, sp, h2, Imp.join true (blk a) (off a) cs sp Γ F w t⟩
theorem bufSok {sz m k : Nat} {a : Option Addr} {cs : List Value} (hm : buf sz a m k cs ∈ Γ) {F : A} {w : World} (t : Sat Γ F w) : Sok sz a m k cs := by
  obtain ⟨_, t⟩ := t.mem hm
  exact (Sat.buf.1 t).1
theorem Trip.bufFact {fi : FuncId} {args : Array Value} {R : Value → List A → Prop} {sz m k : Nat} {a : Option Addr} {cs : List Value} (hm : buf sz a m k cs ∈ Γ) (h : Sok sz a m k cs → Trip P fi args Γ R) : Trip P fi args Γ R := fun F w t => h (bufSok hm t) F w t
theorem WPC.bufFact {c : Code} {sz m k : Nat} {a : Option Addr} {cs : List Value} (hm : buf sz a m k cs ∈ Γ) (h : Sok sz a m k cs → WPC P n c s Γ Q) : WPC P n c s Γ Q := fun F w ac o t => h (bufSok hm t) F w ac o t
theorem WPL.bufFact {l : List Oper} {sz m k : Nat} {a : Option Addr} {cs : List Value} (hm : buf sz a m k cs ∈ Γ) (h : Sok sz a m k cs → WPL P n ops l s Γ K) : WPL P n ops l s Γ K := fun F w ac o t => h (bufSok hm t) F w ac o t
theorem WPA.bufFact {sz m k : Nat} {a : Option Addr} {cs : List Value} (hm : buf sz a m k cs ∈ Γ) (h : Sok sz a m k cs → WPA P n ops f lk listed s Γ K) : WPA P n ops f lk listed s Γ K := fun F w0 w ac ad o t hc => h (bufSok hm t) F w0 w ac ad o t hc
theorem Rd.ofBuf {sz m k : Nat} {a : Option Addr} {cs : List Value} (hz : 0 < sz) (h : Sok sz a m k cs) (hm : buf sz a m k cs ∈ Γ) : Rd P sz Γ (.slice a m k) m cs :=
  ⟨⟨a, k, rfl⟩, h.len, fun F w t => by
    obtain ⟨_, t⟩ := t.mem hm
    obtain ⟨h1, sp, h2, t⟩ := Sat.buf.1 t
    exact run_first h1 (Imp.split true (blk a) (off a) cs sp _ F w t) (h1.none0 hz)⟩
/-- A contract's fact on a group. -/
theorem Trip.grp {k : FuncId} {args : Array Value} {L : List A} {R : Value → List A → Prop} (h : Trip P k args (L ++ Γ) R) : Trip P k args (grp L :: Γ) R := Trip.imp (fun _ _ t => Sat.grp.1 t) h
theorem WPC.grp {c : Code} {L : List A} (h : WPC P n c s (L ++ Γ) Q) : WPC P n c s (Sl.grp L :: Γ) Q := WPC.imp (fun _ _ t => Sat.grp.1 t) h
theorem WPL.grp {l : List Oper} {L : List A} (h : WPL P n ops l s (L ++ Γ) K) : WPL P n ops l s (Sl.grp L :: Γ) K := WPL.imp (fun _ _ t => Sat.grp.1 t) h
theorem WPA.grp {L : List A} (h : WPA P n ops f lk listed s (L ++ Γ) K) : WPA P n ops f lk listed s (Sl.grp L :: Γ) K := WPA.imp (fun _ _ t => Sat.grp.1 t) h
theorem Imp.mkGrp {L : List A} {Γ : List A} : Imp (L ++ Γ) (Sl.grp L :: Γ) := fun _ _ t => Sat.grp.2 t
theorem Imp.unGrp {L : List A} {Γ : List A} : Imp (Sl.grp L :: Γ) (L ++ Γ) := fun _ _ t => Sat.grp.1 t
theorem Imp.headRo {p : Bool} {b o : Nat} {xs ys : List Value} {Γ : List A} : Imp (cells p b o (xs ++ ys) :: Γ) (cells false b o xs :: Γ) := by
  refine (Imp.split p b o xs ys Γ).trans ((Imp.perm (.swap _ _ _)).trans ((Imp.drop _ _).trans ?_))
  cases p
  · exact .refl _
  · exact Imp.freeze _ _ _ _
theorem Imp.pu {φ : Prop} {Γ : List A} (h : φ) : Imp Γ (Sl.pu φ :: Γ) := fun _ _ t => Sat.pure.2 ⟨h, t⟩
end
/- Plain facts on lists. -/
theorem take_set_succ {α : Type} {xs : List α} {k : Nat} {e : α} (h : k < xs.length) : (xs.set k e).take (k + 1) = xs.take k ++ [e] := by
  rw [take_succ (e := e) (by simp [h]), List.take_set_of_le (Nat.le_refl _)]
theorem flat_snoc {α β : Type} (f : α → List β) (xs : List α) (e : α) : (xs ++ [e]).flatMap f = xs.flatMap f ++ f e := by simp [List.flatMap_append]
theorem all_eq_replicate {α : Type} {xs : List α} {n : Nat} {v : α} (hl : xs.length = n) (h : xs.take n = List.replicate n v) : xs = List.replicate n v := by
  subst hl; rwa [List.take_length] at h
theorem take_set_rep {α : Type} {xs : List α} {k : Nat} {v : α} (hk : k < xs.length) (h : xs.take k = List.replicate k v) : (xs.set k v).take (k + 1) = List.replicate (k + 1) v := by
  rw [take_set_succ hk, h, List.replicate_succ']
theorem filter_take_succ {α : Type} {xs : List α} {k : Nat} {e : α} (f : α → Bool) (h : xs[k]? = some e) : (xs.take (k + 1)).filter f = (xs.take k).filter f ++ (if f e then [e] else []) := by
  rw [take_succ h, List.filter_append]; congr 1; simp [List.filter_cons]
end Go.Sl
/- Ranges over a function: rounds, yields, the statement, the function's end with its mark. -/
namespace Go.Sl
open Go Go.RowKit
theorem setOb_eq (w : World) (b : Nat) (o : Obj) : World.putObj w b o = World.setOb w b o := rfl
/-- Code in a round's frame. -/
def WPR (P : Program) (n : Nat) (l : Nat) (c : Code) (s : St) (Γ : List A) (Q : QX) : Prop :=
  ∀ F w a, Ok n s a → Sat Γ F w → c.wpIn (Fence.wide.inRound l) 0 P (fun e a' w' => Pst n F w (Q e) a' w') a w
theorem Rows.wide {P : Program} {row : String} {args : Array Value} {w : World} {R : Value → World → Prop} {l m : Nat} (h : Rows P row args w R) : RowsIn (Fence.wide.inRound l) m P row args w R :=
  fun c cs _ => let ⟨v, w', r, s⟩ := h c cs; ⟨v, w', r, stepsIn_wide.2 s⟩
theorem Rows.wide0 {P : Program} {row : String} {args : Array Value} {w : World} {R : Value → World → Prop} {m : Nat} (h : Rows P row args w R) : RowsIn Fence.wide m P row args w R :=
  fun c cs _ => let ⟨v, w', r, s⟩ := h c cs; ⟨v, w', r, stepsIn_wide.2 s⟩
theorem Calls.wideR {P : Program} {f : FuncId} {args : Array Value} {w : World} {R : Ending → World → Prop} {l m : Nat} (h : Calls P f args w R) : CallsIn (Fence.wide.inRound l) m P f args w R :=
  (callsIn_wide (n := m)).2 h
theorem Oper.wpIn_round {P : Program} {o : Oper} {a : Act} {w : World} {next : Act → World → Prop} {Q : Exit → Act → World → Prop} {l : Nat} (hd : ∀ c, o.op ≠ .defer c) (h : o.wp P a w next Q) : o.wpIn (Fence.wide.inRound l) 0 P a w next Q := by
  refine ⟨fun _ _ => trivial, ?_⟩
  rw [show (Fence.wide.inRound l).round = some l from rfl, Oper.semAt_some l _ _ hd]
  unfold Oper.wp at h
  cases hr : (execOp a.eval o).run P w with
  | ok x w' =>
    rw [hr] at h
    cases x with
    | enter f args => exact ⟨(fun h => nomatch h), Calls.wideR h⟩
    | row row args => exact ⟨(fun h => nomatch h), Rows.wide h⟩
    | value v => exact h
    | skip => exact h
    | defer d => exact h
    | _ => exact h.elim
  | halt x w' =>
    rw [hr] at h
    cases x with
    | panic v => exact h
    | _ => exact h.elim
theorem Oper.wpIn_wide {P : Program} {o : Oper} {a : Act} {w : World} {next : Act → World → Prop} {Q : Exit → Act → World → Prop} (h : o.wp P a w next Q) : o.wpIn Fence.wide 0 P a w next Q := by
  refine ⟨fun _ _ => trivial, ?_⟩
  rw [show Fence.wide.round = none from rfl, Oper.semAt_none]
  unfold Oper.wp at h
  cases hr : (execOp a.eval o).run P w with
  | ok x w' =>
    rw [hr] at h
    cases x with
    | enter f args => exact ⟨(fun h => nomatch h), (callsIn_wide (n := 0 - 1)).2 h⟩
    | row row args => exact ⟨(fun h => nomatch h), Rows.wide0 h⟩
    | value v => exact h
    | skip => exact h
    | defer d => exact h
    | _ => exact h.elim
  | halt x w' =>
    rw [hr] at h
    cases x with
    | panic v => exact h
    | _ => exact h.elim
def plainOp (o : Oper) : Bool := match o.op with
  | .defer _ => false
  | _ => true
theorem plainOp.ne {o : Oper} (h : plainOp o = true) : ∀ c, o.op ≠ .defer c := by
  intro c e
  simp [plainOp, e] at h
def onlyN (K : Act → World → Prop) : Exit → Act → World → Prop
  | .normal, a, w => K a w
  | _, _, _ => False
theorem onlyN.lets {K : Act → World → Prop} : ¬ LetsOut (onlyN K) := fun ⟨_, _, h⟩ => h
theorem Oper.wp_onlyN {P : Program} {o : Oper} {a : Act} {w : World} {K K' : Act → World → Prop} {K0 : Act → World → Prop} {Q : Exit → Act → World → Prop} (hk : ∀ a w, K a w → K' a w) (h : o.wp P a w K (onlyN K0)) : o.wp P a w K' Q :=
  Oper.wp_mono hk (Oper.wp_monoQ (fun _ _ _ h => h.elim) (fun h => absurd h onlyN.lets) h)
theorem wpList.round {P : Program} {ops : Array Oper} {Q : Exit → Act → World → Prop} {r : Nat} : ∀ (l : List Oper) (a : Act) (w : World), l.all plainOp = true → wpList P ops (onlyN (Q .normal)) l a w → wpListIn (Fence.wide.inRound r) 0 P ops Q l a w
  | [], a, w, _, h => h
  | o :: rest, a, w, hp, h => by
    simp only [List.all_cons, Bool.and_eq_true] at hp
    simp only [wpList, wpListIn] at h ⊢
    split
    · rename_i hw
      rw [if_pos hw] at h
      refine Oper.wpIn_round (plainOp.ne hp.1) ?_
      rcases h with h | h
      · exact Oper.wp_onlyN (fun a w h => wpList.round rest a w hp.2 h) h
      · exact absurd h.2 onlyN.lets
    · rename_i hw
      rw [if_neg hw] at h
      exact ⟨fun _ _ => trivial, wpList.round rest _ _ hp.2 h⟩
/-- A part of a list of operations as everywhere; then on in the wide fence. -/
theorem wpListIn_append {P : Program} {ops : Array Oper} {Q : Exit → Act → World → Prop} {l2 : List Oper} : ∀ (l1 : List Oper) (a : Act) (w : World),
    wpList P ops (onlyN (wpListIn Fence.wide 0 P ops Q l2)) l1 a w → wpListIn Fence.wide 0 P ops Q (l1 ++ l2) a w
  | [], a, w, h => h
  | o :: rest, a, w, h => by
    simp only [wpList, wpListIn, List.cons_append] at h ⊢
    split
    · rename_i hw
      rw [if_pos hw] at h
      refine Oper.wpIn_wide ?_
      rcases h with h | h
      · exact Oper.wp_onlyN (fun a w h => wpListIn_append rest a w h) h
      · exact absurd h.2 onlyN.lets
    · rename_i hw
      rw [if_neg hw] at h
      exact ⟨fun _ _ => trivial, wpListIn_append rest _ _ h⟩
section
variable {P : Program} {n r : Nat} {s : St} {Γ Δ : List A} {Q : QX}
theorem WPR.imp {c : Code} (i : Imp Γ Δ) (h : WPR P n r c s Δ Q) : WPR P n r c s Γ Q := fun F w a o t => h F w a o (i F w t)
theorem WPR.env {c : Code} (e' : List (Nat × Value)) (hs : SubE e' s.env) (h : WPR P n r c ⟨s.ds, e'⟩ Γ Q) : WPR P n r c s Γ Q := fun F w a o t => h F w a (o.sub hs) t
theorem WPR.skip (h : Q .normal s Γ) : WPR P n r .skip s Γ Q := fun _ w _ o t => wpIn_skip ⟨s, Γ, h, o, t, .refl w⟩
theorem WPR.exit {id : Nat} (h : Q (.exit id) s Γ) : WPR P n r (.exit id) s Γ Q := fun _ w _ o t => wpIn_exit ⟨s, Γ, h, o, t, .refl w⟩
theorem WPR.seq {x y : Code} (h : WPR P n r x s Γ (thenQ (fun s Γ => WPR P n r y s Γ Q) Q)) : WPR P n r (.seq x y) s Γ Q := by
  intro F w a o t
  refine wpIn_seq (wpIn_mono (h F w a o t) fun e a' w' p => ?_)
  cases e with
  | normal =>
    obtain ⟨s', Γ', k, o', t', ad⟩ := p
    exact wpIn_mono (k F w' a' o' t') fun _ _ _ => Pst.adv ad
  | _ => exact p
theorem WPR.cond {c : Operand} {x y : Code} {b : Bool} (hc : ev s c = some (.bool b)) (ht : b = true → WPR P n r x s Γ Q) (hf : b = false → WPR P n r y s Γ Q) :
    WPR P n r (.cond c x y) s Γ Q :=
  fun F w a o t => wpIn_cond_split (o.ev c _ hc) (fun h => ht h F w a o t) (fun h => hf h F w a o t)
theorem WPR.block {id : Nat} {c : Code} (h : WPR P n r c s Γ (blockQ id Q)) : WPR P n r (.block id c) s Γ Q := by
  intro F w a o t
  refine wpIn_block (wpIn_mono (h F w a o t) fun e a' w' p => ?_)
  cases e with
  | exit id' =>
    simp only [Exit.inBlock]
    by_cases hid : id' = id
    · rw [if_pos hid]; exact p.mono fun s Γ q => (q.resolve_right (by simp [hid])).2
    · rw [if_neg hid]; exact p.mono fun s Γ q => (q.resolve_left (by simp [hid])).2
  | _ => exact p
theorem WPR.region {id : Nat} {l : List Oper} (hp : l.all plainOp = true) (h : WPL P n l.toArray l s Γ (Q .normal)) : WPR P n r (.region id l.toArray false) s Γ Q :=
  fun F w a o t => wpIn_region_lit (wpList.round _ _ _ hp (h F w a o t _ fun _ _ p => p))
/-- A list of operations of which some call yield. -/
def WPI (P : Program) (n : Nat) (ops : Array Oper) (l : List Oper) (s : St) (Γ : List A) (K : St → List A → Prop) : Prop :=
  ∀ F w a, Ok n s a → Sat Γ F w → ∀ Q : Exit → Act → World → Prop, (∀ a' w', Pst n F w K a' w' → Q .normal a' w') → wpListIn Fence.wide 0 P ops Q l a w
variable {K : St → List A → Prop} {ops : Array Oper}
theorem WPC.regionI {id : Nat} {l : List Oper} (h : WPI P n l.toArray l s Γ (Q .normal)) : WPC P n (.region id l.toArray false) s Γ Q :=
  fun F w a o t => wpIn_wide.1 (wpIn_region_lit (n := 0) (h F w a o t _ fun _ _ p => p))
theorem WPI.take {l : List Oper} (k : Nat) (h : WPL P n ops (l.take k) s Γ (fun s' Γ' => WPI P n ops (l.drop k) s' Γ' K)) : WPI P n ops l s Γ K := by
  intro F w a o t Q hq
  rw [← List.take_append_drop k l]
  refine wpListIn_append _ _ _ (h F w a o t _ fun a' w' p => ?_)
  obtain ⟨s', Γ', k', o', t', ad⟩ := p
  exact k' F w' a' o' t' Q fun a'' w'' p' => hq _ _ (p'.adv ad)
theorem WPI.all {l : List Oper} (h : WPL P n ops l s Γ K) : WPI P n ops l s Γ K := by
  intro F w a o t Q hq
  have := wpListIn_append (P := P) (ops := ops) (Q := Q) (l2 := []) l a w (h F w a o t _ fun a' w' p => hq _ _ p)
  rwa [List.append_nil] at this
theorem WPI.split {l : List Oper} (t : Nat) (b : Bool) (hv : getE s.env t = some (.bool b)) (ht : b = true → WPI P n ops l (s.put (some t) (.bool true)) Γ K) (hf : b = false → WPI P n ops l (s.put (some t) (.bool false)) Γ K) :
    WPI P n ops l s Γ K := by
  intro F w a o tt Q hq
  have h2 : ∀ c, b = c → Ok n (s.put (some t) (.bool c)) a := by
    rintro c rfl
    refine ⟨o.size, o.ds, fun i u hu => ?_⟩
    simp only [St.put, St.get, getE_cons] at hu
    by_cases e : t = i
    · subst e; simp at hu; subst hu; exact o.get _ _ hv
    · rw [if_neg e] at hu; exact o.get i u hu
  cases hb : b with
  | true => exact ht hb F w a (h2 _ hb) tt Q hq
  | false => exact hf hb F w a (h2 _ hb) tt Q hq
/-- What a call of yield does. -/
def YTrip (P : Program) (l : Nat) (args : Array Value) (Γ : List A) (R : Value → List A → Prop) : Prop :=
  ∀ F w, Sat Γ F w → YieldAt Fence.wide 0 P l args w fun e w' => ∃ v Δ, e = .returned v ∧ R v Δ ∧ Sat Δ F w' ∧ Adv w w'
theorem WPI.yield {x : Operand} {xs : List Operand} {ts : Array TypeId} {d : Nat} {ty : TypeId} {pos : String} {af : Array Edge} {g : Option (Nat × Bool)} {rest : List Oper} {l : Nat} {vs : List Value} {pre Θ : List A} {R : Value → List A → Prop}
    (hg : ∀ a : Act, Ok n s a → Region.wanted ⟨some d, .call { callee := .value x, args := xs.toArray, argTypes := ts }, ty, pos, af, g⟩ (yielded ops a.tmps) = true)
    (hx : ev s x = some (.func (.yield l) #[] #[])) (h : evs s xs = some vs) (hy : YTrip P l vs.toArray pre R) (hp : Pick Γ pre Θ) (hd : Nat.blt d n = true)
    (k : ∀ v Δ, R v Δ → WPI P n ops rest (s.put (some d) v) (Δ ++ Θ) K) : WPI P n ops (⟨some d, .call { callee := .value x, args := xs.toArray, argTypes := ts }, ty, pos, af, g⟩ :: rest) s Γ K := by
  intro F w a o t Q hq
  simp only [wpListIn]
  rw [if_pos (hg a o)]
  refine ⟨fun _ _ => trivial, ?_⟩
  rw [show Fence.wide.round = none from rfl, Oper.semAt_none]
  have e1 := o.ev.list h
  have t1 := hp.imp F w t
  obtain ⟨fn, tmps, assign, body, hrun, hR⟩ := hy (stars Θ F) w (Sat.app.1 t1)
  have hex : (execOp a.eval ⟨some d, .call { callee := .value x, args := xs.toArray, argTypes := ts }, ty, pos, af, g⟩).run P w = .ok (.round l fn tmps assign body) w := by
    simp [execOp, resolve, o.ev x _ hx, Deferred.ofValue, invoke, e1, hrun]
  rw [hex]
  refine ⟨(fun h => nomatch h), hR.mono ?_⟩
  rintro e w' ⟨v, Δ, rfl, hv, t', ad⟩
  exact k v Δ hv F w' _ (o.put (d := some d) hd v) (Sat.app.2 t') Q fun a'' w'' p' => hq _ _ (p'.adv ad)
/-- How a round's body ends. -/
def roundQ (l : Nat) (rec : Loop) (R : Value → List A → Prop) : QX
  | .normal, _, Γ => ∃ Δ, Imp Γ (objc true l (.loop { rec with state := .busy }) :: Δ) ∧ R (.bool true) (objc true l (.loop rec) :: Δ)
  | _, _, _ => False
def assignQ (P : Program) (n l : Nat) (rec : Loop) (R : Value → List A → Prop) : QX
  | .normal, s, Γ => ∃ Δ, Imp Γ (objc true l (.loop rec) :: Δ) ∧ WPR P n l rec.body s (objc true l (.loop { rec with state := .busy }) :: Δ) (roundQ l rec R)
  | _, _, _ => False
theorem loop_ne (r : Loop) : ∀ c e f, Obj.loop r ≠ .cells c e f := fun _ _ _ h => nomatch h
theorem defd_ne (r : Option (List Deferred)) : ∀ c e f, Obj.deferred r ≠ .cells c e f := fun _ _ _ h => nomatch h
theorem YTrip.round {l t : Nat} {rec : Loop} {v : Value} {env : List (Nat × Value)} {R : Value → List A → Prop} (hst : rec.state = .ready) (hpd : rec.pending = none) (hps : rec.params = #[t]) (ht : Nat.blt t n = true)
    (hok : Ok n ⟨[], env⟩ { tmps := rec.tmps, defers := [] }) (h : WPR P n l rec.assign ⟨[], (t, v) :: env⟩ (objc true l (.loop rec) :: Γ) (assignQ P n l rec R)) :
    YTrip P l #[v] (objc true l (.loop rec) :: Γ) R := by
  intro F w t0
  have hl := t0.object
  refine ⟨_, _, _, _, run_yield hl (by rw [hps]; rfl), roundIn_of_wpIn trivial ?_⟩
  have hok2 : Ok n ⟨[], (t, v) :: env⟩ { tmps := (rec.params.zip #[v]).foldl (fun tmps (t, a) => tmps.setIfInBounds t a) rec.tmps, defers := [] } := by
    have := hok.put (d := some t) ht v
    rw [hps]
    have e : Array.foldl (fun (tmps : Array Value) (x : Tmp × Value) => tmps.setIfInBounds x.1 x.2) rec.tmps (#[t].zip #[v]) = rec.tmps.setIfInBounds t v := by simp
    rw [show Array.foldl (fun (tmps : Array Value) (x : Tmp × Value) => match x with | (t, a) => tmps.setIfInBounds t a) rec.tmps (#[t].zip #[v]) = rec.tmps.setIfInBounds t v from e]
    exact this
  refine wpIn_mono (h F w _ hok2 t0) fun e a1 w1 p => ?_
  obtain ⟨s1, Γ1, k1, o1, t1, ad1⟩ := p
  cases e with
  | normal =>
    obtain ⟨Δ, i, hb⟩ := k1
    have t2 := i F w1 t1
    have hl1 := t2.object
    refine ⟨_, run_beginRound hl1 hst, ?_⟩
    rw [setOb_eq]
    have t3 := t2.setObj (loop_ne { rec with state := .busy })
    refine wpIn_mono (hb F _ a1 o1 t3) fun e2 a2 w2 p2 => ?_
    obtain ⟨s2, Γ2, k2, o2, t4, ad2⟩ := p2
    cases e2 with
    | normal =>
      obtain ⟨Δ2, i2, hR⟩ := k2
      have t5 := i2 F w2 t4
      refine ⟨_, _, run_endRound none t5.object, ?_⟩
      rw [setOb_eq]
      have e3 : ({ ({ rec with state := .busy } : Loop) with state := if (none : Option Code).isNone then .ready else .done, pending := none } : Loop) = rec := by
        cases rec; simp_all
      rw [e3]
      exact ⟨_, _, rfl, hR, t5.setObj (loop_ne rec), ad1.trans ((Adv.setOb hl1 (loop_ne _) (loop_ne _)).trans (ad2.trans (Adv.setOb t5.object (loop_ne _) (loop_ne _))))⟩
    | _ => exact k2.elim
  | _ => exact k1.elim
/-- The statement; no round leaves by a jump. -/
theorem WPC.rangeFunc {x : Operand} {ps : Array Tmp} {assign body : Code} {gf : FuncId} {lb : Array Value} {fn : Func} {c : Code} (hx : ev s x = some (.func (.func gf) #[] lb)) (hf : P.funcs[gf]? = some fn) (hb : fn.body = some c) (hn : (fn.name == "runtime.NumGoroutine") = false)
    (h : ∀ (l D : Nat) (rec : Loop), rec.state = .ready → rec.pending = none → rec.params = ps → rec.assign = assign → rec.body = body → Ok n ⟨[], s.env⟩ { tmps := rec.tmps, defers := [] } →
      Trip P gf (#[.func (.yield l) #[] #[]] ++ lb) (objc true l (.loop rec) :: Γ) (fun _ Δ => ∃ Δ', Δ = objc true l (.loop rec) :: Δ' ∧ Q .normal ⟨{ target := .collected D, args := #[] } :: s.ds, s.env⟩ (objc true D (.deferred (some [])) :: Δ'))) :
    WPC P n (.rangeFunc x ps assign body) s Γ Q := by
  intro F w a o t
  refine wpIn_wide (n := 0).1 (_root_.Go.wpIn_rangeFunc fun fid _ => ?_)
  have hg : a.eval x = .func (.func gf) #[] lb := o.ev x _ hx
  simp only [beq_eq_false_iff_ne, ne_eq] at hn
  obtain ⟨W1, hW1⟩ : ∃ W1, (w.alloc (.deferred (some []))).alloc (.loop { state := .ready, pending := none, fn := fid, tmps := a.tmps, params := ps, assign, body, defers := w.heap.size }) = W1 := ⟨_, rfl⟩
  refine ⟨w.heap.size + 1, [{ target := .collected w.heap.size, args := #[] }], W1, { target := .fn (.func gf) lb, args := #[.func (.yield (w.heap.size + 1)) #[] #[]] }, W1, gf, #[.func (.yield (w.heap.size + 1)) #[] #[]] ++ lb, W1, hW1 ▸ run_enterLoop_outer _ _ _ _ _, ?_, fun _ _ => trivial, ?_, (fun h => nomatch h), ?_⟩
  · simp only [resolve, hg]
    simp [Deferred.ofValue, hg, go_sem]
  · simp [invoke, callFunc, hf, hb, hn]
  · have t1 := t.allocObj (.deferred (some [])) (defd_ne _)
    have t2 := (t1.allocObj (.loop { state := .ready, pending := none, fn := fid, tmps := a.tmps, params := ps, assign, body, defers := w.heap.size }) (loop_ne _))
    rw [World.size_alloc, hW1] at t2
    have t3 : Sat (objc true (w.heap.size + 1) (.loop { state := .ready, pending := none, fn := fid, tmps := a.tmps, params := ps, assign, body, defers := w.heap.size }) :: Γ) (star (objc true w.heap.size (.deferred (some []))) F) _ :=
      (Imp.perm (.swap _ _ _) F _ t2).shift
    refine (callsIn_wide (n := 0 - 1)).2 ((h (w.heap.size + 1) w.heap.size { state := .ready, pending := none, fn := fid, tmps := a.tmps, params := ps, assign, body, defers := w.heap.size } rfl rfl rfl rfl rfl ⟨o.size, rfl, o.get⟩ _ _ t3).mono fun e w' q => ?_)
    obtain ⟨v, Δ, rfl, ⟨Δ', rfl, hQ⟩, t4, ad⟩ := q
    refine ⟨_, _, run_endLoop t4.object (fun h => nomatch h), ?_⟩
    rw [setOb_eq]
    have t5 := Imp.drop _ _ _ _ (t4.setObj (loop_ne { ({ state := .ready, pending := none, fn := fid, tmps := a.tmps, params := ps, assign, body, defers := w.heap.size } : Loop) with state := .exhausted }))
    refine ⟨_, _, hQ, ⟨o.size, by simp [o.ds], o.get⟩, t5.unshift, ?_⟩
    exact (hW1 ▸ (Adv.alloc _ _).trans (Adv.alloc _ _) : Adv w W1).trans (ad.trans (Adv.setOb t4.object (loop_ne _) (loop_ne _)))
/-- A function that leaves with a range's mark. -/
def endRM (P : Program) (rs : List ResultVar) (R : Value → List A → Prop) : QX
  | .normal, s, Γ | .ret, s, Γ => ∃ (D : Nat) (Γ' : List A), s.ds = [{ target := .collected D, args := #[] }] ∧ Imp Γ (objc true D (.deferred (some [])) :: Γ') ∧ ∃ vs Δ, ResL P s Γ' rs vs ∧ Imp Γ' Δ ∧ R (packV vs) Δ
  | _, _, _ => False
theorem Trip.startM {f : FuncId} {fn : Func} {c : Code} {args : Array Value} {R : Value → List A → Prop} (n : Nat) (rs : List ResultVar) (e : List (Nat × Value))
    (hf : P.funcs[f]? = some fn) (hb : fn.body = some c) (hn : fn.ntmps = n) (hr : fn.results = rs.toArray) (he : ArgsOk e args) (ha : Nat.ble args.size n = true)
    (h : WPC P n c ⟨[], e⟩ Γ (endRM P rs R)) : Trip P f args Γ R := by
  intro F w t
  have ha' : args.size ≤ n := by simpa using ha
  refine (callsIn_wide (n := 0)).1 (callsIn_of_wp_marks hf hb trivial (wpIn_wide.2 (wp_mono (h F w _ ⟨?_, rfl, fun i v hv => ?_⟩ t) fun e a' w' p => ?_)))
  · simp [hn]; omega
  · have := he.get hv
    have hlt := (Array.getElem?_eq_some_iff.1 this).1
    simp only
    rw [Array.getElem?_append_left hlt]; exact this
  · have fin : ∀ s Γ', (∃ (D : Nat) (Γ0 : List A), s.ds = [{ target := .collected D, args := #[] }] ∧ Imp Γ' (objc true D (.deferred (some [])) :: Γ0) ∧ ∃ vs Δ, ResL P s Γ0 rs vs ∧ Imp Γ0 Δ ∧ R (packV vs) Δ) → Ok n s a' → Sat Γ' F w' → Adv w w' →
        LeavesInM Fence.wide 0 P fn a'.tmps (fun e w' => ∃ u Δ, e = .returned u ∧ R u Δ ∧ Sat Δ F w' ∧ Adv w w') a'.defers .returning w' := by
      rintro s Γ' ⟨D, Γ0, hd, i0, vs, Δ, hv, i, hR⟩ o t ad
      rw [o.ds, hd]
      have t1 := i0 F w' t
      refine ⟨(fun h => nomatch h), .inl ⟨D, _, rfl, run_takeDeferred t1.object, ?_⟩⟩
      rw [setOb_eq]
      have t2 := Imp.drop _ _ _ _ (t1.setObj (defd_ne none))
      refine ⟨packV vs, ?_, packV vs, Δ, rfl, hR, i F _ t2, ad.trans (Adv.setOb t1.object (defd_ne _) (defd_ne _))⟩
      have := hv.run o t2
      rw [results_eq, Array.mapM_eq_mapM_toList, hr]
      simp only [Sem.run_bind, Sem.run_map, this, Result.andThen_ok]
      match vs with
      | [] => simp [packV]
      | [v] => simp [packV]
      | v :: u :: r => simp [packV]
    obtain ⟨s, Δ, k, o, t, ad⟩ := p
    cases e with
    | normal => exact fin s Δ k o t ad
    | ret => exact fin s Δ k o t ad
    | _ => exact k.elim
theorem endRM_r {rs : List ResultVar} {R : Value → List A → Prop} {vs : List Value} {D : Nat} {Γ' : List A} (hd : s.ds = [{ target := .collected D, args := #[] }]) (i0 : Imp Γ (objc true D (.deferred (some [])) :: Γ')) (h : ResL P s Γ' rs vs) (i : Imp Γ' Δ) (r : R (packV vs) Δ) : endRM P rs R .ret s Γ := ⟨D, Γ', hd, i0, vs, Δ, h, i, r⟩
end
end Go.Sl
/- An append of zeros, cap, bytes to a string, byte slices that are only read. -/
namespace Go.Sl
open Go Go.RowKit
section
variable {P : Program} {n : Nat} {s : St} {Γ Δ Θ : List A} {d : Option Tmp} {ty : TypeId} {pos : String} {af : Array Edge} {g : Option (Nat × Bool)} {v u : Value} {x y z : Operand} {T : TypeId}
theorem e_grow {zs : List Value} {by_ m : Nat} {TI : TypeId} {q : IntKind} (hT : mkB P T = some (zs, by_)) (hI : P.underlying TI = some (.int q)) (hz : 0 < zs.length) (hx : ev s x = some (.slice none 0 0)) (hy : ev s y = some (.int .i64 (m : Int))) (hm : 0 < m) (h63 : m ≤ 4611686018427387904) (hfit : m * by_ ≤ 140737488355328) :
    E1 P ⟨d, .call { callee := .builtin .append, args := #[x, y], argTypes := #[T, TI] }, ty, pos, af, g⟩ s Γ (fun v Δ => ∃ b c, v = .slice (some ⟨b, 0, none⟩) m c ∧ m ≤ c ∧ Δ = buf zs.length (some ⟨b, 0, none⟩) 0 c [] :: Γ) := fun F w ρ ee t => by
  obtain ⟨e, i, zv, h4, h5, h6, h6', h7, h8, rfl⟩ := mkB_of hT
  have hrun : ∀ r, (Builtin.append_ #[T, TI] ty #[.slice none 0 0, .int .i64 (m : Int)]).run P w = r → (execOp ρ ⟨d, .call { callee := .builtin .append, args := #[x, y], argTypes := #[T, TI] }, ty, pos, af, g⟩).run P w = r.andThen fun v w' => .ok (.value v) w' := by
    rintro r rfl
    simp [execOp, resolve, invoke, builtin, ee _ _ hx, ee _ _ hy]
  have wm : IntKind.i64.wrap (m : Int) = m := wrap_i64 (by omega) (by omega)
  have hb : ¬ (281474976710656 < (m : Int) * (i.bytes : Int)) := by
    have : (m : Int) * (i.bytes : Int) = ((m * i.bytes : Nat) : Int) := by simp
    rw [this]; omega
  have hn : ¬ (m ≤ 0) := by omega
  have hn2 : ¬ (m = 0) := by omega
  have h63' : ¬ (9223372036854775807 < (m : Int)) := by omega
  have h48 := growslice_fits (need := m) (old := 0) (bytes := i.bytes) (by omega) hfit
  have h48' : ¬ (281474976710656 < Builtin.nextslicecap m 0 * i.bytes) := by omega
  have hzs : zv.cells.size = i.size := by rw [h8, h7]
  have hr : (Builtin.append_ #[T, TI] ty #[.slice none 0 0, .int .i64 (m : Int)]).run P w = .ok (.slice (some ⟨w.heap.size, 0, none⟩) m (grownCap w m 0 e))
      (w.drew.alloc (.cells (#[] ++ Builtin.zeroCells zv.cells m ++ Builtin.zeroCells zv.cells (grownCap w m 0 e - m)) e)) := by
    have hsz : i.size ≠ 0 := by rw [h7]; omega
    simp [Builtin.append_, run_underlying h4, run_underlying hI, sizeOf, typeInfo, zeroValue, h5, h6, asInt, asIntOf, wm, hb, hn, hn2, hsz, h63', h48', Question.forced, newRow, grownCap, Builtin.firstCells]
    rw [if_neg (by omega), if_neg (by intro h; rcases Nat.mul_eq_zero.1 h with h | h <;> omega)]
  have hge := grownCap_ge w m 0 e
  refine ⟨_, _, _, by rw [hrun _ hr]; rfl, ⟨_, _, rfl, hge, rfl⟩, Sat.buf.2 ⟨⟨by simp, Nat.zero_le _, .inl rfl⟩, (Builtin.zeroCells zv.cells m ++ Builtin.zeroCells zv.cells (grownCap w m 0 e - m)).toList, ⟨?_, .inl (Pl.mk _ _)⟩, ?_⟩, (Adv.drew w).trans (.alloc _ _)⟩
  · rw [Array.length_toList, Array.size_append, size_zeroCells, size_zeroCells, h8, ← Nat.add_mul]; congr 1; omega
  · have := t.drew.alloc (#[] ++ Builtin.zeroCells zv.cells m ++ Builtin.zeroCells zv.cells (grownCap w m 0 e - m)) e
    simp only [List.append_nil, List.nil_append, Array.append_assoc, Array.empty_append] at this ⊢
    exact this
theorem q_cap {a : Option Addr} {m c : Nat} {ts : Array TypeId} {e : TypeId} (ht : ts[0]? = some T) (hT : P.underlying T = some (.slice e)) (hx : ev s x = some (.slice a m c)) :
    Q1 P ⟨d, .call { callee := .builtin .cap, args := #[x], argTypes := ts }, ty, pos, af, g⟩ s Γ (.int .i64 c) := fun _ _ _ e _ => by
  simp [execOp, resolve, invoke, builtin, Builtin.cap_, ht, underlying, hT, e _ _ hx, goInt]
theorem wrap_nat {k : IntKind} {x : Nat} (hs : k.signed = false) (h : x < 2 ^ k.bits) : k.wrap (x : Int) = x := by
  cases k <;> simp [IntKind.signed] at hs <;> (unfold IntKind.wrap; simp [IntKind.bits, IntKind.signed] at h ⊢; omega)
theorem ofInt_nat (w a : Nat) : BitVec.ofInt w (a : Int) = BitVec.ofNat w a := by
  apply BitVec.eq_of_toNat_eq
  simp
theorem q_xorN {T' : TypeId} {k : IntKind} {a b : Nat} (hs : k.signed = false) (hx : ev s x = some (.int k (a : Int))) (hy : ev s y = some (.int k (b : Int))) (ha : a < 2 ^ k.bits) (hb : b < 2 ^ k.bits) :
    Q1 P ⟨d, .binOp .xor T x y T', ty, pos, af, g⟩ s Γ (.int k ((a ^^^ b : Nat) : Int)) := q_bits hx hy (by simp) fun w => by
  have h : (BitVec.ofNat k.bits a ^^^ BitVec.ofNat k.bits b).toNat = a ^^^ b := by simp [Nat.mod_eq_of_lt ha, Nat.mod_eq_of_lt hb]
  simp [Op.intBits, ofInt_nat, h, Nat.mod_eq_of_lt ha, Nat.mod_eq_of_lt hb, wrap_nat hs (Nat.xor_lt_two_pow ha hb)]
theorem q_orN {T' : TypeId} {k : IntKind} {a b : Nat} (hs : k.signed = false) (hx : ev s x = some (.int k (a : Int))) (hy : ev s y = some (.int k (b : Int))) (ha : a < 2 ^ k.bits) (hb : b < 2 ^ k.bits) :
    Q1 P ⟨d, .binOp .or T x y T', ty, pos, af, g⟩ s Γ (.int k ((a ||| b : Nat) : Int)) := q_bits hx hy (by simp) fun w => by
  simp [Op.intBits, ofInt_nat, Nat.mod_eq_of_lt ha, Nat.mod_eq_of_lt hb, wrap_nat hs (Nat.or_lt_two_pow ha hb)]
theorem q_andN {T' : TypeId} {k : IntKind} {a b : Nat} (hs : k.signed = false) (hx : ev s x = some (.int k (a : Int))) (hy : ev s y = some (.int k (b : Int))) (ha : a < 2 ^ k.bits) (hb : b < 2 ^ k.bits) :
    Q1 P ⟨d, .binOp .and T x y T', ty, pos, af, g⟩ s Γ (.int k ((a &&& b : Nat) : Int)) := q_bits hx hy (by simp) fun w => by
  simp [Op.intBits, ofInt_nat, Nat.mod_eq_of_lt ha, Nat.mod_eq_of_lt hb, wrap_nat hs (Nat.and_lt_two_pow _ hb)]
theorem q_comN {k : IntKind} {a : Nat} (hs : k.signed = false) (hx : ev s x = some (.int k (a : Int))) (ha : a < 2 ^ k.bits) :
    Q1 P ⟨d, .unOp .xor T x, ty, pos, af, g⟩ s Γ (.int k ((2 ^ k.bits - 1) ^^^ a : Nat)) := q_com hx fun w => by
  have hm : k.max = ((2 ^ k.bits - 1 : Nat) : Int) := by cases k <;> simp [IntKind.signed] at hs <;> simp [IntKind.max, IntKind.bits, IntKind.signed]
  have hp : 0 < 2 ^ k.bits := Nat.two_pow_pos _
  have hb : 2 ^ k.bits - 1 < 2 ^ k.bits := by omega
  rw [hs, hm]
  simp [Op.intBits, ofInt_nat, Nat.mod_eq_of_lt ha, Nat.mod_eq_of_lt hb, wrap_nat hs (Nat.xor_lt_two_pow hb ha)]
theorem q_shrN {T' : TypeId} {k k' : IntKind} {a b : Nat} (hx : ev s x = some (.int k (a : Int))) (hy : ev s y = some (.int k' (b : Int))) (hb : b < k.bits) :
    Q1 P ⟨d, .binOp .shr T x y T', ty, pos, af, g⟩ s Γ (.int k ((a / 2 ^ b : Nat) : Int)) := by
  have := q_shr (P := P) (Γ := Γ) (d := d) (ty := ty) (pos := pos) (af := af) (g := g) (T := T) (T' := T') hx hy (by omega)
  rw [show (a : Int).fdiv (2 ^ min ((b : Int)).toNat k.bits) = ((a / 2 ^ b : Nat) : Int) by
    rw [Int.toNat_natCast, Nat.min_eq_left (by omega), Int.fdiv_eq_ediv_of_nonneg _ (by exact Int.le_of_lt (Int.pow_pos (by omega)))]
    simp] at this
  exact this
theorem q_mulN {T' : TypeId} {a b : Nat} (hx : ev s x = some (.int .i64 (a : Int))) (hy : ev s y = some (.int .i64 (b : Int))) (h : a * b < 9223372036854775808) :
    Q1 P ⟨d, .binOp .mul T x y T', ty, pos, af, g⟩ s Γ (.int .i64 ((a * b : Nat) : Int)) := by
  have e : ((a * b : Nat) : Int) = (a : Int) * (b : Int) := by simp
  have := q_mulI (P := P) (Γ := Γ) (d := d) (ty := ty) (pos := pos) (af := af) (g := g) (T := T) (T' := T') hx hy (by omega)
  rw [e]
  exact this
theorem q_addN {T' : TypeId} {a b : Nat} (hx : ev s x = some (.int .i64 (a : Int))) (hy : ev s y = some (.int .i64 (b : Int))) (h : a + b < 9223372036854775808) :
    Q1 P ⟨d, .binOp .add T x y T', ty, pos, af, g⟩ s Γ (.int .i64 ((a + b : Nat) : Int)) := by
  have := q_addI (P := P) (Γ := Γ) (d := d) (ty := ty) (pos := pos) (af := af) (g := g) (T := T) (T' := T') hx hy (by omega)
  rw [show ((a + b : Nat) : Int) = (a : Int) + (b : Int) by simp]
  exact this
theorem wrap8 (a : Nat) : IntKind.u8.wrap (a : Int) = ((a % 256 : Nat) : Int) := by unfold IntKind.wrap; simp [IntKind.bits, IntKind.signed]
theorem wrap32 (a : Nat) : IntKind.u32.wrap (a : Int) = ((a % 4294967296 : Nat) : Int) := by unfold IntKind.wrap; simp [IntKind.bits, IntKind.signed]
theorem q_add32 {T' : TypeId} {a b : Nat} (hx : ev s x = some (.int .u32 (a : Int))) (hy : ev s y = some (.int .u32 (b : Int))) : Q1 P ⟨d, .binOp .add T x y T', ty, pos, af, g⟩ s Γ (.int .u32 (((a + b) % 4294967296 : Nat) : Int)) := by
  have h := q_int (P := P) (Γ := Γ) (d := d) (ty := ty) (pos := pos) (af := af) (g := g) (T := T) (T' := T') (op := .add) hx hy rfl
  rw [← wrap32]
  rw [show ((a + b : Nat) : Int) = (a : Int) + (b : Int) by simp]
  exact h
theorem q_remNN {T' : TypeId} {k : IntKind} {a b : Nat} (hx : ev s x = some (.int k (a : Int))) (hy : ev s y = some (.int k (b : Int))) (hb : 0 < b) : Q1 P ⟨d, .binOp .rem T x y T', ty, pos, af, g⟩ s Γ (.int k ((a % b : Nat) : Int)) := by
  have h := q_remN (P := P) (Γ := Γ) (d := d) (ty := ty) (pos := pos) (af := af) (g := g) (T := T) (T' := T') hx hy (by omega)
  rw [show ((a % b : Nat) : Int) = (a : Int) % (b : Int) by simp]
  exact h
theorem q_addUN {T' : TypeId} {a b : Nat} (hx : ev s x = some (.int .u64 (a : Int))) (hy : ev s y = some (.int .u64 (b : Int))) (h : a + b < 18446744073709551616) : Q1 P ⟨d, .binOp .add T x y T', ty, pos, af, g⟩ s Γ (.int .u64 ((a + b : Nat) : Int)) := by
  have := q_addU (P := P) (Γ := Γ) (d := d) (ty := ty) (pos := pos) (af := af) (g := g) (T := T) (T' := T') hx hy (by omega)
  rw [show ((a + b : Nat) : Int) = (a : Int) + (b : Int) by simp]
  exact this
theorem q_decN {T' : TypeId} {k : Nat} (hx : ev s x = some (.int .i64 (k : Int))) (hy : ev s y = some (.int .i64 1)) (h0 : 0 < k) (hk : k < 4611686018427387904) : Q1 P ⟨d, .binOp .sub T x y T', ty, pos, af, g⟩ s Γ (.int .i64 ((k - 1 : Nat) : Int)) := by
  rw [show ((k - 1 : Nat) : Int) = (k : Int) - 1 by omega]
  exact q_subI hx hy (by omega)
theorem q_conv8 {T' : TypeId} {k : IntKind} {a : Nat} (h1 : intB P T = some k) (h2 : intB P T' = some .u8) (hx : ev s x = some (.int k (a : Int))) : Q1 P ⟨d, .convert T T' x, ty, pos, af, g⟩ s Γ (.int .u8 ((a % 256 : Nat) : Int)) := by
  have := q_conv (P := P) (Γ := Γ) (d := d) (ty := ty) (pos := pos) (af := af) (g := g) h1 h2 hx
  rwa [wrap8] at this
theorem q_shlN {T' : TypeId} {k k' : IntKind} {a b : Nat} (hs : k.signed = false) (hx : ev s x = some (.int k (a : Int))) (hy : ev s y = some (.int k' (b : Int))) (hb : b < k.bits) (h : a * 2 ^ b < 2 ^ k.bits) :
    Q1 P ⟨d, .binOp .shl T x y T', ty, pos, af, g⟩ s Γ (.int k ((a * 2 ^ b : Nat) : Int)) := by
  have := q_shl (P := P) (Γ := Γ) (d := d) (ty := ty) (pos := pos) (af := af) (g := g) (T := T) (T' := T') hx hy (by omega)
  rw [show k.wrap ((a : Int) * 2 ^ min ((b : Int)).toNat k.bits) = ((a * 2 ^ b : Nat) : Int) by
    rw [Int.toNat_natCast, Nat.min_eq_left (by omega), ← wrap_nat hs h]
    simp] at this
  exact this
end
/-- A byte. -/
abbrev By := Fin 256
abbrev u8 (b : By) : Value := .int .u8 ((b.val : Nat) : Int)
theorem u8_one (l : List By) : ∀ q ∈ l.map u8, q.oneCell' = true := by
  intro q hq
  obtain ⟨b, -, rfl⟩ := List.mem_map.1 hq
  rfl
/-- Bytes of which one knows where they lie. -/
structure BS where
  bs : List By
  a : Option Addr
  n : Nat
  c : Nat
abbrev bsV (x : BS) : Value := .slice x.a x.n x.c
def BS.ok (x : BS) : Prop := Sok 1 x.a x.n x.c (x.bs.map u8)
theorem BS.ok.n {x : BS} (h : x.ok) : x.n = x.bs.length := by have := h.len; simp at this; omega
abbrev BS.at_ (x : BS) : A := sl false x.a (x.bs.map u8)
/-- They can all be read. -/
def bytes (xs : List BS) : A := grp (xs.map BS.at_)
theorem Pers.bytes (xs : List BS) : Pers (bytes xs) := Pers.grp fun c hc => by
  obtain ⟨x, -, rfl⟩ := List.mem_map.1 hc
  exact Pers.cells _ _ _
theorem bytes_nil {Γ : List A} : Imp Γ (bytes [] :: Γ) := fun _ _ t => Sat.grp.2 t
theorem bytes_one {xs : List BS} {x : BS} (h : x ∈ xs) {Γ : List A} : Imp (bytes xs :: Γ) (x.at_ :: bytes xs :: Γ) := fun F w t => by
  have t2 := Sat.dup (Pers.bytes xs) t
  have t3 := Sat.grp.1 t2
  obtain ⟨l1, l2, rfl⟩ := List.append_of_mem h
  rw [List.map_append, List.map_cons] at t3
  have t4 := Imp.perm (show ((l1.map BS.at_ ++ x.at_ :: l2.map BS.at_) ++ bytes (l1 ++ x :: l2) :: Γ).Perm ((l1.map BS.at_ ++ l2.map BS.at_) ++ (x.at_ :: bytes (l1 ++ x :: l2) :: Γ)) by
    rw [List.append_assoc, List.append_assoc, List.cons_append]
    refine List.Perm.append_left _ ?_
    exact (List.perm_middle (l₁ := l2.map BS.at_) (a := x.at_) (l₂ := bytes (l1 ++ x :: l2) :: Γ)).symm) F w t3
  have drop : ∀ (L : List A) (Γ : List A), Imp (L ++ Γ) Γ := fun L => by
    induction L with
    | nil => exact fun Γ => Imp.refl _
    | cons c L ih => exact fun Γ => (Imp.drop _ _).trans (ih Γ)
  exact drop _ _ F w t4
theorem bytes_snoc {xs : List BS} {x : BS} {Γ : List A} : Imp (x.at_ :: bytes xs :: Γ) (bytes (xs ++ [x]) :: Γ) := fun F w t => by
  have t1 := Imp.cons x.at_ (fun F w t => Sat.grp.1 t) F w t
  refine Sat.grp.2 (Imp.perm ?_ F w t1)
  rw [List.map_append, List.append_assoc]
  exact (List.perm_middle (l₁ := xs.map BS.at_) (a := x.at_) (l₂ := Γ)).symm
theorem bytes_sub {xs ys : List BS} {Γ : List A} (h : ∀ y ∈ ys, y ∈ xs) : Imp (bytes xs :: Γ) (bytes ys :: bytes xs :: Γ) := by
  induction ys with
  | nil => exact bytes_nil
  | cons y ys ih =>
    refine (ih fun z hz => h z (List.mem_cons_of_mem _ hz)).trans ?_
    refine (Imp.perm (.swap _ _ _)).trans ((bytes_one (h y (List.mem_cons_self ..))).trans ?_)
    refine (Imp.perm (show (y.at_ :: bytes xs :: bytes ys :: Γ).Perm (y.at_ :: bytes ys :: bytes xs :: Γ) from (List.Perm.swap _ _ _).cons _)).trans ?_
    exact fun F w t => Sat.grp.2 (Imp.cons y.at_ (fun F w t => Sat.grp.1 t) F w t)
end Go.Sl
