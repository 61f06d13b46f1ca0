/- Separation logic over the model's code: regions that draw the order of their operations. What only reads is taken as early as may be; what it read must not change till it surely has been done. -/
import Derived.Test.YtdbpjcplmfkgaaaDoorSlE
namespace Go.Sl
open Go Go.RowKit

/-- Nothing but what is said of the ordinary end. -/
def QN (R : Act → World → Prop) : Exit → Act → World → Prop
  | .normal, a, w => R a w
  | _, _, _ => False
theorem QN.lets {R : Act → World → Prop} : ¬ LetsOut (QN R) := fun ⟨_, _, h⟩ => h

/-- Operation i stands before operation j, by the edges that always bind. -/
def ancB (ops : Array Oper) : Nat → Nat → Nat → Bool
  | 0, _, _ => false
  | f + 1, j, i => match ops[j]? with
    | none => false
    | some o => o.after.toList.any fun e => Region.binds .any e && (Nat.beq e.on i || ancB ops f e.on i)
abbrev anc (ops : Array Oper) (j i : Nat) : Bool := ancB ops ops.size j i

def Closed (ops : Array Oper) (listed : Array Bool) : Prop := ∀ j o, listed.getD j false = true → ops[j]? = some o → ∀ e ∈ o.after, Region.binds .any e = true → listed.getD e.on false = true
theorem Closed.ready {ops : Array Oper} {listed : Array Bool} (hc : Closed ops listed) {j : Nat} (hj : j ∈ Region.ready .any ops listed) {i : Nat} : ∀ f, ancB ops f j i = true → listed.getD i false = true := by
  have key : ∀ f j, (∀ o, ops[j]? = some o → ∀ e ∈ o.after, Region.binds .any e = true → listed.getD e.on false = true) → ancB ops f j i = true → listed.getD i false = true := by
    intro f
    induction f with
    | zero => intro j _ h; cases h
    | succ f ih =>
      intro j hp h
      simp only [ancB] at h
      cases ho : ops[j]? with
      | none => rw [ho] at h; cases h
      | some o =>
        rw [ho] at h
        simp only [List.any_eq_true, Bool.and_eq_true, Bool.or_eq_true] at h
        obtain ⟨e, he, hb, h⟩ := h
        have he := Array.mem_toList_iff.1 he
        have hl := hp o ho e he hb
        rcases h with h | h
        · rw [← Nat.eq_of_beq_eq_true h]; exact hl
        · exact ih e.on (fun o' ho' e' he' hb' => hc e.on o' hl ho' e' he' hb') h
  intro f
  obtain ⟨_, o, ho, hp⟩ := mem_ready.1 hj
  exact key f j fun o' ho' => by rw [ho] at ho'; cases ho'; exact hp
theorem Closed.set {ops : Array Oper} {listed : Array Bool} (hc : Closed ops listed) {i : Nat} (hi : i ∈ Region.ready .any ops listed) : Closed ops (listed.setIfInBounds i true) := by
  obtain ⟨_, o, ho, hp⟩ := mem_ready.1 hi
  intro j o' hj ho' e he hb
  apply getD_set_true
  by_cases hij : i = j
  · subst hij; rw [ho] at ho'; cases ho'; exact hp e he hb
  · rw [getD_set_ne _ hij] at hj; exact hc j o' hj ho' e he hb
theorem ready_set {ops : Array Oper} {listed : Array Bool} {i j : Nat} (hij : i ≠ j) (hj : j ∈ Region.ready .any ops listed) : j ∈ Region.ready .any ops (listed.setIfInBounds i true) := by
  obtain ⟨h0, o, ho, hp⟩ := mem_ready.1 hj
  exact mem_ready.2 ⟨by rw [getD_set_ne _ hij]; exact h0, o, ho, fun e he hb => getD_set_true (hp e he hb)⟩

abbrev Locks := List (Nat × (World → Prop))
def wpAnyL (P : Program) (ops : Array Oper) (R : Act → World → Prop) : Nat → Locks → Array Bool → Act → World → Prop
  | 0, _, listed, a, w => Region.ready .any ops listed = [] ∧ R a w
  | f + 1, lk, listed, a, w => (Region.ready .any ops listed = [] → R a w) ∧ ∀ i ∈ Region.ready .any ops listed,
      wpOp P ops (QN R) i (fun a' w' => ∃ lk' : Locks, (∀ p ∈ lk, p ∈ lk' ∨ anc ops i p.1 = true) ∧ (∀ p ∈ lk', p.2 w') ∧ wpAnyL P ops R f lk' (listed.setIfInBounds i true) a' w') a w
section
variable {P : Program} {ops : Array Oper} {R : Act → World → Prop}
theorem wpAny_of_L : ∀ {f : Nat} {lk : Locks} {listed : Array Bool} {a : Act} {w : World}, wpAnyL P ops R f lk listed a w → wpAny P .any ops (QN R) f listed a w
  | 0, _, _, _, _, h => h
  | _ + 1, _, _, _, _, h => ⟨h.1, fun i hi => wpOp_mono (fun _ _ ⟨_, _, _, h⟩ => wpAny_of_L h) (h.2 i hi)⟩
theorem wpAnyL.weak {f : Nat} {lk lk2 : Locks} {listed : Array Bool} {a : Act} {w : World} (hs : ∀ p ∈ lk2, p ∈ lk) (h : wpAnyL P ops R f lk listed a w) : wpAnyL P ops R f lk2 listed a w := by
  cases f with
  | zero => exact h
  | succ f => exact ⟨h.1, fun i hi => wpOp_mono (fun _ _ ⟨lk', h1, h2, h3⟩ => ⟨lk', fun p hp => h1 p (hs p hp), h2, h3⟩) (h.2 i hi)⟩

/-- In this state the operation yields v in every world of the class. -/
def YC (P : Program) (ops : Array Oper) (o : Oper) (v : Value) (C : World → Prop) (a : Act) : Prop :=
  (Region.wanted o (yielded ops a.tmps) = true ∧ ∀ w, C w → (execOp a.eval o).run P w = .ok (.value v) w) ∨ (Region.wanted o (yielded ops a.tmps) = false ∧ v = undef)
theorem YC.same {o : Oper} {v : Value} {C : World → Prop} {a a' : Act} (h : YC P ops o v C a) (he : execOp a'.eval o = execOp a.eval o) (hw : Region.wanted o (yielded ops a'.tmps) = Region.wanted o (yielded ops a.tmps)) : YC P ops o v C a' := by
  unfold YC at *; rw [he, hw]; exact h
theorem YC.run {i : Nat} {o : Oper} {v : Value} {C : World → Prop} {a : Act} (hi : ops[i]? = some o) (h : YC P ops o v C a) {w : World} (hw : C w) {K : Act → World → Prop} (k : K (a.put o.dst v) w) : wpOp P ops (QN R) i K a w := by
  unfold wpOp
  simp only [hi]
  rcases h with ⟨h1, h2⟩ | ⟨h1, rfl⟩
  · simp only [h1, if_true, Oper.wp, h2 w hw, Oper.upon]; exact .inl k
  · simp only [h1, Bool.false_eq_true, if_false]; exact k
theorem wpOp_putC {j : Nat} {oi oj : Oper} {v : Value} {C : World → Prop} (hj : ops[j]? = some oj) (hap : oi.apart ops oj = true) (hsi : ∀ cs b, oi.op ≠ .select cs b) (hsj : ∀ cs b, oj.op ≠ .select cs b) {K : Act → World → Prop} {a : Act} {w : World}
    (hy : YC P ops oi v C a) (h : wpOp P ops (QN R) j K (a.put oi.dst v) w) : wpOp P ops (QN R) j (fun a' w' => YC P ops oi v C a' ∧ K (a'.put oi.dst v) w') a w := by
  obtain ⟨h1, h2, h3⟩ := Oper.apart_spec hap
  have keep : ∀ u, YC P ops oi v C (a.put oj.dst u) := fun u => hy.same (execOp_put oi hsi a oj.dst u h3) (wanted_put oi a oj.dst u h3)
  have keepD : ∀ d u, YC P ops oi v C (({ a with defers := d :: a.defers } : Act).put oj.dst u) := fun d u =>
    (hy.same (a' := { a with defers := d :: a.defers }) rfl rfl).same (execOp_put oi hsi _ oj.dst u h3) (wanted_put oi _ oj.dst u h3)
  unfold wpOp at *
  simp only [hj] at *
  rw [wanted_put oj a oi.dst v h1] at h
  split
  · rename_i hw
    simp only [hw, if_true] at h
    have h := h.resolve_right fun x => QN.lets x.2
    refine .inl ?_
    unfold Oper.wp at *
    rw [execOp_put oj hsj a oi.dst v h1] at h
    generalize (execOp a.eval oj).run P w = r at *
    cases r with
    | ok n w' =>
      cases n <;> simp only [Oper.upon] at h ⊢
      case value u => exact ⟨keep u, by rw [← Act.put_comm a v u h2]; exact h⟩
      case skip => exact ⟨keep _, by rw [← Act.put_comm a v undef h2]; exact h⟩
      case defer d =>
        refine ⟨keepD d _, ?_⟩
        rw [← Act.put_comm _ v undef h2, ← Act.put_defers]
        exact h
      case enter f args =>
        refine Calls.mono h fun e w'' he => ?_
        cases e with
        | returned u => exact ⟨keep u, by rw [← Act.put_comm a v u h2]; exact he⟩
        | panicked c => exact he.elim
        | outgrown => exact (QN.lets he).elim
      case row row args => exact Rows.mono h fun u w'' he => ⟨keep u, by rw [← Act.put_comm a v u h2]; exact he⟩
    | halt x w' => cases x <;> simp only [Oper.upon] at h ⊢ <;> exact h.elim
  · rename_i hw
    simp only [hw] at h
    exact ⟨keep _, by rw [← Act.put_comm a v undef h2]; exact h⟩

/-- What may be asked of all that is still to be done, for an operation to be taken first. -/
def takeB (ops : Array Oper) (listed : Array Bool) (i : Nat) (o : Oper) : Bool :=
  (List.range ops.size).all fun j => match ops[j]? with
    | none => true
    | some oj => Nat.beq j i || listed.getD j true || anc ops j i || o.apart ops oj
def noSel (ops : Array Oper) : Bool := ops.toList.all fun o => match o.op with
  | .select _ _ => false
  | _ => true
theorem noSel_of (h : noSel ops = true) {j : Nat} {o : Oper} (hj : ops[j]? = some o) : ∀ cs b, o.op ≠ .select cs b := by
  intro cs b e
  have hm : o ∈ ops.toList := by rw [← Array.getElem?_toList] at hj; exact List.mem_of_getElem? hj
  have := List.all_eq_true.1 h o hm
  rw [e] at this
  cases this
theorem takeB_set {listed : Array Bool} {i k : Nat} {o : Oper} (h : takeB ops listed i o = true) : takeB ops (listed.setIfInBounds k true) i o = true := by
  unfold takeB at *
  rw [List.all_eq_true] at *
  intro j hj
  have := h j hj
  cases ho : ops[j]? with
  | none => rfl
  | some oj =>
    rw [ho] at this
    simp only [Bool.or_eq_true] at this ⊢
    rcases this with ((h | h) | h) | h
    · exact .inl (.inl (.inl h))
    · refine .inl (.inl (.inr ?_))
      by_cases e : k = j
      · subst e
        by_cases hk : k < listed.size
        · simp [hk]
        · simp [Array.getElem?_setIfInBounds, hk]
      · rw [getD_set_ne _ e]; exact h
    · exact .inl (.inr h)
    · exact .inr h
theorem wpAnyL.take {i : Nat} {o : Oper} {v : Value} {C : World → Prop} (ho : ops[i]? = some o) (hsel : noSel ops = true) : ∀ (f : Nat) (lk : Locks) (listed : Array Bool) (a : Act) (w : World), Closed ops listed → i ∈ Region.ready .any ops listed →
    takeB ops listed i o = true → YC P ops o v C a → C w → (∀ p ∈ lk, p.2 w) → wpAnyL P ops R f ((i, C) :: lk) (listed.setIfInBounds i true) (a.put o.dst v) w → wpAnyL P ops R (f + 1) lk listed a w := by
  intro f
  induction f with
  | zero =>
    intro lk listed a w hc hi ht hy hC hlk h
    refine ⟨(fun e => by rw [e] at hi; cases hi), fun j hj => ?_⟩
    by_cases hij : i = j
    · subst hij
      exact hy.run ho hC ⟨lk, fun p hp => .inl hp, hlk, h.weak fun p hp => List.mem_cons_of_mem _ hp⟩
    · have := ready_set hij hj
      rw [h.1] at this
      cases this
  | succ f ih =>
    intro lk listed a w hc hi ht hy hC hlk h
    refine ⟨(fun e => by rw [e] at hi; cases hi), fun j hj => ?_⟩
    by_cases hij : i = j
    · subst hij
      exact hy.run ho hC ⟨lk, fun p hp => .inl hp, hlk, h.weak fun p hp => List.mem_cons_of_mem _ hp⟩
    · have hj2 := ready_set hij hj
      have h' := h.2 j hj2
      obtain ⟨hj0, oj, hoj, _⟩ := mem_ready.1 hj
      have hi0 : listed.getD i false = false := by
        obtain ⟨h0, _⟩ := mem_ready.1 hi
        cases e : listed[i]? with
        | none => simp [e]
        | some b => simp [e] at h0 ⊢; exact h0
      have hanc : anc ops j i = false := by
        cases e : anc ops j i with
        | false => rfl
        | true => have := hc.ready hj _ e; rw [hi0] at this; cases this
      have hap : o.apart ops oj = true := by
        have hlt : j < ops.size := (Array.getElem?_eq_some_iff.1 hoj).1
        have := List.all_eq_true.1 ht j (List.mem_range.2 hlt)
        rw [hoj] at this
        simp only [Bool.or_eq_true, hanc, hj0, Bool.false_eq_true, or_false] at this
        exact this.resolve_left fun h => hij (Nat.eq_of_beq_eq_true h).symm
      refine wpOp_mono ?_ (wpOp_putC hoj hap (noSel_of hsel ho) (noSel_of hsel hoj) hy h')
      rintro a' w' ⟨hy', lk1, h1, h2, h3⟩
      have hmem : (i, C) ∈ lk1 := (h1 (i, C) (by simp)).resolve_right (by rw [hanc]; simp)
      refine ⟨lk1, fun p hp => h1 p (List.mem_cons_of_mem _ hp), h2, ?_⟩
      refine ih lk1 (listed.setIfInBounds j true) a' w' (hc.set hj) (ready_set (Ne.symm hij) hi) (takeB_set ht) hy' (h2 _ hmem) h2 ?_
      rw [Array.setIfInBounds_comm _ _ (Ne.symm hij)]
      exact h3.weak fun p hp => by
        rcases List.mem_cons.1 hp with rfl | hp
        · exact hmem
        · exact hp
end

/-- One list of assertions holds wherever another one does. -/
def Ent (Γ H : List A) : Prop := ∀ F w, Sat Γ F w → ∃ G, Sat H G w
theorem Ent.nil (Γ : List A) : Ent Γ [] := fun F w t => ⟨F, Imp.nil Γ F w t⟩
theorem Ent.mem {c : A} {Γ : List A} (h : c ∈ Γ) : Ent Γ [c] := fun F w t => by
  obtain ⟨l, r, rfl⟩ := List.append_of_mem h
  have t' := Imp.perm List.perm_middle F w t
  exact ⟨stars (l ++ r) F, t'⟩
theorem Ent.imp {Γ Δ H : List A} (i : Imp Γ Δ) (h : Ent Δ H) : Ent Γ H := fun F w t => h F w (i F w t)

abbrev SLocks := List (Nat × List A)
def lockC (H : List A) : World → Prop := fun w => ∃ G, Sat H G w
/-- A region that draws its order: what is left of it; 'lk': which operations were taken, and what they read. -/
def WPA (P : Program) (n : Nat) (ops : Array Oper) (f : Nat) (lk : SLocks) (listed : Array Bool) (s : St) (Γ : List A) (K : St → List A → Prop) : Prop :=
  ∀ F w0 w a, Adv w0 w → Ok n s a → Sat Γ F w → Closed ops listed → wpAnyL P ops (Pst n F w0 K) f (lk.map fun p => (p.1, lockC p.2)) listed a w

section
variable {P : Program} {n : Nat} {s : St} {Γ : List A} {Q : QX} {K : St → List A → Prop} {ops : Array Oper} {f : Nat} {lk : SLocks} {listed : Array Bool}
theorem WPC.draw {id : Nat} {l : List Oper} (hm : P.follows .mixedOrders = true) (h : WPA P n l.toArray l.length [] (Array.replicate l.length false) s Γ (Q .normal)) : WPC P n (.region id l.toArray true) s Γ Q := by
  intro F w a o t
  refine wp_mono (wp_region_any (Q := QN (Pst n F w (Q .normal))) hm (wpAny_of_L (lk := []) ?_)) fun e a' w' p => ?_
  · have hc : Closed l.toArray (Array.replicate l.length false) := by
      intro j o' hj
      simp [Array.getElem?_replicate] at hj
      split at hj <;> simp at hj
    have := h F w w.drew a (Adv.drew w) o t.drew hc
    simpa using this
  · cases e with
    | normal => exact p
    | _ => exact p.elim
theorem WPA.done (hr : Region.ready .any ops listed = []) (k : K s Γ) : WPA P n ops f lk listed s Γ K := by
  intro F w0 w a ad o t hc
  cases f with
  | zero => exact ⟨hr, s, Γ, k, o, t, ad⟩
  | succ f => exact ⟨fun _ => ⟨s, Γ, k, o, t, ad⟩, fun i hi => by rw [hr] at hi; cases hi⟩
theorem WPA.imp {Δ : List A} (i : Imp Γ Δ) (h : WPA P n ops f lk listed s Δ K) : WPA P n ops f lk listed s Γ K := fun F w0 w a ad o t hc => h F w0 w a ad o (i F w t) hc
theorem WPA.pure {φ : Prop} (h : φ → WPA P n ops f lk listed s Γ K) : WPA P n ops f lk listed s (pu φ :: Γ) K :=
  fun F w0 w a ad o t hc => let ⟨p, t⟩ := Sat.pure.1 t; h p F w0 w a ad o t hc
theorem WPA.ex {α : Sort _} {g : α → A} (h : ∀ x, WPA P n ops f lk listed s (g x :: Γ) K) : WPA P n ops f lk listed s (Sl.ex g :: Γ) K :=
  fun F w0 w a ad o t hc => let ⟨x, t⟩ := Sat.ex.1 t; h x F w0 w a ad o t hc
/-- All that was taken is still as it was read. -/
def Lk (lk : SLocks) (Γ : List A) : Prop := ∀ p ∈ lk, Ent Γ p.2
theorem Lk.nil (Γ : List A) : Lk [] Γ := fun _ h => by cases h
theorem Lk.cons {i : Nat} {H : List A} (h : Ent Γ H) (k : Lk lk Γ) : Lk ((i, H) :: lk) Γ := fun p hp => by
  rcases List.mem_cons.1 hp with rfl | hp
  · exact h
  · exact k p hp
/-- An operation that only reads is taken. -/
theorem WPA.take (i : Nat) {o : Oper} {v : Value} (H : List A) (ho : ops[i]? = some o) (hsel : noSel ops = true) (hr : (Region.ready .any ops listed).contains i = true) (ht : takeB ops listed i o = true) (hg : o.guard = none) (hd : dok n o.dst = true) (hq : Q1 P o s H v) (he : Ent Γ H) (hl : Lk lk Γ)
    (h : WPA P n ops f ((i, H) :: lk) (listed.setIfInBounds i true) (s.put o.dst v) Γ K) : WPA P n ops (f + 1) lk listed s Γ K := by
  intro F w0 w a ad ok t hc
  have hi : i ∈ Region.ready .any ops listed := by simpa using hr
  refine wpAnyL.take (C := lockC H) ho hsel f _ listed a w hc hi ht (.inl ⟨by simp [Region.wanted, hg], fun w' ⟨G, t'⟩ => hq G w' _ ok.ev t'⟩) (he F w t) ?_ (h F w0 w _ ad (ok.put hd v) t (hc.set hi))
  intro p hp
  obtain ⟨q, hq', rfl⟩ := List.mem_map.1 hp
  exact hl q hq' F w t
theorem WPA.takeYes (i : Nat) {o : Oper} {v : Value} {j tt : Nat} {b : Bool} (H : List A) (ho : ops[i]? = some o) (hsel : noSel ops = true) (hr : (Region.ready .any ops listed).contains i = true) (ht : takeB ops listed i o = true) (hg : o.guard = some (j, b))
    (hj : (ops[j]?).bind (·.dst) = some tt) (hv : getE s.env tt = some (.bool b)) (hd : dok n o.dst = true) (hq : Q1 P o s H v) (he : Ent Γ H) (hl : Lk lk Γ)
    (h : WPA P n ops f ((i, H) :: lk) (listed.setIfInBounds i true) (s.put o.dst v) Γ K) : WPA P n ops (f + 1) lk listed s Γ K := by
  intro F w0 w a ad ok t hc
  have hi : i ∈ Region.ready .any ops listed := by simpa using hr
  refine wpAnyL.take (C := lockC H) ho hsel f _ listed a w hc hi ht (.inl ⟨by simp [Region.wanted, hg, yielded_of ok hj hv], fun w' ⟨G, t'⟩ => hq G w' _ ok.ev t'⟩) (he F w t) ?_ (h F w0 w _ ad (ok.put hd v) t (hc.set hi))
  intro p hp
  obtain ⟨q, hq', rfl⟩ := List.mem_map.1 hp
  exact hl q hq' F w t
theorem WPA.takeNo (i : Nat) {o : Oper} {j tt : Nat} {b : Bool} {u : Value} (ho : ops[i]? = some o) (hsel : noSel ops = true) (hr : (Region.ready .any ops listed).contains i = true) (ht : takeB ops listed i o = true) (hg : o.guard = some (j, b))
    (hj : (ops[j]?).bind (·.dst) = some tt) (hv : getE s.env tt = some u) (hb : u = undef ∨ ∃ c, u = .bool c ∧ (b == c) = false) (hd : dok n o.dst = true) (hl : Lk lk Γ)
    (h : WPA P n ops f ((i, []) :: lk) (listed.setIfInBounds i true) (s.put o.dst undef) Γ K) : WPA P n ops (f + 1) lk listed s Γ K := by
  intro F w0 w a ad ok t hc
  have hi : i ∈ Region.ready .any ops listed := by simpa using hr
  have hw : Region.wanted o (yielded ops a.tmps) = false := by
    rcases hb with rfl | ⟨c, rfl, hb⟩
    · simp [Region.wanted, hg, yielded_undef ok hj hv]
    · simp [Region.wanted, hg, yielded_of ok hj hv]; intro e; subst e; simp at hb
  have h' := h F w0 w _ ad (ok.put hd undef) t (hc.set hi)
  have hlk : ∀ p ∈ lk.map fun p => (p.1, lockC p.2), p.2 w := by
    intro p hp
    obtain ⟨q, hq', rfl⟩ := List.mem_map.1 hp
    exact hl q hq' F w t
  exact wpAnyL.take (C := lockC []) ho hsel f _ listed a w hc hi ht (.inr ⟨hw, rfl⟩) (Ent.nil Γ F w t) hlk h'
/-- One of those that may come up now, and does more than read. -/
def Eff (P : Program) (n : Nat) (ops : Array Oper) (f : Nat) (lk : SLocks) (listed : Array Bool) (s : St) (Γ : List A) (K : St → List A → Prop) (i : Nat) : Prop :=
  ∃ o lk', ops[i]? = some o ∧ (∀ p ∈ lk, p ∈ lk' ∨ anc ops i p.1 = true) ∧
    ((o.guard = none ∧ WPO P n o s Γ (fun s' Γ' => Lk lk' Γ' ∧ WPA P n ops f lk' (listed.setIfInBounds i true) s' Γ' K)) ∨
     (∃ j tt b, o.guard = some (j, b) ∧ (ops[j]?).bind (·.dst) = some tt ∧ getE s.env tt = some (.bool b) ∧ WPO P n o s Γ (fun s' Γ' => Lk lk' Γ' ∧ WPA P n ops f lk' (listed.setIfInBounds i true) s' Γ' K)))
theorem WPA.step (rs : List Nat) (hr : Region.ready .any ops listed = rs) (hne : rs ≠ []) (h : ∀ i ∈ rs, Eff P n ops f lk listed s Γ K i) : WPA P n ops (f + 1) lk listed s Γ K := by
  intro F w0 w a ad ok t hc
  refine ⟨fun e => absurd (hr.symm.trans e) hne, fun i hi => ?_⟩
  obtain ⟨o, lk', ho, hlk, hw⟩ := h i (hr ▸ hi)
  have fin : ∀ {next : Act → World → Prop}, WPO P n o s Γ (fun s' Γ' => Lk lk' Γ' ∧ WPA P n ops f lk' (listed.setIfInBounds i true) s' Γ' K) →
      (∀ a' w', (∃ L : Locks, (∀ p ∈ lk.map (fun p => (p.1, lockC p.2)), p ∈ L ∨ anc ops i p.1 = true) ∧ (∀ p ∈ L, p.2 w') ∧ wpAnyL P ops (Pst n F w0 K) f L (listed.setIfInBounds i true) a' w') → next a' w') → o.wp P a w next (QN (Pst n F w0 K)) := by
    intro next hw hn
    refine hw F w a ok t next _ fun a' w' p => hn a' w' ?_
    obtain ⟨s', Γ', ⟨hl, hA⟩, ok', t', ad'⟩ := p
    refine ⟨lk'.map fun p => (p.1, lockC p.2), ?_, ?_, hA F w0 w' a' (ad.trans ad') ok' t' (hc.set hi)⟩
    · intro p hp
      obtain ⟨q, hq, rfl⟩ := List.mem_map.1 hp
      exact (hlk q hq).imp (fun h => List.mem_map.2 ⟨q, h, rfl⟩) id
    · intro p hp
      obtain ⟨q, hq, rfl⟩ := List.mem_map.1 hp
      exact hl q hq F w' t'
  unfold wpOp
  simp only [ho]
  rcases hw with ⟨hg, hw⟩ | ⟨j, tt, b, hg, hj, hv, hw⟩
  · rw [if_pos (by simp [Region.wanted, hg])]
    exact .inl (fin hw fun _ _ h => h)
  · rw [if_pos (by simp [Region.wanted, hg, yielded_of ok hj hv])]
    exact .inl (fin hw fun _ _ h => h)
/-- One alone may come up. -/
theorem WPA.one (i : Nat) {o : Oper} (lk' : SLocks) (hr : Region.ready .any ops listed = [i]) (ho : ops[i]? = some o) (hg : o.guard = none) (hlk : ∀ p ∈ lk, p ∈ lk' ∨ anc ops i p.1 = true)
    (h : WPO P n o s Γ (fun s' Γ' => Lk lk' Γ' ∧ WPA P n ops f lk' (listed.setIfInBounds i true) s' Γ' K)) : WPA P n ops (f + 1) lk listed s Γ K :=
  .step [i] hr (by simp) fun j hj => by
    rcases List.mem_singleton.1 hj with rfl
    exact ⟨o, lk', ho, hlk, .inl ⟨hg, h⟩⟩
theorem WPA.split (t : Nat) (b : Bool) (hv : getE s.env t = some (.bool b)) (ht : b = true → WPA P n ops f lk listed (s.put (some t) (.bool true)) Γ K) (hf : b = false → WPA P n ops f lk listed (s.put (some t) (.bool false)) Γ K) :
    WPA P n ops f lk listed s Γ K := by
  intro F w0 w a ad o tt hc
  have h2 : ∀ c, b = c → Ok n (s.put (some t) (.bool c)) a := by
    rintro c rfl
    refine ⟨o.size, o.ds, fun i u hu => ?_⟩
    simp only [St.put, St.get, getE_cons] at hu
    by_cases e : t = i
    · subst e; simp at hu; subst hu; exact o.get _ _ hv
    · rw [if_neg e] at hu; exact o.get i u hu
  cases hb : b with
  | true => exact ht hb F w0 w a ad (h2 _ hb) tt hc
  | false => exact hf hb F w0 w a ad (h2 _ hb) tt hc
end
end Go.Sl
