/- Separation logic over the model's code: regions that only read, whatever their order; ways that meet again behind '&&' and '||'. -/
import Derived.Test.YtdbpjcplmfkgaaaDoorSlH
import Derived.Deep.Quiet
namespace Go.Sl
open Go Go.RowKit

theorem Oper.wp_monoQ {P : Program} {o : Oper} {a : Act} {w : World} {K : Act → World → Prop} {Q Q' : Exit → Act → World → Prop} (hp : ∀ c a w, Q' (.panic c) a w → Q (.panic c) a w) (hl : LetsOut Q' → LetsOut Q) (h : o.wp P a w K Q') : o.wp P a w K Q := by
  unfold Oper.wp at *
  generalize (execOp a.eval o).run P w = r at *
  cases r with
  | ok n w' =>
    cases n <;> simp only [Oper.upon] at h ⊢ <;> first
      | exact h
      | exact Calls.mono h fun e w'' he => by cases e <;> first | exact he | exact hp _ _ _ he | exact hl he
  | halt x w' => cases x <;> simp only [Oper.upon] at h ⊢ <;> first | exact hp _ _ _ h | exact h
theorem wpList_append {P : Program} {ops : Array Oper} {Q : Exit → Act → World → Prop} {l2 : List Oper} : ∀ (l1 : List Oper) (a : Act) (w : World),
    wpList P ops (fun e a w => match e with | .normal => wpList P ops Q l2 a w | e => Q e a w) l1 a w → wpList P ops Q (l1 ++ l2) a w
  | [], _, _, h => h
  | o :: l1, a, w, h => by
    have hl : LetsOut (fun e a w => match e with | .normal => wpList P ops Q l2 a w | e => Q e a w) → LetsOut Q := fun h => h
    simp only [wpList, List.cons_append] at h ⊢
    split
    · rename_i hw
      rw [if_pos hw] at h
      rcases h with h | h
      · exact .inl (Oper.wp_monoQ (fun _ _ _ h => h) hl (Oper.wp_mono (fun a w => wpList_append l1 a w) h))
      · exact .inr ⟨h.1, hl h.2⟩
    · rename_i hw
      rw [if_neg hw] at h
      exact wpList_append l1 _ _ h
theorem wpQuiet_append {P : Program} {ops : Array Oper} {C : World → Prop} {Q : Act → Prop} {l2 : List Oper} : ∀ (l1 : List Oper) (a : Act), wpQuiet P ops C (wpQuiet P ops C Q l2) l1 a → wpQuiet P ops C Q (l1 ++ l2) a
  | [], _, h => h
  | o :: l1, a, h => by
    simp only [wpQuiet, List.cons_append] at h ⊢
    split
    · rename_i hw; rw [if_pos hw] at h; exact Oper.quiet_mono (fun a => wpQuiet_append l1 a) h
    · rename_i hw; rw [if_neg hw] at h; exact wpQuiet_append l1 _ h

section
variable {P : Program} {n : Nat} {ds : List Deferred} {env e' : List (Nat × Value)} {s : St} {Γ Δ Θ : List A} {Q : QX} {K : St → List A → Prop} {ops : Array Oper} {l : List Oper}
theorem WPL.append {l1 l2 : List Oper} (h : WPL P n ops l1 s Γ (fun s' Γ' => WPL P n ops l2 s' Γ' K)) : WPL P n ops (l1 ++ l2) s Γ K := by
  intro F w a o t Q hq
  refine wpList_append l1 a w (h F w a o t _ fun a' w' p => ?_)
  obtain ⟨s', Γ', k, o', t', ad⟩ := p
  exact k F w' a' o' t' Q fun a'' w'' p' => hq _ _ (p'.adv ad)
/-- Where two ways meet. -/
def Jn (ds : List Deferred) (e' : List (Nat × Value)) (Γ : List A) (t : Nat) (x : Bool) : St → List A → Prop := fun s' Γ' => s'.ds = ds ∧ getE s'.env t = some (.bool x) ∧ SubE e' s'.env ∧ Imp Γ' Γ
theorem WPL.jn {t : Nat} {x : Bool} (hd : s.ds = ds) (hv : getE s.env t = some (.bool x)) (he : SubE e' s.env) : WPL P n ops [] s Γ (Jn ds e' Γ t x) := .nil ⟨hd, hv, he, .refl Γ⟩
theorem WPL.jnI {t : Nat} {x : Bool} (hd : s.ds = ds) (hv : getE s.env t = some (.bool x)) (he : SubE e' s.env) (i : Imp Γ Δ) : WPL P n ops [] s Γ (Jn ds e' Δ t x) := .nil ⟨hd, hv, he, i⟩
theorem WPL.joinA (tc t k : Nat) {b x : Bool} (hv : getE env tc = some (.bool b)) (ht : b = true → WPL P n ops (l.take k) ⟨ds, (tc, .bool true) :: env⟩ Γ (Jn ds e' Γ t x)) (hf : b = false → WPL P n ops (l.take k) ⟨ds, (tc, .bool false) :: env⟩ Γ (Jn ds e' Γ t false))
    (h : WPL P n ops (l.drop k) ⟨ds, (t, .bool (b && x)) :: e'⟩ Γ K) : WPL P n ops l ⟨ds, env⟩ Γ K := by
  rw [← List.take_append_drop k l]
  refine .append (.split tc b hv (fun e => ?_) (fun e => ?_))
  · intro F w a o tt Q hq
    refine ht e F w a o tt Q fun a' w' ⟨s', Γ', ⟨h1, h2, h3, h4⟩, o', t', ad⟩ => hq a' w' ⟨⟨ds, (t, .bool (b && x)) :: e'⟩, Γ, h, ⟨o'.size, o'.ds.trans h1, fun i v hi => ?_⟩, h4 F w' t', ad⟩
    simp only [St.get, getE_cons] at hi
    by_cases e1 : t = i
    · subst e1; simp at hi; subst hi; rw [e]; exact o'.get _ _ h2
    · rw [if_neg e1] at hi; exact o'.get _ _ (h3.get hi)
  · intro F w a o tt Q hq
    refine hf e F w a o tt Q fun a' w' ⟨s', Γ', ⟨h1, h2, h3, h4⟩, o', t', ad⟩ => hq a' w' ⟨⟨ds, (t, .bool (b && x)) :: e'⟩, Γ, h, ⟨o'.size, o'.ds.trans h1, fun i v hi => ?_⟩, h4 F w' t', ad⟩
    simp only [St.get, getE_cons] at hi
    by_cases e1 : t = i
    · subst e1; simp at hi; subst hi; rw [e]; exact o'.get _ _ h2
    · rw [if_neg e1] at hi; exact o'.get _ _ (h3.get hi)
theorem WPL.joinO (tc t k : Nat) {b x : Bool} (hv : getE env tc = some (.bool b)) (ht : b = true → WPL P n ops (l.take k) ⟨ds, (tc, .bool true) :: env⟩ Γ (Jn ds e' Γ t true)) (hf : b = false → WPL P n ops (l.take k) ⟨ds, (tc, .bool false) :: env⟩ Γ (Jn ds e' Γ t x))
    (h : WPL P n ops (l.drop k) ⟨ds, (t, .bool (b || x)) :: e'⟩ Γ K) : WPL P n ops l ⟨ds, env⟩ Γ K := by
  rw [← List.take_append_drop k l]
  refine .append (.split tc b hv (fun e => ?_) (fun e => ?_))
  · intro F w a o tt Q hq
    refine ht e F w a o tt Q fun a' w' ⟨s', Γ', ⟨h1, h2, h3, h4⟩, o', t', ad⟩ => hq a' w' ⟨⟨ds, (t, .bool (b || x)) :: e'⟩, Γ, h, ⟨o'.size, o'.ds.trans h1, fun i v hi => ?_⟩, h4 F w' t', ad⟩
    simp only [St.get, getE_cons] at hi
    by_cases e1 : t = i
    · subst e1; simp at hi; subst hi; rw [e]; exact o'.get _ _ h2
    · rw [if_neg e1] at hi; exact o'.get _ _ (h3.get hi)
  · intro F w a o tt Q hq
    refine hf e F w a o tt Q fun a' w' ⟨s', Γ', ⟨h1, h2, h3, h4⟩, o', t', ad⟩ => hq a' w' ⟨⟨ds, (t, .bool (b || x)) :: e'⟩, Γ, h, ⟨o'.size, o'.ds.trans h1, fun i v hi => ?_⟩, h4 F w' t', ad⟩
    simp only [St.get, getE_cons] at hi
    by_cases e1 : t = i
    · subst e1; simp at hi; subst hi; rw [e]; exact o'.get _ _ h2
    · rw [if_neg e1] at hi; exact o'.get _ _ (h3.get hi)
/-- One step, the new state written out. -/
theorem L_s {op : Op} {ty : TypeId} {pos : String} {af : Array Edge} {d : Nat} {rest : List Oper} {v : Value} (h : Q1 P ⟨some d, op, ty, pos, af, none⟩ ⟨ds, env⟩ Γ v) (hd : Nat.blt d n = true) (k : WPL P n ops rest ⟨ds, (d, v) :: env⟩ Γ K) : WPL P n ops (⟨some d, op, ty, pos, af, none⟩ :: rest) ⟨ds, env⟩ Γ K :=
  L_q h rfl hd k

theorem L_yes {op : Op} {ty : TypeId} {pos : String} {af : Array Edge} {d : Nat} {rest : List Oper} {v : Value} {j t : Nat} {b : Bool} (hj : (ops[j]?).bind (·.dst) = some t) (hv : getE env t = some (.bool b)) (h : Q1 P ⟨some d, op, ty, pos, af, some (j, b)⟩ ⟨ds, env⟩ Γ v) (hd : Nat.blt d n = true)
    (k : WPL P n ops rest ⟨ds, (d, v) :: env⟩ Γ K) : WPL P n ops (⟨some d, op, ty, pos, af, some (j, b)⟩ :: rest) ⟨ds, env⟩ Γ K := .guardYes rfl hj hv (h.wpo hd k)
theorem L_eyes {o : Oper} {rest : List Oper} {j t : Nat} {b : Bool} (hg : o.guard = some (j, b)) (hj : (ops[j]?).bind (·.dst) = some t) (hv : getE env t = some (.bool b)) (h : WPO P n o ⟨ds, env⟩ Γ (fun s' Γ' => WPL P n ops rest s' Γ' K)) : WPL P n ops (o :: rest) ⟨ds, env⟩ Γ K := .guardYes hg hj hv h
theorem L_no {op : Op} {ty : TypeId} {pos : String} {af : Array Edge} {d : Nat} {rest : List Oper} {j t : Nat} {b c : Bool} (hj : (ops[j]?).bind (·.dst) = some t) (hv : getE env t = some (.bool c)) (hb : (b == c) = false) (hd : Nat.blt d n = true)
    (k : WPL P n ops rest ⟨ds, (d, undef) :: env⟩ Γ K) : WPL P n ops (⟨some d, op, ty, pos, af, some (j, b)⟩ :: rest) ⟨ds, env⟩ Γ K := .guardNo rfl hj hv hb hd k
theorem L_no' {op : Op} {ty : TypeId} {pos : String} {af : Array Edge} {rest : List Oper} {j t : Nat} {b c : Bool} (hj : (ops[j]?).bind (·.dst) = some t) (hv : getE env t = some (.bool c)) (hb : (b == c) = false)
    (k : WPL P n ops rest ⟨ds, env⟩ Γ K) : WPL P n ops (⟨none, op, ty, pos, af, some (j, b)⟩ :: rest) ⟨ds, env⟩ Γ K := .guardNo rfl hj hv hb rfl k
theorem L_off {op : Op} {ty : TypeId} {pos : String} {af : Array Edge} {d : Nat} {rest : List Oper} {j t : Nat} {b : Bool} (hj : (ops[j]?).bind (·.dst) = some t) (hv : getE env t = some undef) (hd : Nat.blt d n = true)
    (k : WPL P n ops rest ⟨ds, (d, undef) :: env⟩ Γ K) : WPL P n ops (⟨some d, op, ty, pos, af, some (j, b)⟩ :: rest) ⟨ds, env⟩ Γ K := .guardOff rfl hj hv hd k
theorem L_split (t : Nat) (b : Bool) (hv : getE env t = some (.bool b)) (ht : b = true → WPL P n ops l ⟨ds, (t, .bool true) :: env⟩ Γ K) (hf : b = false → WPL P n ops l ⟨ds, (t, .bool false) :: env⟩ Γ K) : WPL P n ops l ⟨ds, env⟩ Γ K := .split t b hv ht hf
theorem WPC.prune {c : Code} (e' : List (Nat × Value)) (hs : SubE e' env) (h : WPC P n c ⟨ds, e'⟩ Γ Q) : WPC P n c ⟨ds, env⟩ Γ Q := .env e' hs h

/-- A region whose operations only read. -/
def WPQ (P : Program) (n : Nat) (ops : Array Oper) (l : List Oper) (s : St) (Γ : List A) (J : St → Prop) : Prop :=
  ∀ F w0 a, Ok n s a → wpQuiet P ops (fun w => Sat Γ F w ∧ Adv w0 w) (fun a' => ∃ s', J s' ∧ Ok n s' a') l a
theorem wpQuiet_mono {C : World → Prop} {Q Q' : Act → Prop} (h : ∀ a, Q a → Q' a) : ∀ (l : List Oper) (a : Act), wpQuiet P ops C Q l a → wpQuiet P ops C Q' l a
  | [], _, hh => h _ hh
  | o :: l, a, hh => by
    simp only [wpQuiet] at hh ⊢
    split
    · rename_i hw; rw [if_pos hw] at hh; exact Oper.quiet_mono (fun a => wpQuiet_mono h l a) hh
    · rename_i hw; rw [if_neg hw] at hh; exact wpQuiet_mono h l _ hh
theorem WPC.drawQ {id : Nat} (hm : P.follows .mixedOrders = true) (hB : Region.lexB .any l.toArray = true) (h : WPQ P n l.toArray l s Γ (fun s' => Q .normal s' Γ)) : WPC P n (.region id l.toArray true) s Γ Q := by
  intro F w a o t
  refine wp_region_quiet (C := fun w' => Sat Γ F w' ∧ Adv w w') hm hB ⟨t.drew, Adv.drew w⟩ ?_
  have h1 := h F w a o
  exact wpQuiet_mono (fun a' ⟨s', k, o'⟩ w' ⟨t', ad⟩ => ⟨s', Γ, k, o', t', ad⟩) l a h1
theorem WPC.seqQ {id : Nat} {c : Code} (hm : P.follows .mixedOrders = true) (hB : Region.lexB .any l.toArray = true) (h : WPQ P n l.toArray l s Γ (fun s' => WPC P n c s' Γ Q)) : WPC P n (.seq (.region id l.toArray true) c) s Γ Q := .seq (.drawQ hm hB h)
variable {J : St → Prop}
theorem WPQ.nil (h : J s) : WPQ P n ops [] s Γ J := fun _ _ _ o => ⟨s, h, o⟩
theorem WPQ.quietQ {o : Oper} {rest : List Oper} {v : Value} (hq : Q1 P o s Γ v) (hd : dok n o.dst = true) (h : WPQ P n ops rest (s.put o.dst v) Γ J) {F : A} {w0 : World} {a : Act} (ok : Ok n s a) :
    o.quiet P a (fun w => Sat Γ F w ∧ Adv w0 w) (wpQuiet P ops (fun w => Sat Γ F w ∧ Adv w0 w) (fun a' => ∃ s', J s' ∧ Ok n s' a') rest) :=
  ⟨v, fun w ⟨t, _⟩ => by unfold Oper.quietAt; rw [hq F w _ ok.ev t]; exact ⟨rfl, rfl⟩, h F w0 _ (ok.put hd v)⟩
theorem WPQ.cons {op : Op} {ty : TypeId} {pos : String} {af : Array Edge} {d : Nat} {rest : List Oper} {v : Value} (hq : Q1 P ⟨some d, op, ty, pos, af, none⟩ ⟨ds, env⟩ Γ v) (hd : Nat.blt d n = true) (h : WPQ P n ops rest ⟨ds, (d, v) :: env⟩ Γ J) :
    WPQ P n ops (⟨some d, op, ty, pos, af, none⟩ :: rest) ⟨ds, env⟩ Γ J := by
  intro F w0 a ok
  unfold wpQuiet
  rw [if_pos (by simp [Region.wanted])]
  exact WPQ.quietQ hq hd h ok
theorem Pick.back {Γ cs Θ : List A} (u : Pick Γ cs Θ) : Imp (cs ++ Θ) Γ := by
  induction u with
  | nil => exact .refl _
  | cons h _ ih => exact (ih.cons _).trans (Imp.perm h.perm.symm)
  | keep _ _ _ ih => exact (Imp.drop _ _).trans ih
theorem WPQ.callQ {o : Oper} {rest : List Oper} {f : FuncId} {args : Array Value} {pre : List A} {v : Value} (h : C1 P o s f args) (c : Trip P f args pre (fun r Δ => r = v ∧ Δ = pre)) (hp : Pick Γ pre Θ) (hd : dok n o.dst = true) (k : WPQ P n ops rest (s.put o.dst v) Γ J)
    {F : A} {w0 : World} {a : Act} (ok : Ok n s a) : o.quiet P a (fun w => Sat Γ F w ∧ Adv w0 w) (wpQuiet P ops (fun w => Sat Γ F w ∧ Adv w0 w) (fun a' => ∃ s', J s' ∧ Ok n s' a') rest) :=
  ⟨v, fun w ⟨t, ad0⟩ => by
    unfold Oper.quietAt
    rw [h w _ ok.ev]
    refine ⟨rfl, (c _ w (Sat.app.1 (hp.imp F w t))).mono ?_⟩
    rintro e w' ⟨r, Δ, rfl, ⟨rfl, rfl⟩, t', ad⟩
    exact ⟨rfl, hp.back F w' (Sat.app.2 t'), ad0.trans ad⟩, k F w0 _ (ok.put hd v)⟩
theorem WPQ.call {op : Op} {ty : TypeId} {pos : String} {af : Array Edge} {d : Nat} {rest : List Oper} {f : FuncId} {args : Array Value} {pre : List A} {v : Value} (h : C1 P ⟨some d, op, ty, pos, af, none⟩ ⟨ds, env⟩ f args) (c : Trip P f args pre (fun r Δ => r = v ∧ Δ = pre)) (hp : Pick Γ pre Θ)
    (hd : Nat.blt d n = true) (k : WPQ P n ops rest ⟨ds, (d, v) :: env⟩ Γ J) : WPQ P n ops (⟨some d, op, ty, pos, af, none⟩ :: rest) ⟨ds, env⟩ Γ J := by
  intro F w0 a ok
  unfold wpQuiet
  rw [if_pos (by simp [Region.wanted])]
  exact WPQ.callQ h c hp hd k ok
theorem WPQ.yes {op : Op} {ty : TypeId} {pos : String} {af : Array Edge} {d : Nat} {rest : List Oper} {v : Value} {j t : Nat} {b : Bool} (hj : (ops[j]?).bind (·.dst) = some t) (hv : getE env t = some (.bool b)) (hq : Q1 P ⟨some d, op, ty, pos, af, some (j, b)⟩ ⟨ds, env⟩ Γ v) (hd : Nat.blt d n = true)
    (h : WPQ P n ops rest ⟨ds, (d, v) :: env⟩ Γ J) : WPQ P n ops (⟨some d, op, ty, pos, af, some (j, b)⟩ :: rest) ⟨ds, env⟩ Γ J := by
  intro F w0 a ok
  unfold wpQuiet
  rw [if_pos (by simp [Region.wanted, yielded_of ok hj hv])]
  exact WPQ.quietQ hq hd h ok
theorem WPQ.callYes {op : Op} {ty : TypeId} {pos : String} {af : Array Edge} {d : Nat} {rest : List Oper} {f : FuncId} {args : Array Value} {pre : List A} {v : Value} {j t : Nat} {b : Bool} (hj : (ops[j]?).bind (·.dst) = some t) (hv : getE env t = some (.bool b)) (h : C1 P ⟨some d, op, ty, pos, af, some (j, b)⟩ ⟨ds, env⟩ f args)
    (c : Trip P f args pre (fun r Δ => r = v ∧ Δ = pre)) (hp : Pick Γ pre Θ) (hd : Nat.blt d n = true) (k : WPQ P n ops rest ⟨ds, (d, v) :: env⟩ Γ J) : WPQ P n ops (⟨some d, op, ty, pos, af, some (j, b)⟩ :: rest) ⟨ds, env⟩ Γ J := by
  intro F w0 a ok
  unfold wpQuiet
  rw [if_pos (by simp [Region.wanted, yielded_of ok hj hv])]
  exact WPQ.callQ h c hp hd k ok
theorem WPQ.no {op : Op} {ty : TypeId} {pos : String} {af : Array Edge} {d : Nat} {rest : List Oper} {j t : Nat} {b c : Bool} (hj : (ops[j]?).bind (·.dst) = some t) (hv : getE env t = some (.bool c)) (hb : (b == c) = false) (hd : Nat.blt d n = true)
    (h : WPQ P n ops rest ⟨ds, (d, undef) :: env⟩ Γ J) : WPQ P n ops (⟨some d, op, ty, pos, af, some (j, b)⟩ :: rest) ⟨ds, env⟩ Γ J := by
  intro F w0 a ok
  unfold wpQuiet
  rw [if_neg (by simp [Region.wanted, yielded_of ok hj hv]; intro e; subst e; simp at hb)]
  exact h F w0 _ (ok.put (d := some d) hd undef)
theorem WPQ.off {op : Op} {ty : TypeId} {pos : String} {af : Array Edge} {d : Nat} {rest : List Oper} {j t : Nat} {b : Bool} (hj : (ops[j]?).bind (·.dst) = some t) (hv : getE env t = some undef) (hd : Nat.blt d n = true)
    (h : WPQ P n ops rest ⟨ds, (d, undef) :: env⟩ Γ J) : WPQ P n ops (⟨some d, op, ty, pos, af, some (j, b)⟩ :: rest) ⟨ds, env⟩ Γ J := by
  intro F w0 a ok
  unfold wpQuiet
  rw [if_neg (by simp [Region.wanted, yielded_undef ok hj hv])]
  exact h F w0 _ (ok.put (d := some d) hd undef)
theorem Ok.lit {a : Act} {t : Nat} {b c : Bool} (o : Ok n ⟨ds, env⟩ a) (hv : getE env t = some (.bool b)) (h : b = c) : Ok n ⟨ds, (t, .bool c) :: env⟩ a := by
  subst h
  refine ⟨o.size, o.ds, fun i u hu => ?_⟩
  simp only [St.get, getE_cons] at hu
  by_cases e : t = i
  · subst e; simp at hu; subst hu; exact o.get _ _ hv
  · rw [if_neg e] at hu; exact o.get i u hu
theorem WPQ.split (t : Nat) (b : Bool) (hv : getE env t = some (.bool b)) (ht : b = true → WPQ P n ops l ⟨ds, (t, .bool true) :: env⟩ Γ J) (hf : b = false → WPQ P n ops l ⟨ds, (t, .bool false) :: env⟩ Γ J) : WPQ P n ops l ⟨ds, env⟩ Γ J := by
  intro F w0 a o
  cases hb : b with
  | true => exact ht hb F w0 a (o.lit hv hb)
  | false => exact hf hb F w0 a (o.lit hv hb)
def Jq (ds : List Deferred) (e' : List (Nat × Value)) (t : Nat) (x : Bool) : St → Prop := fun s' => s'.ds = ds ∧ getE s'.env t = some (.bool x) ∧ SubE e' s'.env
theorem WPQ.jn {t : Nat} {x : Bool} (hd : s.ds = ds) (hv : getE s.env t = some (.bool x)) (he : SubE e' s.env) : WPQ P n ops [] s Γ (Jq ds e' t x) := .nil ⟨hd, hv, he⟩
theorem Ok.join {a : Act} {s' : St} {t : Nat} {x : Bool} (o : Ok n s' a) (h1 : s'.ds = ds) (h2 : getE s'.env t = some (.bool x)) (h3 : SubE e' s'.env) : Ok n ⟨ds, (t, .bool x) :: e'⟩ a := by
  refine ⟨o.size, o.ds.trans h1, fun i v hi => ?_⟩
  simp only [St.get, getE_cons] at hi
  by_cases e1 : t = i
  · subst e1; simp at hi; subst hi; exact o.get _ _ h2
  · rw [if_neg e1] at hi; exact o.get _ _ (h3.get hi)
theorem WPQ.joinA (tc t k : Nat) {b x : Bool} (hv : getE env tc = some (.bool b)) (ht : b = true → WPQ P n ops (l.take k) ⟨ds, (tc, .bool true) :: env⟩ Γ (Jq ds e' t x)) (hf : b = false → WPQ P n ops (l.take k) ⟨ds, (tc, .bool false) :: env⟩ Γ (Jq ds e' t false))
    (h : WPQ P n ops (l.drop k) ⟨ds, (t, .bool (b && x)) :: e'⟩ Γ J) : WPQ P n ops l ⟨ds, env⟩ Γ J := by
  rw [← List.take_append_drop k l]
  intro F w0 a o
  refine wpQuiet_append _ a ?_
  cases hb : b with
  | true => exact wpQuiet_mono (fun a' ⟨s', ⟨h1, h2, h3⟩, o'⟩ => h F w0 a' (by rw [hb]; exact o'.join h1 h2 h3)) _ _ (ht hb F w0 a (o.lit hv hb))
  | false => exact wpQuiet_mono (fun a' ⟨s', ⟨h1, h2, h3⟩, o'⟩ => h F w0 a' (by rw [hb]; exact o'.join h1 h2 h3)) _ _ (hf hb F w0 a (o.lit hv hb))
theorem WPQ.joinO (tc t k : Nat) {b x : Bool} (hv : getE env tc = some (.bool b)) (ht : b = true → WPQ P n ops (l.take k) ⟨ds, (tc, .bool true) :: env⟩ Γ (Jq ds e' t true)) (hf : b = false → WPQ P n ops (l.take k) ⟨ds, (tc, .bool false) :: env⟩ Γ (Jq ds e' t x))
    (h : WPQ P n ops (l.drop k) ⟨ds, (t, .bool (b || x)) :: e'⟩ Γ J) : WPQ P n ops l ⟨ds, env⟩ Γ J := by
  rw [← List.take_append_drop k l]
  intro F w0 a o
  refine wpQuiet_append _ a ?_
  cases hb : b with
  | true => exact wpQuiet_mono (fun a' ⟨s', ⟨h1, h2, h3⟩, o'⟩ => h F w0 a' (by rw [hb]; exact o'.join h1 h2 h3)) _ _ (ht hb F w0 a (o.lit hv hb))
  | false => exact wpQuiet_mono (fun a' ⟨s', ⟨h1, h2, h3⟩, o'⟩ => h F w0 a' (by rw [hb]; exact o'.join h1 h2 h3)) _ _ (hf hb F w0 a (o.lit hv hb))
end
end Go.Sl
