/- Separation logic over the model's code: states, triples, the rules for code, for regions that do not draw their order, for calls and loops. -/
import Derived.Test.YtdbpjcplmfkgaaaDoorSlA
namespace Go.Sl
open Go Go.RowKit

/-- What is known of a frame: its deferred calls, and some of its slots (the first entry counts). -/
structure St where
  ds : List Deferred
  env : List (Nat × Value)

def getE : List (Nat × Value) → Nat → Option Value
  | [], _ => none
  | (i, v) :: r, j => match Nat.beq i j with
    | true => some v
    | false => getE r j
def St.get (s : St) (i : Nat) : Option Value := getE s.env i
def St.put (s : St) (d : Option Nat) (v : Value) : St := match d with
  | none => s
  | some d => ⟨s.ds, (d, v) :: s.env⟩
def ev (s : St) : Operand → Option Value
  | .tmp t => getE s.env t
  | .const v => some v
  | .global g => some (.pointer (some ⟨g, 0, none⟩))
  | .func f => some (.func (.func f) #[] #[])
def evs (s : St) : List Operand → Option (List Value)
  | [] => some []
  | x :: r => match ev s x, evs s r with
    | some v, some vs => some (v :: vs)
    | _, _ => none
def dok (n : Nat) : Option Nat → Bool
  | none => true
  | some d => Nat.blt d n

structure Ok (n : Nat) (s : St) (a : Act) : Prop where
  size : a.tmps.size = n
  ds : a.defers = s.ds
  get : ∀ i v, s.get i = some v → a.tmps[i]? = some v

theorem getE_cons (i : Nat) (v : Value) (r : List (Nat × Value)) (j : Nat) : getE ((i, v) :: r) j = if i = j then some v else getE r j := by
  simp only [getE]
  by_cases h : i = j
  · subst h; simp
  · have : Nat.beq i j = false := by cases e : Nat.beq i j with | false => rfl | true => exact absurd (Nat.eq_of_beq_eq_true e) h
    simp [this, h]
theorem Ok.put {n : Nat} {s : St} {a : Act} (h : Ok n s a) {d : Option Nat} (hd : dok n d = true) (v : Value) : Ok n (s.put d v) (a.put d v) := by
  cases d with
  | none => exact h
  | some d =>
    have hlt : d < n := by simpa [dok, Nat.blt_eq] using hd
    refine ⟨by simp [Act.put, h.size], h.ds, fun i u hu => ?_⟩
    simp only [St.put, St.get, getE_cons] at hu
    simp only [Act.put, Array.getElem?_setIfInBounds]
    by_cases e : d = i
    · subst e; simp at hu; subst hu; simp [h.size, hlt]
    · rw [if_neg e] at hu ⊢; exact h.get i u hu
def EvOk (s : St) (ρ : Operand → Value) : Prop := ∀ x v, ev s x = some v → ρ x = v
theorem Ok.ev {n : Nat} {s : St} {a : Act} (h : Ok n s a) : EvOk s a.eval := by
  intro x v e
  cases x with
  | tmp t => have := h.get t v e; simp [Act.eval, this]
  | const u => simp [Sl.ev] at e; simp [Act.eval, e]
  | «global» g => simp [Sl.ev] at e; simp [Act.eval, e]
  | func f => simp [Sl.ev] at e; simp [Act.eval, e]
theorem EvOk.list {s : St} {ρ : Operand → Value} (h : EvOk s ρ) : ∀ {xs : List Operand} {vs : List Value}, evs s xs = some vs → xs.map ρ = vs
  | [], vs, e => by simp [evs] at e; simp [e]
  | x :: xs, vs, e => by
    simp only [evs] at e
    split at e
    · rename_i v us hv hus
      cases e
      simp [h x v hv, EvOk.list h hus]
    · cases e

def SubE : List (Nat × Value) → List (Nat × Value) → Prop
  | [], _ => True
  | (i, v) :: r, e => getE e i = some v ∧ SubE r e
theorem SubE.get {e' e : List (Nat × Value)} (h : SubE e' e) : ∀ {i v}, getE e' i = some v → getE e i = some v := by
  induction e' with
  | nil => intro i v hv; simp [getE] at hv
  | cons p r ih =>
    obtain ⟨j, u⟩ := p
    intro i v hv
    rw [getE_cons] at hv
    by_cases hj : j = i
    · subst hj; simp at hv; subst hv; exact h.1
    · rw [if_neg hj] at hv; exact ih h.2 hv
theorem Ok.sub {n : Nat} {s : St} {a : Act} (h : Ok n s a) {e' : List (Nat × Value)} (hs : SubE e' s.env) : Ok n ⟨s.ds, e'⟩ a :=
  ⟨h.size, h.ds, fun i v hv => h.get i v (hs.get hv)⟩

/-- What a piece of code leaves. -/
def Pst (n : Nat) (F : A) (w : World) (K : St → List A → Prop) (a' : Act) (w' : World) : Prop :=
  ∃ s Γ, K s Γ ∧ Ok n s a' ∧ Sat Γ F w' ∧ Adv w w'
theorem Pst.mono {n : Nat} {F : A} {w : World} {K K' : St → List A → Prop} (f : ∀ s Γ, K s Γ → K' s Γ) {a' : Act} {w' : World} (h : Pst n F w K a' w') : Pst n F w K' a' w' :=
  let ⟨s, Γ, k, r⟩ := h; ⟨s, Γ, f _ _ k, r⟩
theorem Pst.adv {n : Nat} {F : A} {w0 w : World} {K : St → List A → Prop} (a : Adv w0 w) {a' : Act} {w' : World} (h : Pst n F w K a' w') : Pst n F w0 K a' w' :=
  let ⟨s, Γ, k, o, f, b⟩ := h; ⟨s, Γ, k, o, f, a.trans b⟩

abbrev QX := Exit → St → List A → Prop
def WPC (P : Program) (n : Nat) (c : Code) (s : St) (Γ : List A) (Q : QX) : Prop :=
  ∀ F w a, Ok n s a → Sat Γ F w → c.wp P (fun e a' w' => Pst n F w (Q e) a' w') a w
def thenQ (K : St → List A → Prop) (Q : QX) : QX
  | .normal => K
  | e => Q e

section
variable {P : Program} {n : Nat} {s : St} {Γ : List A} {Q : QX}
theorem WPC.mono {c : Code} {Q' : QX} (h : WPC P n c s Γ Q) (f : ∀ e s Γ, Q e s Γ → Q' e s Γ) : WPC P n c s Γ Q' :=
  fun F w a o t => wp_mono (h F w a o t) fun _ _ _ => Pst.mono (f _)
theorem WPC.imp {c : Code} {Δ : List A} (i : Imp Γ Δ) (h : WPC P n c s Δ Q) : WPC P n c s Γ Q := fun F w a o t => h F w a o (i F w t)
theorem WPC.env {c : Code} (e' : List (Nat × Value)) (hs : SubE e' s.env) (h : WPC P n c ⟨s.ds, e'⟩ Γ Q) : WPC P n c s Γ Q :=
  fun F w a o t => h F w a (o.sub hs) t
theorem WPC.pure {c : Code} {φ : Prop} (h : φ → WPC P n c s Γ Q) : WPC P n c s (pu φ :: Γ) Q :=
  fun F w a o t => let ⟨p, t⟩ := Sat.pure.1 t; h p F w a o t
theorem WPC.ex {c : Code} {α : Sort _} {f : α → A} (h : ∀ x, WPC P n c s (f x :: Γ) Q) : WPC P n c s (Sl.ex f :: Γ) Q :=
  fun F w a o t => let ⟨x, t⟩ := Sat.ex.1 t; h x F w a o t
theorem WPC.skip (h : Q .normal s Γ) : WPC P n .skip s Γ Q := fun _ w _ o t => wp_skip ⟨s, Γ, h, o, t, .refl w⟩
theorem WPC.label {l : Nat} (h : Q .normal s Γ) : WPC P n (.label l) s Γ Q := fun _ w _ o t => wp_label ⟨s, Γ, h, o, t, .refl w⟩
theorem WPC.exit {id : Nat} (h : Q (.exit id) s Γ) : WPC P n (.exit id) s Γ Q := fun _ w _ o t => wp_exit ⟨s, Γ, h, o, t, .refl w⟩
theorem WPC.goto {id : Nat} (h : Q (.goto id) s Γ) : WPC P n (.goto id) s Γ Q := fun _ w _ o t => wp_goto ⟨s, Γ, h, o, t, .refl w⟩
theorem WPC.ret (h : Q .ret s Γ) : WPC P n .ret s Γ Q := fun _ w _ o t => wp_ret ⟨s, Γ, h, o, t, .refl w⟩
theorem WPC.seq {x y : Code} (h : WPC P n x s Γ (thenQ (fun s Γ => WPC P n y s Γ Q) Q)) : WPC P n (.seq x y) s Γ Q := by
  intro F w a o t
  refine wp_seq (wp_mono (h F w a o t) fun e a' w' p => ?_)
  cases e with
  | normal =>
    obtain ⟨s', Γ', k, o', t', ad⟩ := p
    exact wp_mono (k F w' a' o' t') fun _ _ _ => Pst.adv ad
  | _ => exact p
theorem WPC.cond {c : Operand} {x y : Code} {b : Bool} (hc : ev s c = some (.bool b)) (ht : b = true → WPC P n x s Γ Q) (hf : b = false → WPC P n y s Γ Q) :
    WPC P n (.cond c x y) s Γ Q :=
  fun F w a o t => wp_cond_split (o.ev c _ hc) (fun h => ht h F w a o t) (fun h => hf h F w a o t)
def blockQ (id : Nat) (Q : QX) : QX
  | .exit id' => fun s Γ => (id' = id ∧ Q .normal s Γ) ∨ (id' ≠ id ∧ Q (.exit id') s Γ)
  | e => Q e
theorem WPC.block {id : Nat} {c : Code} (h : WPC P n c s Γ (blockQ id Q)) : WPC P n (.block id c) s Γ Q := by
  intro F w a o t
  refine wp_block (wp_mono (h F w a o t) fun e a' w' p => ?_)
  cases e with
  | exit id' =>
    simp only [Exit.inBlock]
    by_cases hid : id' = id
    · rw [if_pos hid]; exact p.mono fun s Γ q => (q.resolve_right (by simp [hid])).2
    · rw [if_neg hid]; exact p.mono fun s Γ q => (q.resolve_left (by simp [hid])).2
  | _ => exact p
theorem WPC.scope {c : Code} (h : ∀ F w a, Ok n s a → Sat Γ F w → (Code.scope c).wp P (fun e a' w' => Pst n F w (Q e) a' w') a w) : WPC P n (.scope c) s Γ Q := h

/-- A loop: the invariant bears a number that falls. -/
theorem WPC.loop {c : Code} (I : Nat → St → List A → Prop) (m : Nat) (h0 : I m s Γ)
    (round : ∀ m s Γ, I m s Γ → WPC P n c s Γ (thenQ (fun s' Γ' => ∃ m', m' < m ∧ I m' s' Γ') Q)) : WPC P n (.loop c) s Γ Q := by
  intro F w a o t b k cs
  have key : ∀ m (s : St) (Γ : List A) a w0, Adv w w0 → I m s Γ → Ok n s a → Sat Γ F w0 →
      ∃ e a' w', Pst n F w (Q e) a' w' ∧ Arrives P (lone (b.at a (.code c :: .inLoop c :: k)) cs w0) b k cs e a' w' := by
    intro m
    induction m using Nat.strongRecOn with
    | _ m ih =>
      intro s Γ a w0 ad hI o t
      obtain ⟨e, a1, w1, hq, harr⟩ := round m s Γ hI F w0 a o t b (.inLoop c :: k) cs
      cases e with
      | normal =>
        obtain ⟨s', Γ', ⟨m', hlt, hI'⟩, o', t', ad'⟩ := hq
        obtain ⟨e2, a2, w2, hq2, harr2⟩ := ih m' hlt s' Γ' a1 w1 (ad.trans ad') hI' o' t'
        exact ⟨e2, a2, w2, hq2, .of_steps (Steps.trans harr (.one step_inLoop)) harr2⟩
      | exit id => exact ⟨_, a1, w1, hq.adv ad, .pass (x := .inLoop c) rfl (fun _ _ => .inl (by simp)) harr⟩
      | goto l => exact ⟨_, a1, w1, hq.adv ad, .pass (x := .inLoop c) rfl (fun _ _ => .inl (by simp)) harr⟩
      | ret => exact ⟨_, a1, w1, hq.adv ad, .pass (x := .inLoop c) rfl (fun _ _ => .inl (by simp)) harr⟩
      | panic ch => exact ⟨_, a1, w1, hq.adv ad, .pass (x := .inLoop c) rfl (fun _ _ => .inl (by simp)) harr⟩
      | outgrown => exact ⟨_, a1, w1, hq.adv ad, .pass (x := .inLoop c) rfl (fun _ _ => .inl (by simp)) harr⟩
  obtain ⟨e, a', w', hq, harr⟩ := key m s Γ a w (.refl w) h0 o t
  exact ⟨e, a', w', hq, .of_steps (.one step_loop) harr⟩
end

/-- A call: whatever else there is stays as it is. -/
def Trip (P : Program) (f : FuncId) (args : Array Value) (Γ : List A) (R : Value → List A → Prop) : Prop :=
  ∀ F w, Sat Γ F w → Calls P f args w fun e w' => ∃ v Δ, e = .returned v ∧ R v Δ ∧ Sat Δ F w' ∧ Adv w w'
theorem Trip.mono {P : Program} {f : FuncId} {args : Array Value} {Γ : List A} {R R' : Value → List A → Prop} (h : Trip P f args Γ R) (g : ∀ v Δ, R v Δ → R' v Δ) : Trip P f args Γ R' :=
  fun F w t => (h F w t).mono fun _ _ ⟨v, Δ, a, b, c⟩ => ⟨v, Δ, a, g _ _ b, c⟩
theorem Trip.imp {P : Program} {f : FuncId} {args : Array Value} {Γ Γ' : List A} {R : Value → List A → Prop} (i : Imp Γ Γ') (h : Trip P f args Γ' R) : Trip P f args Γ R :=
  fun F w t => h F w (i F w t)
theorem Trip.frame {P : Program} {f : FuncId} {args : Array Value} {Γ : List A} {R : Value → List A → Prop} (h : Trip P f args Γ R) (Θ : List A) :
    Trip P f args (Γ ++ Θ) fun v Δ => ∃ Δ', R v Δ' ∧ Δ = Δ' ++ Θ :=
  fun _ w t => (h _ w (Sat.app.1 t)).mono fun _ _ ⟨v, Δ, a, b, c, d⟩ => ⟨v, Δ ++ Θ, a, ⟨Δ, b, rfl⟩, Sat.app.2 c, d⟩
theorem Trip.pure {P : Program} {f : FuncId} {args : Array Value} {φ : Prop} {Γ : List A} {R : Value → List A → Prop} (h : φ → Trip P f args Γ R) : Trip P f args (pu φ :: Γ) R :=
  fun F w t => let ⟨p, t⟩ := Sat.pure.1 t; h p F w t
theorem Trip.ex {P : Program} {f : FuncId} {args : Array Value} {α : Sort _} {g : α → A} {Γ : List A} {R : Value → List A → Prop} (h : ∀ x, Trip P f args (g x :: Γ) R) : Trip P f args (Sl.ex g :: Γ) R :=
  fun F w t => let ⟨x, t⟩ := Sat.ex.1 t; h x F w t

def resVals (s : St) : List ResultVar → Option (List Value)
  | [] => some []
  | .tmp t :: r => match getE s.env t, resVals s r with
    | some v, some vs => some (v :: vs)
    | _, _ => none
  | .cell _ _ :: _ => none
def packV : List Value → Value
  | [v] => v
  | vs => .tuple vs.toArray
/-- At a function's end. -/
def endQ (rs : List ResultVar) (R : Value → List A → Prop) : QX
  | .normal, s, Γ | .ret, s, Γ => s.ds = [] ∧ ∃ vs, resVals s rs = some vs ∧ R (packV vs) Γ
  | _, _, _ => False
def resOne (tmps : Array Value) : ResultVar → Sem Value
  | .tmp t => Pure.pure (tmps.getD t undef)
  | .cell p t => do loadVar t (← asAddr (tmps.getD p undef))
theorem results_eq (fn : Func) (tmps : Array Value) : results fn tmps = (do
    let vs ← fn.results.mapM (resOne tmps)
    Pure.pure (if h : vs.size = 1 then vs[0] else .tuple vs)) := by
  unfold results
  congr 1
theorem resVals_run (P : Program) {n : Nat} {s : St} {a : Act} (o : Ok n s a) (w : World) : ∀ (rs : List ResultVar) (vs : List Value), resVals s rs = some vs →
    (rs.mapM (resOne a.tmps)).run P w = .ok vs w
  | [], vs, h => by simp [resVals] at h; simp [h]
  | .tmp t :: rs, vs, h => by
    simp only [resVals] at h
    split at h
    · rename_i v us hv hus
      cases h
      have := resVals_run P o w rs us hus
      have hg := o.get t v hv
      simp [List.mapM_cons, this, resOne, hg]
    · cases h
  | .cell _ _ :: _, _, h => by simp [resVals] at h
theorem results_run (P : Program) (fn : Func) {n : Nat} {s : St} {a : Act} (o : Ok n s a) (w : World) {vs : List Value} (h : resVals s fn.results.toList = some vs) :
    (results fn a.tmps).run P w = .ok (packV vs) w := by
  have := resVals_run P o w _ vs h
  rw [results_eq, Array.mapM_eq_mapM_toList]
  simp only [Sem.run_bind, Sem.run_map, this, Result.andThen_ok]
  match vs with
  | [] => simp [packV]
  | [v] => simp [packV]
  | v :: u :: r => simp [packV]

def ArgsOk : List (Nat × Value) → Array Value → Prop
  | [], _ => True
  | (i, v) :: r, args => args[i]? = some v ∧ ArgsOk r args
theorem ArgsOk.get {e : List (Nat × Value)} {args : Array Value} (h : ArgsOk e args) : ∀ {i v}, getE e i = some v → args[i]? = some v := by
  induction e with
  | nil => intro i v hv; simp [getE] at hv
  | cons p r ih =>
    obtain ⟨j, u⟩ := p
    intro i v hv
    rw [getE_cons] at hv
    by_cases hj : j = i
    · subst hj; simp at hv; subst hv; exact h.1
    · rw [if_neg hj] at hv; exact ih h.2 hv
theorem Trip.body {P : Program} {f : FuncId} {fn : Func} {c : Code} {args : Array Value} {Γ : List A} {R : Value → List A → Prop} (n : Nat) (rs : List ResultVar) (e : List (Nat × Value))
    (hf : P.funcs[f]? = some fn) (hb : fn.body = some c) (hn : fn.ntmps = n) (hr : fn.results = rs.toArray) (he : ArgsOk e args) (ha : Nat.ble args.size n = true)
    (h : WPC P n c ⟨[], e⟩ Γ (endQ rs R)) : Trip P f args Γ R := by
  intro F w t
  have ha' : args.size ≤ n := by simpa using ha
  refine calls_of_wp hf hb (wp_mono (h F w _ ⟨?_, rfl, fun i v hv => ?_⟩ t) fun e a' w' p => ?_)
  · simp [hn]; omega
  · have := he.get hv
    have hlt := (Array.getElem?_eq_some_iff.1 this).1
    simp only
    rw [Array.getElem?_append_left hlt]; exact this
  · have fin : ∀ s Δ, (s.ds = [] ∧ ∃ vs, resVals s rs = some vs ∧ R (packV vs) Δ) → Ok n s a' → Sat Δ F w' → Adv w w' →
        a'.defers = [] ∧ ∃ v, (results fn a'.tmps).run P w' = .ok v w' ∧ ∃ u Δ, Ending.returned v = .returned u ∧ R u Δ ∧ Sat Δ F w' ∧ Adv w w' := by
      rintro s Δ ⟨hd, vs, hv, hR⟩ o t ad
      exact ⟨o.ds.trans hd, packV vs, results_run P fn o w' (by rw [hr]; simpa using hv), packV vs, Δ, rfl, hR, t, ad⟩
    obtain ⟨s, Δ, k, o, t, ad⟩ := p
    cases e with
    | normal => exact fin s Δ k o t ad
    | ret => exact fin s Δ k o t ad
    | _ => exact k.elim

/-- A region that does not draw its order: what is left of it. -/
def WPL (P : Program) (n : Nat) (ops : Array Oper) (l : List Oper) (s : St) (Γ : List A) (K : St → List A → Prop) : Prop :=
  ∀ F w a, Ok n s a → Sat Γ F w → ∀ Q : Exit → Act → World → Prop, (∀ a' w', Pst n F w K a' w' → Q .normal a' w') → wpList P ops Q l a w
def WPO (P : Program) (n : Nat) (o : Oper) (s : St) (Γ : List A) (K : St → List A → Prop) : Prop :=
  ∀ F w a, Ok n s a → Sat Γ F w → ∀ (next : Act → World → Prop) (Q : Exit → Act → World → Prop), (∀ a' w', Pst n F w K a' w' → next a' w') → o.wp P a w next Q

section
variable {P : Program} {n : Nat} {s : St} {Γ : List A} {Q : QX} {K : St → List A → Prop} {ops : Array Oper}
theorem WPC.region {id : Nat} {l : List Oper} (h : WPL P n l.toArray l s Γ (Q .normal)) : WPC P n (.region id l.toArray false) s Γ Q :=
  fun F w a o t => wp_region_lit (h F w a o t _ fun _ _ p => p)
theorem WPL.nil (h : K s Γ) : WPL P n ops [] s Γ K := fun _ w a o t _ hq => wpList_nil (hq _ _ ⟨s, Γ, h, o, t, .refl w⟩)
theorem WPL.imp {l : List Oper} {Δ : List A} (i : Imp Γ Δ) (h : WPL P n ops l s Δ K) : WPL P n ops l s Γ K := fun F w a o t => h F w a o (i F w t)
theorem WPL.env {l : List Oper} (e' : List (Nat × Value)) (hs : SubE e' s.env) (h : WPL P n ops l ⟨s.ds, e'⟩ Γ K) : WPL P n ops l s Γ K :=
  fun F w a o t => h F w a (o.sub hs) t
theorem WPL.pure {l : List Oper} {φ : Prop} (h : φ → WPL P n ops l s Γ K) : WPL P n ops l s (pu φ :: Γ) K :=
  fun F w a o t => let ⟨p, t⟩ := Sat.pure.1 t; h p F w a o t
theorem WPL.ex {l : List Oper} {α : Sort _} {f : α → A} (h : ∀ x, WPL P n ops l s (f x :: Γ) K) : WPL P n ops l s (Sl.ex f :: Γ) K :=
  fun F w a o t => let ⟨x, t⟩ := Sat.ex.1 t; h x F w a o t
theorem WPL.cons {o : Oper} {rest : List Oper} (hg : o.guard = none) (h : WPO P n o s Γ (fun s' Γ' => WPL P n ops rest s' Γ' K)) : WPL P n ops (o :: rest) s Γ K := by
  intro F w a ok t Q hq
  refine wpList_plain hg fun k hk => h F w a ok t k Q fun a' w' p => hk _ _ ?_
  obtain ⟨s', Γ', g, o', t', ad⟩ := p
  exact g F w' a' o' t' Q fun a'' w'' p' => hq _ _ (p'.adv ad)
/-- A guarded operation: its guard is known. -/
theorem yielded_of {a : Act} (o : Ok n s a) {j t : Nat} {b : Bool} (hj : (ops[j]?).bind (·.dst) = some t) (hv : getE s.env t = some (.bool b)) : yielded ops a.tmps j = some b := by
  have := o.get t _ hv
  simp [yielded, hj, this]
theorem WPL.guardYes {o : Oper} {rest : List Oper} {j t : Nat} {b : Bool} (hg : o.guard = some (j, b)) (hj : (ops[j]?).bind (·.dst) = some t) (hv : getE s.env t = some (.bool b))
    (h : WPO P n o s Γ (fun s' Γ' => WPL P n ops rest s' Γ' K)) : WPL P n ops (o :: rest) s Γ K := by
  intro F w a ok t Q hq
  refine wpList_step fun k hk => ?_
  rw [if_pos (by simp [Region.wanted, hg, yielded_of ok hj hv])]
  refine h F w a ok t k Q fun a' w' p => hk _ _ ?_
  obtain ⟨s', Γ', g, o', t', ad⟩ := p
  exact g F w' a' o' t' Q fun a'' w'' p' => hq _ _ (p'.adv ad)
theorem yielded_undef {a : Act} (o : Ok n s a) {j t : Nat} (hj : (ops[j]?).bind (·.dst) = some t) (hv : getE s.env t = some undef) : yielded ops a.tmps j = none := by
  have := o.get t _ hv
  simp [yielded, hj, this, undef]
theorem WPL.guardNo {o : Oper} {rest : List Oper} {j t : Nat} {b c : Bool} (hg : o.guard = some (j, b)) (hj : (ops[j]?).bind (·.dst) = some t) (hv : getE s.env t = some (.bool c)) (hb : (b == c) = false)
    (hd : dok n o.dst = true) (h : WPL P n ops rest (s.put o.dst undef) Γ K) : WPL P n ops (o :: rest) s Γ K := by
  intro F w a ok t Q hq
  refine wpList_skip ?_ (h F w _ (ok.put hd undef) t Q hq)
  simp [Region.wanted, hg, yielded_of ok hj hv]
  intro e; subst e; simp at hb
theorem WPL.guardOff {o : Oper} {rest : List Oper} {j t : Nat} {b : Bool} (hg : o.guard = some (j, b)) (hj : (ops[j]?).bind (·.dst) = some t) (hv : getE s.env t = some undef)
    (hd : dok n o.dst = true) (h : WPL P n ops rest (s.put o.dst undef) Γ K) : WPL P n ops (o :: rest) s Γ K := by
  intro F w a ok t Q hq
  refine wpList_skip ?_ (h F w _ (ok.put hd undef) t Q hq)
  simp [Region.wanted, hg, yielded_undef ok hj hv]
/-- A truth value is one or the other. -/
theorem WPL.split {l : List Oper} (t : Nat) (b : Bool) (hv : getE s.env t = some (.bool b)) (ht : b = true → WPL P n ops l (s.put (some t) (.bool true)) Γ K) (hf : b = false → WPL P n ops l (s.put (some t) (.bool false)) Γ K) :
    WPL P n ops l s Γ K := by
  intro F w a o tt Q hq
  have h2 : ∀ c, b = c → Ok n (s.put (some t) (.bool c)) a := by
    rintro c rfl
    refine ⟨o.size, o.ds, fun i u hu => ?_⟩
    simp only [St.put, St.get, getE_cons] at hu
    by_cases e : t = i
    · subst e; simp at hu; subst hu; exact o.get _ _ hv
    · rw [if_neg e] at hu; exact o.get i u hu
  cases hb : b with
  | true => exact ht hb F w a (h2 _ hb) tt Q hq
  | false => exact hf hb F w a (h2 _ hb) tt Q hq

/-- An operation that leaves memory as it is, and yields this. -/
def Q1 (P : Program) (o : Oper) (s : St) (Γ : List A) (v : Value) : Prop :=
  ∀ F w ρ, EvOk s ρ → Sat Γ F w → (execOp ρ o).run P w = .ok (.value v) w
theorem Q1.wpo {o : Oper} {v : Value} (h : Q1 P o s Γ v) (hd : dok n o.dst = true) (k : K (s.put o.dst v) Γ) : WPO P n o s Γ K := by
  intro F w a ok t next Q hq
  unfold Oper.wp
  rw [h F w _ ok.ev t]
  exact hq _ _ ⟨_, _, k, ok.put hd v, t, .refl w⟩
theorem L_q {o : Oper} {rest : List Oper} {v : Value} (h : Q1 P o s Γ v) (hg : o.guard = none) (hd : dok n o.dst = true) (k : WPL P n ops rest (s.put o.dst v) Γ K) : WPL P n ops (o :: rest) s Γ K :=
  .cons hg (h.wpo hd k)
/-- An operation that yields a value and changes memory. -/
def E1 (P : Program) (o : Oper) (s : St) (Γ : List A) (R : Value → List A → Prop) : Prop :=
  ∀ F w ρ, EvOk s ρ → Sat Γ F w → ∃ v Δ w', (execOp ρ o).run P w = .ok (.value v) w' ∧ R v Δ ∧ Sat Δ F w' ∧ Adv w w'
theorem E1.wpo {o : Oper} {R : Value → List A → Prop} (h : E1 P o s Γ R) (hd : dok n o.dst = true) (k : ∀ v Δ, R v Δ → K (s.put o.dst v) Δ) : WPO P n o s Γ K := by
  intro F w a ok t next Q hq
  obtain ⟨v, Δ, w', hr, hR, t', ad⟩ := h F w _ ok.ev t
  unfold Oper.wp
  rw [hr]
  exact hq _ _ ⟨_, _, k _ _ hR, ok.put hd v, t', ad⟩
/-- One that yields nothing and changes memory. -/
def S1 (P : Program) (o : Oper) (s : St) (Γ Δ : List A) : Prop :=
  ∀ F w ρ, EvOk s ρ → Sat Γ F w → ∃ w', (execOp ρ o).run P w = .ok .skip w' ∧ Sat Δ F w' ∧ Adv w w'
theorem S1.wpo {o : Oper} {Δ : List A} (h : S1 P o s Γ Δ) (hd : dok n o.dst = true) (k : K (s.put o.dst undef) Δ) : WPO P n o s Γ K := by
  intro F w a ok t next Q hq
  obtain ⟨w', hr, t', ad⟩ := h F w _ ok.ev t
  unfold Oper.wp
  rw [hr]
  exact hq _ _ ⟨_, _, k, ok.put hd undef, t', ad⟩
/-- A call of a Go function. -/
def C1 (P : Program) (o : Oper) (s : St) (f : FuncId) (args : Array Value) : Prop :=
  ∀ w ρ, EvOk s ρ → (execOp ρ o).run P w = .ok (.enter f args) w
theorem C1.wpo {o : Oper} {f : FuncId} {args : Array Value} {R : Value → List A → Prop} (h : C1 P o s f args) (c : Trip P f args Γ R) (hd : dok n o.dst = true)
    (k : ∀ v Δ, R v Δ → K (s.put o.dst v) Δ) : WPO P n o s Γ K := by
  intro F w a ok t next Q hq
  unfold Oper.wp
  rw [h w _ ok.ev]
  refine (c F w t).mono ?_
  rintro e w' ⟨v, Δ, rfl, hR, t', ad⟩
  exact hq _ _ ⟨_, _, k _ _ hR, ok.put hd v, t', ad⟩
end
end Go.Sl
