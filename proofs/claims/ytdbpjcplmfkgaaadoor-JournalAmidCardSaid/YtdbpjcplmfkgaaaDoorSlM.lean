/- Ranges over a function: rounds, yields, the statement, the function's end with its mark. -/
import Derived.Test.YtdbpjcplmfkgaaaDoorSlK
import Derived.RangeFuncOwn
import Derived.RangeFuncRecord
namespace Go.Sl
open Go Go.RowKit
theorem setOb_eq (w : World) (b : Nat) (o : Obj) : World.putObj w b o = World.setOb w b o := rfl
/-- Code in a round's frame. -/
def WPR (P : Program) (n : Nat) (l : Nat) (c : Code) (s : St) (Γ : List A) (Q : QX) : Prop :=
  ∀ F w a, Ok n s a → Sat Γ F w → c.wpIn (Fence.wide.inRound l) 0 P (fun e a' w' => Pst n F w (Q e) a' w') a w
theorem Rows.wide {P : Program} {row : String} {args : Array Value} {w : World} {R : Value → World → Prop} {l m : Nat} (h : Rows P row args w R) : RowsIn (Fence.wide.inRound l) m P row args w R :=
  fun c cs _ => let ⟨v, w', r, s⟩ := h c cs; ⟨v, w', r, stepsIn_wide.2 s⟩
theorem Rows.wide0 {P : Program} {row : String} {args : Array Value} {w : World} {R : Value → World → Prop} {m : Nat} (h : Rows P row args w R) : RowsIn Fence.wide m P row args w R :=
  fun c cs _ => let ⟨v, w', r, s⟩ := h c cs; ⟨v, w', r, stepsIn_wide.2 s⟩
theorem Calls.wideR {P : Program} {f : FuncId} {args : Array Value} {w : World} {R : Ending → World → Prop} {l m : Nat} (h : Calls P f args w R) : CallsIn (Fence.wide.inRound l) m P f args w R :=
  (callsIn_wide (n := m)).2 h
theorem Oper.wpIn_round {P : Program} {o : Oper} {a : Act} {w : World} {next : Act → World → Prop} {Q : Exit → Act → World → Prop} {l : Nat} (hd : ∀ c, o.op ≠ .defer c) (h : o.wp P a w next Q) : o.wpIn (Fence.wide.inRound l) 0 P a w next Q := by
  refine ⟨fun _ _ => trivial, ?_⟩
  rw [show (Fence.wide.inRound l).round = some l from rfl, Oper.semAt_some l _ _ hd]
  unfold Oper.wp at h
  cases hr : (execOp a.eval o).run P w with
  | ok x w' =>
    rw [hr] at h
    cases x with
    | enter f args => exact ⟨(fun h => nomatch h), Calls.wideR h⟩
    | row row args => exact ⟨(fun h => nomatch h), Rows.wide h⟩
    | value v => exact h
    | skip => exact h
    | defer d => exact h
    | _ => exact h.elim
  | halt x w' =>
    rw [hr] at h
    cases x with
    | panic v => exact h
    | _ => exact h.elim
theorem Oper.wpIn_wide {P : Program} {o : Oper} {a : Act} {w : World} {next : Act → World → Prop} {Q : Exit → Act → World → Prop} (h : o.wp P a w next Q) : o.wpIn Fence.wide 0 P a w next Q := by
  refine ⟨fun _ _ => trivial, ?_⟩
  rw [show Fence.wide.round = none from rfl, Oper.semAt_none]
  unfold Oper.wp at h
  cases hr : (execOp a.eval o).run P w with
  | ok x w' =>
    rw [hr] at h
    cases x with
    | enter f args => exact ⟨(fun h => nomatch h), (callsIn_wide (n := 0 - 1)).2 h⟩
    | row row args => exact ⟨(fun h => nomatch h), Rows.wide0 h⟩
    | value v => exact h
    | skip => exact h
    | defer d => exact h
    | _ => exact h.elim
  | halt x w' =>
    rw [hr] at h
    cases x with
    | panic v => exact h
    | _ => exact h.elim
def plainOp (o : Oper) : Bool := match o.op with
  | .defer _ => false
  | _ => true
theorem plainOp.ne {o : Oper} (h : plainOp o = true) : ∀ c, o.op ≠ .defer c := by
  intro c e
  simp [plainOp, e] at h
def onlyN (K : Act → World → Prop) : Exit → Act → World → Prop
  | .normal, a, w => K a w
  | _, _, _ => False
theorem onlyN.lets {K : Act → World → Prop} : ¬ LetsOut (onlyN K) := fun ⟨_, _, h⟩ => h
theorem Oper.wp_onlyN {P : Program} {o : Oper} {a : Act} {w : World} {K K' : Act → World → Prop} {K0 : Act → World → Prop} {Q : Exit → Act → World → Prop} (hk : ∀ a w, K a w → K' a w) (h : o.wp P a w K (onlyN K0)) : o.wp P a w K' Q :=
  Oper.wp_mono hk (Oper.wp_monoQ (fun _ _ _ h => h.elim) (fun h => absurd h onlyN.lets) h)
theorem wpList.round {P : Program} {ops : Array Oper} {Q : Exit → Act → World → Prop} {r : Nat} : ∀ (l : List Oper) (a : Act) (w : World), l.all plainOp = true → wpList P ops (onlyN (Q .normal)) l a w → wpListIn (Fence.wide.inRound r) 0 P ops Q l a w
  | [], a, w, _, h => h
  | o :: rest, a, w, hp, h => by
    simp only [List.all_cons, Bool.and_eq_true] at hp
    simp only [wpList, wpListIn] at h ⊢
    split
    · rename_i hw
      rw [if_pos hw] at h
      refine Oper.wpIn_round (plainOp.ne hp.1) ?_
      rcases h with h | h
      · exact Oper.wp_onlyN (fun a w h => wpList.round rest a w hp.2 h) h
      · exact absurd h.2 onlyN.lets
    · rename_i hw
      rw [if_neg hw] at h
      exact ⟨fun _ _ => trivial, wpList.round rest _ _ hp.2 h⟩
/-- A part of a list of operations as everywhere; then on in the wide fence. -/
theorem wpListIn_append {P : Program} {ops : Array Oper} {Q : Exit → Act → World → Prop} {l2 : List Oper} : ∀ (l1 : List Oper) (a : Act) (w : World),
    wpList P ops (onlyN (wpListIn Fence.wide 0 P ops Q l2)) l1 a w → wpListIn Fence.wide 0 P ops Q (l1 ++ l2) a w
  | [], a, w, h => h
  | o :: rest, a, w, h => by
    simp only [wpList, wpListIn, List.cons_append] at h ⊢
    split
    · rename_i hw
      rw [if_pos hw] at h
      refine Oper.wpIn_wide ?_
      rcases h with h | h
      · exact Oper.wp_onlyN (fun a w h => wpListIn_append rest a w h) h
      · exact absurd h.2 onlyN.lets
    · rename_i hw
      rw [if_neg hw] at h
      exact ⟨fun _ _ => trivial, wpListIn_append rest _ _ h⟩
section
variable {P : Program} {n r : Nat} {s : St} {Γ Δ : List A} {Q : QX}
theorem WPR.imp {c : Code} (i : Imp Γ Δ) (h : WPR P n r c s Δ Q) : WPR P n r c s Γ Q := fun F w a o t => h F w a o (i F w t)
theorem WPR.env {c : Code} (e' : List (Nat × Value)) (hs : SubE e' s.env) (h : WPR P n r c ⟨s.ds, e'⟩ Γ Q) : WPR P n r c s Γ Q := fun F w a o t => h F w a (o.sub hs) t
theorem WPR.skip (h : Q .normal s Γ) : WPR P n r .skip s Γ Q := fun _ w _ o t => wpIn_skip ⟨s, Γ, h, o, t, .refl w⟩
theorem WPR.exit {id : Nat} (h : Q (.exit id) s Γ) : WPR P n r (.exit id) s Γ Q := fun _ w _ o t => wpIn_exit ⟨s, Γ, h, o, t, .refl w⟩
theorem WPR.seq {x y : Code} (h : WPR P n r x s Γ (thenQ (fun s Γ => WPR P n r y s Γ Q) Q)) : WPR P n r (.seq x y) s Γ Q := by
  intro F w a o t
  refine wpIn_seq (wpIn_mono (h F w a o t) fun e a' w' p => ?_)
  cases e with
  | normal =>
    obtain ⟨s', Γ', k, o', t', ad⟩ := p
    exact wpIn_mono (k F w' a' o' t') fun _ _ _ => Pst.adv ad
  | _ => exact p
theorem WPR.cond {c : Operand} {x y : Code} {b : Bool} (hc : ev s c = some (.bool b)) (ht : b = true → WPR P n r x s Γ Q) (hf : b = false → WPR P n r y s Γ Q) :
    WPR P n r (.cond c x y) s Γ Q :=
  fun F w a o t => wpIn_cond_split (o.ev c _ hc) (fun h => ht h F w a o t) (fun h => hf h F w a o t)
theorem WPR.block {id : Nat} {c : Code} (h : WPR P n r c s Γ (blockQ id Q)) : WPR P n r (.block id c) s Γ Q := by
  intro F w a o t
  refine wpIn_block (wpIn_mono (h F w a o t) fun e a' w' p => ?_)
  cases e with
  | exit id' =>
    simp only [Exit.inBlock]
    by_cases hid : id' = id
    · rw [if_pos hid]; exact p.mono fun s Γ q => (q.resolve_right (by simp [hid])).2
    · rw [if_neg hid]; exact p.mono fun s Γ q => (q.resolve_left (by simp [hid])).2
  | _ => exact p
theorem WPR.region {id : Nat} {l : List Oper} (hp : l.all plainOp = true) (h : WPL P n l.toArray l s Γ (Q .normal)) : WPR P n r (.region id l.toArray false) s Γ Q :=
  fun F w a o t => wpIn_region_lit (wpList.round _ _ _ hp (h F w a o t _ fun _ _ p => p))
/-- A list of operations of which some call yield. -/
def WPI (P : Program) (n : Nat) (ops : Array Oper) (l : List Oper) (s : St) (Γ : List A) (K : St → List A → Prop) : Prop :=
  ∀ F w a, Ok n s a → Sat Γ F w → ∀ Q : Exit → Act → World → Prop, (∀ a' w', Pst n F w K a' w' → Q .normal a' w') → wpListIn Fence.wide 0 P ops Q l a w
variable {K : St → List A → Prop} {ops : Array Oper}
theorem WPC.regionI {id : Nat} {l : List Oper} (h : WPI P n l.toArray l s Γ (Q .normal)) : WPC P n (.region id l.toArray false) s Γ Q :=
  fun F w a o t => wpIn_wide.1 (wpIn_region_lit (n := 0) (h F w a o t _ fun _ _ p => p))
theorem WPI.take {l : List Oper} (k : Nat) (h : WPL P n ops (l.take k) s Γ (fun s' Γ' => WPI P n ops (l.drop k) s' Γ' K)) : WPI P n ops l s Γ K := by
  intro F w a o t Q hq
  rw [← List.take_append_drop k l]
  refine wpListIn_append _ _ _ (h F w a o t _ fun a' w' p => ?_)
  obtain ⟨s', Γ', k', o', t', ad⟩ := p
  exact k' F w' a' o' t' Q fun a'' w'' p' => hq _ _ (p'.adv ad)
theorem WPI.all {l : List Oper} (h : WPL P n ops l s Γ K) : WPI P n ops l s Γ K := by
  intro F w a o t Q hq
  have := wpListIn_append (P := P) (ops := ops) (Q := Q) (l2 := []) l a w (h F w a o t _ fun a' w' p => hq _ _ p)
  rwa [List.append_nil] at this
theorem WPI.split {l : List Oper} (t : Nat) (b : Bool) (hv : getE s.env t = some (.bool b)) (ht : b = true → WPI P n ops l (s.put (some t) (.bool true)) Γ K) (hf : b = false → WPI P n ops l (s.put (some t) (.bool false)) Γ K) :
    WPI P n ops l s Γ K := by
  intro F w a o tt Q hq
  have h2 : ∀ c, b = c → Ok n (s.put (some t) (.bool c)) a := by
    rintro c rfl
    refine ⟨o.size, o.ds, fun i u hu => ?_⟩
    simp only [St.put, St.get, getE_cons] at hu
    by_cases e : t = i
    · subst e; simp at hu; subst hu; exact o.get _ _ hv
    · rw [if_neg e] at hu; exact o.get i u hu
  cases hb : b with
  | true => exact ht hb F w a (h2 _ hb) tt Q hq
  | false => exact hf hb F w a (h2 _ hb) tt Q hq
/-- What a call of yield does. -/
def YTrip (P : Program) (l : Nat) (args : Array Value) (Γ : List A) (R : Value → List A → Prop) : Prop :=
  ∀ F w, Sat Γ F w → YieldAt Fence.wide 0 P l args w fun e w' => ∃ v Δ, e = .returned v ∧ R v Δ ∧ Sat Δ F w' ∧ Adv w w'
theorem WPI.yield {x : Operand} {xs : List Operand} {ts : Array TypeId} {d : Nat} {ty : TypeId} {pos : String} {af : Array Edge} {g : Option (Nat × Bool)} {rest : List Oper} {l : Nat} {vs : List Value} {pre Θ : List A} {R : Value → List A → Prop}
    (hg : ∀ a : Act, Ok n s a → Region.wanted ⟨some d, .call { callee := .value x, args := xs.toArray, argTypes := ts }, ty, pos, af, g⟩ (yielded ops a.tmps) = true)
    (hx : ev s x = some (.func (.yield l) #[] #[])) (h : evs s xs = some vs) (hy : YTrip P l vs.toArray pre R) (hp : Pick Γ pre Θ) (hd : Nat.blt d n = true)
    (k : ∀ v Δ, R v Δ → WPI P n ops rest (s.put (some d) v) (Δ ++ Θ) K) : WPI P n ops (⟨some d, .call { callee := .value x, args := xs.toArray, argTypes := ts }, ty, pos, af, g⟩ :: rest) s Γ K := by
  intro F w a o t Q hq
  simp only [wpListIn]
  rw [if_pos (hg a o)]
  refine ⟨fun _ _ => trivial, ?_⟩
  rw [show Fence.wide.round = none from rfl, Oper.semAt_none]
  have e1 := o.ev.list h
  have t1 := hp.imp F w t
  obtain ⟨fn, tmps, assign, body, hrun, hR⟩ := hy (stars Θ F) w (Sat.app.1 t1)
  have hex : (execOp a.eval ⟨some d, .call { callee := .value x, args := xs.toArray, argTypes := ts }, ty, pos, af, g⟩).run P w = .ok (.round l fn tmps assign body) w := by
    simp [execOp, resolve, o.ev x _ hx, Deferred.ofValue, invoke, e1, hrun]
  rw [hex]
  refine ⟨(fun h => nomatch h), hR.mono ?_⟩
  rintro e w' ⟨v, Δ, rfl, hv, t', ad⟩
  exact k v Δ hv F w' _ (o.put (d := some d) hd v) (Sat.app.2 t') Q fun a'' w'' p' => hq _ _ (p'.adv ad)
/-- How a round's body ends. -/
def roundQ (l : Nat) (rec : Loop) (R : Value → List A → Prop) : QX
  | .normal, _, Γ => ∃ Δ, Imp Γ (objc true l (.loop { rec with state := .busy }) :: Δ) ∧ R (.bool true) (objc true l (.loop rec) :: Δ)
  | _, _, _ => False
def assignQ (P : Program) (n l : Nat) (rec : Loop) (R : Value → List A → Prop) : QX
  | .normal, s, Γ => ∃ Δ, Imp Γ (objc true l (.loop rec) :: Δ) ∧ WPR P n l rec.body s (objc true l (.loop { rec with state := .busy }) :: Δ) (roundQ l rec R)
  | _, _, _ => False
theorem loop_ne (r : Loop) : ∀ c e f, Obj.loop r ≠ .cells c e f := fun _ _ _ h => nomatch h
theorem defd_ne (r : Option (List Deferred)) : ∀ c e f, Obj.deferred r ≠ .cells c e f := fun _ _ _ h => nomatch h
theorem YTrip.round {l t : Nat} {rec : Loop} {v : Value} {env : List (Nat × Value)} {R : Value → List A → Prop} (hst : rec.state = .ready) (hpd : rec.pending = none) (hps : rec.params = #[t]) (ht : Nat.blt t n = true)
    (hok : Ok n ⟨[], env⟩ { tmps := rec.tmps, defers := [] }) (h : WPR P n l rec.assign ⟨[], (t, v) :: env⟩ (objc true l (.loop rec) :: Γ) (assignQ P n l rec R)) :
    YTrip P l #[v] (objc true l (.loop rec) :: Γ) R := by
  intro F w t0
  have hl := t0.object
  refine ⟨_, _, _, _, run_yield hl (by rw [hps]; rfl), roundIn_of_wpIn trivial ?_⟩
  have hok2 : Ok n ⟨[], (t, v) :: env⟩ { tmps := (rec.params.zip #[v]).foldl (fun tmps (t, a) => tmps.setIfInBounds t a) rec.tmps, defers := [] } := by
    have := hok.put (d := some t) ht v
    rw [hps]
    have e : Array.foldl (fun (tmps : Array Value) (x : Tmp × Value) => tmps.setIfInBounds x.1 x.2) rec.tmps (#[t].zip #[v]) = rec.tmps.setIfInBounds t v := by simp
    rw [show Array.foldl (fun (tmps : Array Value) (x : Tmp × Value) => match x with | (t, a) => tmps.setIfInBounds t a) rec.tmps (#[t].zip #[v]) = rec.tmps.setIfInBounds t v from e]
    exact this
  refine wpIn_mono (h F w _ hok2 t0) fun e a1 w1 p => ?_
  obtain ⟨s1, Γ1, k1, o1, t1, ad1⟩ := p
  cases e with
  | normal =>
    obtain ⟨Δ, i, hb⟩ := k1
    have t2 := i F w1 t1
    have hl1 := t2.object
    refine ⟨_, run_beginRound hl1 hst, ?_⟩
    rw [setOb_eq]
    have t3 := t2.setObj (loop_ne { rec with state := .busy })
    refine wpIn_mono (hb F _ a1 o1 t3) fun e2 a2 w2 p2 => ?_
    obtain ⟨s2, Γ2, k2, o2, t4, ad2⟩ := p2
    cases e2 with
    | normal =>
      obtain ⟨Δ2, i2, hR⟩ := k2
      have t5 := i2 F w2 t4
      refine ⟨_, _, run_endRound none t5.object, ?_⟩
      rw [setOb_eq]
      have e3 : ({ ({ rec with state := .busy } : Loop) with state := if (none : Option Code).isNone then .ready else .done, pending := none } : Loop) = rec := by
        cases rec; simp_all
      rw [e3]
      exact ⟨_, _, rfl, hR, t5.setObj (loop_ne rec), ad1.trans ((Adv.setOb hl1 (loop_ne _) (loop_ne _)).trans (ad2.trans (Adv.setOb t5.object (loop_ne _) (loop_ne _))))⟩
    | _ => exact k2.elim
  | _ => exact k1.elim
/-- The statement; no round leaves by a jump. -/
theorem WPC.rangeFunc {x : Operand} {ps : Array Tmp} {assign body : Code} {gf : FuncId} {lb : Array Value} {fn : Func} {c : Code} (hx : ev s x = some (.func (.func gf) #[] lb)) (hf : P.funcs[gf]? = some fn) (hb : fn.body = some c) (hn : (fn.name == "runtime.NumGoroutine") = false)
    (h : ∀ (l D : Nat) (rec : Loop), rec.state = .ready → rec.pending = none → rec.params = ps → rec.assign = assign → rec.body = body → Ok n ⟨[], s.env⟩ { tmps := rec.tmps, defers := [] } →
      Trip P gf (#[.func (.yield l) #[] #[]] ++ lb) (objc true l (.loop rec) :: Γ) (fun _ Δ => ∃ Δ', Δ = objc true l (.loop rec) :: Δ' ∧ Q .normal ⟨{ target := .collected D, args := #[] } :: s.ds, s.env⟩ (objc true D (.deferred (some [])) :: Δ'))) :
    WPC P n (.rangeFunc x ps assign body) s Γ Q := by
  intro F w a o t
  refine wpIn_wide (n := 0).1 (_root_.Go.wpIn_rangeFunc fun fid _ => ?_)
  have hg : a.eval x = .func (.func gf) #[] lb := o.ev x _ hx
  simp only [beq_eq_false_iff_ne, ne_eq] at hn
  obtain ⟨W1, hW1⟩ : ∃ W1, (w.alloc (.deferred (some []))).alloc (.loop { state := .ready, pending := none, fn := fid, tmps := a.tmps, params := ps, assign, body, defers := w.heap.size }) = W1 := ⟨_, rfl⟩
  refine ⟨w.heap.size + 1, [{ target := .collected w.heap.size, args := #[] }], W1, { target := .fn (.func gf) lb, args := #[.func (.yield (w.heap.size + 1)) #[] #[]] }, W1, gf, #[.func (.yield (w.heap.size + 1)) #[] #[]] ++ lb, W1, hW1 ▸ run_enterLoop_outer _ _ _ _ _, ?_, fun _ _ => trivial, ?_, (fun h => nomatch h), ?_⟩
  · simp only [resolve, hg]
    simp [Deferred.ofValue, hg, go_sem]
  · simp [invoke, callFunc, hf, hb, hn]
  · have t1 := t.allocObj (.deferred (some [])) (defd_ne _)
    have t2 := (t1.allocObj (.loop { state := .ready, pending := none, fn := fid, tmps := a.tmps, params := ps, assign, body, defers := w.heap.size }) (loop_ne _))
    rw [World.size_alloc, hW1] at t2
    have t3 : Sat (objc true (w.heap.size + 1) (.loop { state := .ready, pending := none, fn := fid, tmps := a.tmps, params := ps, assign, body, defers := w.heap.size }) :: Γ) (star (objc true w.heap.size (.deferred (some []))) F) _ :=
      (Imp.perm (.swap _ _ _) F _ t2).shift
    refine (callsIn_wide (n := 0 - 1)).2 ((h (w.heap.size + 1) w.heap.size { state := .ready, pending := none, fn := fid, tmps := a.tmps, params := ps, assign, body, defers := w.heap.size } rfl rfl rfl rfl rfl ⟨o.size, rfl, o.get⟩ _ _ t3).mono fun e w' q => ?_)
    obtain ⟨v, Δ, rfl, ⟨Δ', rfl, hQ⟩, t4, ad⟩ := q
    refine ⟨_, _, run_endLoop t4.object (fun h => nomatch h), ?_⟩
    rw [setOb_eq]
    have t5 := Imp.drop _ _ _ _ (t4.setObj (loop_ne { ({ state := .ready, pending := none, fn := fid, tmps := a.tmps, params := ps, assign, body, defers := w.heap.size } : Loop) with state := .exhausted }))
    refine ⟨_, _, hQ, ⟨o.size, by simp [o.ds], o.get⟩, t5.unshift, ?_⟩
    exact (hW1 ▸ (Adv.alloc _ _).trans (Adv.alloc _ _) : Adv w W1).trans (ad.trans (Adv.setOb t4.object (loop_ne _) (loop_ne _)))
/-- A function that leaves with a range's mark. -/
def endRM (P : Program) (rs : List ResultVar) (R : Value → List A → Prop) : QX
  | .normal, s, Γ | .ret, s, Γ => ∃ (D : Nat) (Γ' : List A), s.ds = [{ target := .collected D, args := #[] }] ∧ Imp Γ (objc true D (.deferred (some [])) :: Γ') ∧ ∃ vs Δ, ResL P s Γ' rs vs ∧ Imp Γ' Δ ∧ R (packV vs) Δ
  | _, _, _ => False
theorem Trip.startM {f : FuncId} {fn : Func} {c : Code} {args : Array Value} {R : Value → List A → Prop} (n : Nat) (rs : List ResultVar) (e : List (Nat × Value))
    (hf : P.funcs[f]? = some fn) (hb : fn.body = some c) (hn : fn.ntmps = n) (hr : fn.results = rs.toArray) (he : ArgsOk e args) (ha : Nat.ble args.size n = true)
    (h : WPC P n c ⟨[], e⟩ Γ (endRM P rs R)) : Trip P f args Γ R := by
  intro F w t
  have ha' : args.size ≤ n := by simpa using ha
  refine (callsIn_wide (n := 0)).1 (callsIn_of_wp_marks hf hb trivial (wpIn_wide.2 (wp_mono (h F w _ ⟨?_, rfl, fun i v hv => ?_⟩ t) fun e a' w' p => ?_)))
  · simp [hn]; omega
  · have := he.get hv
    have hlt := (Array.getElem?_eq_some_iff.1 this).1
    simp only
    rw [Array.getElem?_append_left hlt]; exact this
  · have fin : ∀ s Γ', (∃ (D : Nat) (Γ0 : List A), s.ds = [{ target := .collected D, args := #[] }] ∧ Imp Γ' (objc true D (.deferred (some [])) :: Γ0) ∧ ∃ vs Δ, ResL P s Γ0 rs vs ∧ Imp Γ0 Δ ∧ R (packV vs) Δ) → Ok n s a' → Sat Γ' F w' → Adv w w' →
        LeavesInM Fence.wide 0 P fn a'.tmps (fun e w' => ∃ u Δ, e = .returned u ∧ R u Δ ∧ Sat Δ F w' ∧ Adv w w') a'.defers .returning w' := by
      rintro s Γ' ⟨D, Γ0, hd, i0, vs, Δ, hv, i, hR⟩ o t ad
      rw [o.ds, hd]
      have t1 := i0 F w' t
      refine ⟨(fun h => nomatch h), .inl ⟨D, _, rfl, run_takeDeferred t1.object, ?_⟩⟩
      rw [setOb_eq]
      have t2 := Imp.drop _ _ _ _ (t1.setObj (defd_ne none))
      refine ⟨packV vs, ?_, packV vs, Δ, rfl, hR, i F _ t2, ad.trans (Adv.setOb t1.object (defd_ne _) (defd_ne _))⟩
      have := hv.run o t2
      rw [results_eq, Array.mapM_eq_mapM_toList, hr]
      simp only [Sem.run_bind, Sem.run_map, this, Result.andThen_ok]
      match vs with
      | [] => simp [packV]
      | [v] => simp [packV]
      | v :: u :: r => simp [packV]
    obtain ⟨s, Δ, k, o, t, ad⟩ := p
    cases e with
    | normal => exact fin s Δ k o t ad
    | ret => exact fin s Δ k o t ad
    | _ => exact k.elim
theorem endRM_r {rs : List ResultVar} {R : Value → List A → Prop} {vs : List Value} {D : Nat} {Γ' : List A} (hd : s.ds = [{ target := .collected D, args := #[] }]) (i0 : Imp Γ (objc true D (.deferred (some [])) :: Γ')) (h : ResL P s Γ' rs vs) (i : Imp Γ' Δ) (r : R (packV vs) Δ) : endRM P rs R .ret s Γ := ⟨D, Γ', hd, i0, vs, Δ, h, i, r⟩
end
end Go.Sl
