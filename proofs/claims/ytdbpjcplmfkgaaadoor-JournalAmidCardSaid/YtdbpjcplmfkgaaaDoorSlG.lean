/- Separation logic over the model's code: the forms in which the printed walks use the rules. -/
import Derived.Test.YtdbpjcplmfkgaaaDoorSlF
namespace Go.Sl
open Go Go.RowKit
section
variable {P : Program} {n : Nat} {s : St} {Γ Δ Θ : List A} {Q : QX} {K : St → List A → Prop} {ops : Array Oper} {d : Option Tmp} {ty : TypeId} {pos : String} {af : Array Edge} {g : Option (Nat × Bool)} {v u : Value} {x y z : Operand} {T : TypeId}

theorem thenQ_n (h : K s Γ) : thenQ K Q .normal s Γ := h
theorem thenQ_r (h : Q .ret s Γ) : thenQ K Q .ret s Γ := h
theorem thenQ_e {id : Nat} (h : Q (.exit id) s Γ) : thenQ K Q (.exit id) s Γ := h
theorem blockQ_n {id : Nat} (h : Q .normal s Γ) : blockQ id Q .normal s Γ := h
theorem blockQ_r {id : Nat} (h : Q .ret s Γ) : blockQ id Q .ret s Γ := h
theorem blockQ_here {id : Nat} (h : Q .normal s Γ) : blockQ id Q (.exit id) s Γ := .inl ⟨rfl, h⟩
theorem blockQ_there {id id' : Nat} (hn : id' ≠ id) (h : Q (.exit id') s Γ) : blockQ id Q (.exit id') s Γ := .inr ⟨hn, h⟩
theorem WPC.seqR {id : Nat} {l : List Oper} {c : Code} (h : WPL P n l.toArray l s Γ (fun s Γ => WPC P n c s Γ Q)) : WPC P n (.seq (.region id l.toArray false) c) s Γ Q := .seq (.region h)
theorem WPC.seqD {id : Nat} {l : List Oper} {c : Code} (hm : P.follows .mixedOrders = true) (h : WPA P n l.toArray l.length [] (Array.replicate l.length false) s Γ (fun s Γ => WPC P n c s Γ Q)) : WPC P n (.seq (.region id l.toArray true) c) s Γ Q := .seq (.draw hm h)
theorem WPC.seqS {c : Code} (h : WPC P n c s Γ Q) : WPC P n (.seq .skip c) s Γ Q := .seq (.skip h)
theorem WPC.seqCut {c c' : Code} (M : St → List A → Prop) (h : WPC P n c s Γ (thenQ M Q)) (k : ∀ s Γ, M s Γ → WPC P n c' s Γ Q) : WPC P n (.seq c c') s Γ Q :=
  .seq (h.mono fun e s Γ q => by cases e <;> first | exact k s Γ q | exact q)
theorem WPC.scopeS {c : Code} (h : WPC P n c s Γ (fun e s Γ => match e with | .goto _ => False | e => Q e s Γ)) : WPC P n (.scope c) s Γ Q := by
  intro F w a o t
  refine wp_scope_straight (wp_mono (h F w a o t) fun e a' w' p => ?_)
  cases e with
  | goto l => obtain ⟨_, _, k, _⟩ := p; exact k.elim
  | _ => exact p
theorem q_faK {b o k f off : Nat} (hf : faB P T f = some off) (h : ev s x = some (.pointer (some ⟨b, o + k, none⟩))) : Q1 P ⟨d, .fieldAddr T x f, ty, pos, af, g⟩ s Γ (.pointer (some ⟨b, o + (k + off), none⟩)) := by
  rw [← Nat.add_assoc]; exact q_fa hf h
theorem q_load1z {p : Bool} {b o : Nat} {vs : List Value} (hT : ldB P T = some none) (hx : ev s x = some (.pointer (some ⟨b, o, none⟩))) (hm : cells p b o vs ∈ Γ) (hv : vs[0]? = some v) :
    Q1 P ⟨d, .load T x, ty, pos, af, g⟩ s Γ v := q_load1 (i := 0) hT hx hm rfl hv
theorem q_loadNz {p : Bool} {b o k : Nat} {vs us : List Value} (hT : ldB P T = some (some k)) (hx : ev s x = some (.pointer (some ⟨b, o, none⟩))) (hm : cells p b o vs ∈ Γ) (hv : vs.take us.length = us ∧ us.length = k) :
    Q1 P ⟨d, .load T x, ty, pos, af, g⟩ s Γ (.agg us.toArray) := q_loadN (i := 0) hT hx hm rfl hv.2 (by rw [← hv.2]; simpa using hv.1)
theorem q_loadNk {p : Bool} {b o i k : Nat} {vs us : List Value} (hT : ldB P T = some (some k)) (hx : ev s x = some (.pointer (some ⟨b, o + i, none⟩))) (hm : cells p b o vs ∈ Γ) (hv : (vs.drop i).take us.length = us ∧ us.length = k) :
    Q1 P ⟨d, .load T x, ty, pos, af, g⟩ s Γ (.agg us.toArray) := q_loadN (i := i) hT hx hm rfl hv.2 (by rw [← hv.2]; simpa using hv.1)
theorem s_store1k {b o i : Nat} {vs vs' : List Value} (hT : szB P T = some 1) (hx : ev s x = some (.pointer (some ⟨b, o + i, none⟩))) (hy : ev s y = some u) (hu : u.oneCell' = true) (hc : u.cells = #[u])
    (hm : Upd Γ (cells true b o vs) (cells true b o vs') Δ) (hv : SetAt vs i u vs') : S1 P ⟨d, .store T x y, ty, pos, af, g⟩ s Γ Δ := s_store1 hT hx hy hu hc rfl hv hm
theorem s_store1z {b o : Nat} {vs vs' : List Value} (hT : szB P T = some 1) (hx : ev s x = some (.pointer (some ⟨b, o, none⟩))) (hy : ev s y = some u) (hu : u.oneCell' = true) (hc : u.cells = #[u])
    (hm : Upd Γ (cells true b o vs) (cells true b o vs') Δ) (hv : SetAt vs 0 u vs') : S1 P ⟨d, .store T x y, ty, pos, af, g⟩ s Γ Δ := s_store1 (i := 0) hT hx hy hu hc rfl hv hm
inductive SpL : List Value → Nat → List Value → List Value → Prop
  | nil {r : List Value} : SpL r 0 [] r
  | put {x u : Value} {r us r' : List Value} : SpL r 0 us r' → SpL (x :: r) 0 (u :: us) (u :: r')
  | skip {x : Value} {i : Nat} {r us r' : List Value} : SpL r i us r' → SpL (x :: r) (i + 1) us (x :: r')
theorem SpL.eq {vs us vs' : List Value} {i : Nat} (h : SpL vs i us vs') : i + us.length ≤ vs.length ∧ vs' = vs.take i ++ us ++ vs.drop (i + us.length) := by
  induction h with
  | nil => simp
  | @put x u r us r' _ ih =>
    refine ⟨by simp at ih ⊢; exact ih.1, ?_⟩
    rw [ih.2]; simp
  | @skip x i r us r' _ ih =>
    refine ⟨by simp at ih ⊢; omega, ?_⟩
    rw [ih.2, show i + 1 + us.length = i + us.length + 1 by omega]; simp
theorem s_storeNk {b o i k : Nat} {vs us vs' : List Value} (hT : szB P T = some k) (hx : ev s x = some (.pointer (some ⟨b, o + i, none⟩))) (hy : ev s y = some (.agg us.toArray)) (hu : ∀ u ∈ us, u.oneCell' = true) (hk : us.length = k)
    (hm : Upd Γ (cells true b o vs) (cells true b o vs') Δ) (hv : SpL vs i us vs') : S1 P ⟨d, .store T x y, ty, pos, af, g⟩ s Γ Δ := by
  obtain ⟨h1, rfl⟩ := hv.eq
  subst hk
  exact s_storeN hT hx hy hu rfl rfl h1 hm
theorem s_storeNz {b o k : Nat} {vs us vs' : List Value} (hT : szB P T = some k) (hx : ev s x = some (.pointer (some ⟨b, o, none⟩))) (hy : ev s y = some (.agg us.toArray)) (hu : ∀ u ∈ us, u.oneCell' = true) (hk : us.length = k)
    (hm : Upd Γ (cells true b o vs) (cells true b o vs') Δ) (hv : SpL vs 0 us vs') : S1 P ⟨d, .store T x y, ty, pos, af, g⟩ s Γ Δ := s_storeNk (o := o) (i := 0) hT hx hy hu hk hm hv
theorem e_box1 (hx : ev s x = some v) (hc : v.cells = #[v]) : E1 P ⟨d, .box T x, ty, pos, af, g⟩ s Γ (newR Γ [v] fun b => .pointer (some ⟨b, 0, none⟩)) := by
  have := e_box (P := P) (Γ := Γ) (d := d) (ty := ty) (pos := pos) (af := af) (g := g) (T := T) hx
  rw [hc] at this; exact this
theorem e_boxN {us : List Value} (hx : ev s x = some (.agg us.toArray)) : E1 P ⟨d, .box T x, ty, pos, af, g⟩ s Γ (newR Γ us fun b => .pointer (some ⟨b, 0, none⟩)) :=
  e_box (P := P) (Γ := Γ) (d := d) (ty := ty) (pos := pos) (af := af) (g := g) (T := T) hx
def zL (P : Program) (T : TypeId) : Option (List Value) := (zB P T).map (·.cells.toList)
theorem e_allocL {zs : List Value} (hz : zL P T = some zs) : E1 P ⟨d, .alloc T, ty, pos, af, g⟩ s Γ (newR Γ zs fun b => .pointer (some ⟨b, 0, none⟩)) := by
  unfold zL at hz
  cases h : zB P T with
  | none => rw [h] at hz; cases hz
  | some z => rw [h] at hz; simp at hz; subst hz; exact e_alloc h
def bit (a b : Bool) : Bool := a == b
theorem q_boolEq {T' : TypeId} {a b : Bool} (hT : P.underlying T = some .bool) (hx : ev s x = some (.bool a)) (hy : ev s y = some (.bool b)) : Q1 P ⟨d, .binOp .eql T x y T', ty, pos, af, g⟩ s Γ (.bool (a == b)) := fun _ w _ e _ => by
  have := run_equal_bool (P := P) w T a b hT
  simp [execOp, e _ _ hx, e _ _ hy, eqGuard, binOp, this]
theorem q_boolNe {T' : TypeId} {a b : Bool} (hT : P.underlying T = some .bool) (hx : ev s x = some (.bool a)) (hy : ev s y = some (.bool b)) : Q1 P ⟨d, .binOp .neq T x y T', ty, pos, af, g⟩ s Γ (.bool (!(a == b))) := fun _ w _ e _ => by
  have := run_equal_bool (P := P) w T a b hT
  simp [execOp, e _ _ hx, e _ _ hy, eqGuard, binOp, this]
theorem run_equalIn_slNil {e : TypeId} (hT : P.underlying T = some (.slice e)) (dd : Nat) (a : Option Addr) (m c : Nat) (w : World) : (Op.equalIn (dd + 1) T (.slice a m c) (.slice none 0 0)).run P w = .ok a.isNone w := by
  cases a <;> simp [Op.equalIn, underlying, hT]
theorem run_equal_slNil {e : TypeId} (hT : P.underlying T = some (.slice e)) (a : Option Addr) (m c : Nat) (w : World) : (Op.equal T (.slice a m c) (.slice none 0 0)).run P w = .ok a.isNone w := run_equalIn_slNil hT 9999 a m c w
theorem q_slNilEq {T' : TypeId} {e m c : Nat} {a : Option Addr} (hT : P.underlying T = some (.slice e)) (hx : ev s x = some (.slice a m c)) (hy : ev s y = some (.slice none 0 0)) : Q1 P ⟨d, .binOp .eql T x y T', ty, pos, af, g⟩ s Γ (.bool a.isNone) := fun _ w _ e _ => by
  have := run_equal_slNil hT a m c w
  simp [execOp, e _ _ hx, e _ _ hy, eqGuard, binOp, this]
theorem q_slNilNe {T' : TypeId} {e m c : Nat} {a : Option Addr} (hT : P.underlying T = some (.slice e)) (hx : ev s x = some (.slice a m c)) (hy : ev s y = some (.slice none 0 0)) : Q1 P ⟨d, .binOp .neq T x y T', ty, pos, af, g⟩ s Γ (.bool (!a.isNone)) := fun _ w _ e _ => by
  have := run_equal_slNil hT a m c w
  simp [execOp, e _ _ hx, e _ _ hy, eqGuard, binOp, this]
theorem run_equalIn_ptNil {e : TypeId} (hT : P.underlying T = some (.pointer e)) (dd : Nat) (a : Option Addr) (w : World) : (Op.equalIn (dd + 1) T (.pointer a) (.pointer none)).run P w = .ok a.isNone w := by
  cases a <;> simp [Op.equalIn, underlying, hT]
theorem run_equal_ptNil {e : TypeId} (hT : P.underlying T = some (.pointer e)) (a : Option Addr) (w : World) : (Op.equal T (.pointer a) (.pointer none)).run P w = .ok a.isNone w := run_equalIn_ptNil hT 9999 a w
theorem q_ptNilEq {T' : TypeId} {e : Nat} {a : Option Addr} (hT : P.underlying T = some (.pointer e)) (hx : ev s x = some (.pointer a)) (hy : ev s y = some (.pointer none)) : Q1 P ⟨d, .binOp .eql T x y T', ty, pos, af, g⟩ s Γ (.bool a.isNone) := fun _ w _ e _ => by
  have := run_equal_ptNil hT a w
  cases a <;> simp at this <;> simp [execOp, e _ _ hx, e _ _ hy, eqGuard, binOp, this]
theorem q_ptNilNe {T' : TypeId} {e : Nat} {a : Option Addr} (hT : P.underlying T = some (.pointer e)) (hx : ev s x = some (.pointer a)) (hy : ev s y = some (.pointer none)) : Q1 P ⟨d, .binOp .neq T x y T', ty, pos, af, g⟩ s Γ (.bool (!a.isNone)) := fun _ w _ e _ => by
  have := run_equal_ptNil hT a w
  cases a <;> simp at this <;> simp [execOp, e _ _ hx, e _ _ hy, eqGuard, binOp, this]
theorem q_field1 {f off : Nat} {cs : Array Value} (hT : ∃ fs fl, P.underlying T = some (.struct fs) ∧ fs[f]? = some fl ∧ fl.offset = off ∧ ldB P fl.type = some none) (hx : ev s x = some (.agg cs)) (hv : cs[off]? = some v) :
    Q1 P ⟨d, .field T x f, ty, pos, af, g⟩ s Γ v := fun _ w _ e _ => by
  obtain ⟨fs, fl, h1, h2, rfl, h3⟩ := hT
  have h4 := (isAgg_of h3 w).1
  simp at h4
  simp [execOp, e _ _ hx, Instr.field, underlying, h1, h2, asAgg, part, h4, hv]
theorem q_min2 {k : IntKind} {a b : Int} {ts : Array TypeId} (hx : ev s x = some (.int k a)) (hy : ev s y = some (.int k b)) : Q1 P ⟨d, .call { callee := .builtin .min, args := #[x, y], argTypes := ts }, ty, pos, af, g⟩ s Γ (.int k (min a b)) := fun _ _ _ e _ => by
  have : (if b < a then b else a) = min a b := by rw [Int.min_def]; split <;> split <;> omega
  simp [execOp, resolve, invoke, builtin, Builtin.min_, Builtin.min2, e _ _ hx, e _ _ hy, this]
theorem q_max2 {k : IntKind} {a b : Int} {ts : Array TypeId} (hx : ev s x = some (.int k a)) (hy : ev s y = some (.int k b)) : Q1 P ⟨d, .call { callee := .builtin .max, args := #[x, y], argTypes := ts }, ty, pos, af, g⟩ s Γ (.int k (max a b)) := fun _ _ _ e _ => by
  have : (if a < b then b else a) = max a b := by rw [Int.max_def]; split <;> split <;> omega
  simp [execOp, resolve, invoke, builtin, Builtin.max_, Builtin.max2, e _ _ hx, e _ _ hy, this]
theorem C1.call {o : Oper} {f : FuncId} {args : Array Value} {pre : List A} {R : Value → List A → Prop} (h : C1 P o s f args) (c : Trip P f args pre R) (hp : Pick Γ pre Θ) (hd : dok n o.dst = true)
    (k : ∀ v Δ, R v Δ → K (s.put o.dst v) (Δ ++ Θ)) : WPO P n o s Γ K :=
  h.wpo ((c.frame Θ).imp hp.imp) hd fun v Δ ⟨Δ', hR, e⟩ => e ▸ k v Δ' hR

/- A function's end: results in slots and in memory. -/
inductive ResL (P : Program) (s : St) (Γ : List A) : List ResultVar → List Value → Prop
  | nil : ResL P s Γ [] []
  | tmp {t : Tmp} {v : Value} {rs : List ResultVar} {vs : List Value} : getE s.env t = some v → ResL P s Γ rs vs → ResL P s Γ (.tmp t :: rs) (v :: vs)
  | cell1 {t T : Nat} {b o i : Nat} {p : Bool} {cs : List Value} {v : Value} {rs : List ResultVar} {vs : List Value} : getE s.env t = some (.pointer (some ⟨b, o + i, none⟩)) → ldB P T = some none → cells p b o cs ∈ Γ → cs[i]? = some v → ResL P s Γ rs vs → ResL P s Γ (.cell t T :: rs) (v :: vs)
  | cellN {t T : Nat} {b k : Nat} {p : Bool} {cs us : List Value} {rs : List ResultVar} {vs : List Value} : getE s.env t = some (.pointer (some ⟨b, 0, none⟩)) → ldB P T = some (some k) → cells p b 0 cs ∈ Γ → cs.take us.length = us → us.length = k → ResL P s Γ rs vs → ResL P s Γ (.cell t T :: rs) (.agg us.toArray :: vs)
  | cell0 {t T : Nat} {b : Nat} {p : Bool} {cs : List Value} {v : Value} {rs : List ResultVar} {vs : List Value} : getE s.env t = some (.pointer (some ⟨b, 0, none⟩)) → ldB P T = some none → cells p b 0 cs ∈ Γ → cs[0]? = some v → ResL P s Γ rs vs → ResL P s Γ (.cell t T :: rs) (v :: vs)
theorem ResL.run {rs : List ResultVar} {vs : List Value} (h : ResL P s Γ rs vs) {F : A} {w : World} {a : Act} (o : Ok n s a) (t : Sat Γ F w) : (rs.mapM (resOne a.tmps)).run P w = .ok vs w := by
  induction h with
  | nil => simp
  | tmp hg _ ih => have hg := o.get _ _ hg; simp [List.mapM_cons, resOne, hg, ih]
  | cell1 hg hT hm hv _ ih =>
    have hg := o.get _ _ hg
    obtain ⟨_, t1⟩ := Sat.mem hm t
    have hc := t1.cell hv
    have h1 := (isAgg_of hT w).1
    simp at h1
    simp [List.mapM_cons, resOne, hg, ih, asAddr, loadVar, h1, load, Sem.run, hc]
  | cell0 hg hT hm hv _ ih =>
    have hg := o.get _ _ hg
    obtain ⟨_, t1⟩ := Sat.mem hm t
    have hc := t1.cell hv
    have h1 := (isAgg_of hT w).1
    simp at h1 hc
    simp [List.mapM_cons, resOne, hg, ih, asAddr, loadVar, h1, load, Sem.run, hc]
  | cellN hg hT hm hv hk _ ih =>
    rename_i us _ _ _
    have hg := o.get _ _ hg
    obtain ⟨_, t1⟩ := Sat.mem hm t
    obtain ⟨h1, h2, _⟩ := isAgg_of hT w
    subst hk
    have h3 := run_size (h2 _ rfl) w
    have h4 := t1.load (P := P) 0 us (by simpa using hv)
    simp at h1 h4
    simp [List.mapM_cons, resOne, hg, ih, asAddr, loadVar, h1, h3, h4]
def endR (P : Program) (rs : List ResultVar) (R : Value → List A → Prop) : QX
  | .normal, s, Γ | .ret, s, Γ => s.ds = [] ∧ ∃ vs Δ, ResL P s Γ rs vs ∧ Imp Γ Δ ∧ R (packV vs) Δ
  | _, _, _ => False
theorem endR_n {rs : List ResultVar} {R : Value → List A → Prop} {vs : List Value} (hd : s.ds = []) (h : ResL P s Γ rs vs) (i : Imp Γ Δ) (r : R (packV vs) Δ) : endR P rs R .normal s Γ := ⟨hd, vs, Δ, h, i, r⟩
theorem endR_r {rs : List ResultVar} {R : Value → List A → Prop} {vs : List Value} (hd : s.ds = []) (h : ResL P s Γ rs vs) (i : Imp Γ Δ) (r : R (packV vs) Δ) : endR P rs R .ret s Γ := ⟨hd, vs, Δ, h, i, r⟩
theorem Trip.start {f : FuncId} {fn : Func} {c : Code} {args : Array Value} {R : Value → List A → Prop} (n : Nat) (rs : List ResultVar) (e : List (Nat × Value))
    (hf : P.funcs[f]? = some fn) (hb : fn.body = some c) (hn : fn.ntmps = n) (hr : fn.results = rs.toArray) (he : ArgsOk e args) (ha : Nat.ble args.size n = true)
    (h : WPC P n c ⟨[], e⟩ Γ (endR P rs R)) : Trip P f args Γ R := by
  intro F w t
  have ha' : args.size ≤ n := by simpa using ha
  refine calls_of_wp hf hb (wp_mono (h F w _ ⟨?_, rfl, fun i v hv => ?_⟩ t) fun e a' w' p => ?_)
  · simp [hn]; omega
  · have := he.get hv
    have hlt := (Array.getElem?_eq_some_iff.1 this).1
    simp only
    rw [Array.getElem?_append_left hlt]; exact this
  · have fin : ∀ s Γ', (s.ds = [] ∧ ∃ vs Δ, ResL P s Γ' rs vs ∧ Imp Γ' Δ ∧ R (packV vs) Δ) → Ok n s a' → Sat Γ' F w' → Adv w w' →
        a'.defers = [] ∧ ∃ v, (results fn a'.tmps).run P w' = .ok v w' ∧ ∃ u Δ, Ending.returned v = .returned u ∧ R u Δ ∧ Sat Δ F w' ∧ Adv w w' := by
      rintro s Γ' ⟨hd, vs, Δ, hv, i, hR⟩ o t ad
      refine ⟨o.ds.trans hd, packV vs, ?_, packV vs, Δ, rfl, hR, i F w' t, ad⟩
      have := hv.run o t
      rw [results_eq, Array.mapM_eq_mapM_toList, hr]
      simp only [Sem.run_bind, Sem.run_map, this, Result.andThen_ok]
      match vs with
      | [] => simp [packV]
      | [v] => simp [packV]
      | v :: u :: r => simp [packV]
    obtain ⟨s, Δ, k, o, t, ad⟩ := p
    cases e with
    | normal => exact fin s Δ k o t ad
    | ret => exact fin s Δ k o t ad
    | _ => exact k.elim
/- Packed assertions. -/
theorem Trip.exg {α : Sort _} {f : FuncId} {args : Array Value} {L : α → List A} {R : Value → List A → Prop} (h : ∀ r, Trip P f args (L r ++ Γ) R) : Trip P f args (Sl.ex (fun r => grp (L r)) :: Γ) R :=
  fun F w t => let ⟨x, t⟩ := Sat.ex.1 t; h x F w (Sat.grp.1 t)
theorem WPC.exg {α : Sort _} {c : Code} {L : α → List A} (h : ∀ r, WPC P n c s (L r ++ Γ) Q) : WPC P n c s (Sl.ex (fun r => grp (L r)) :: Γ) Q :=
  fun F w a o t => let ⟨x, t⟩ := Sat.ex.1 t; h x F w a o (Sat.grp.1 t)
theorem WPL.exg {α : Sort _} {l : List Oper} {L : α → List A} (h : ∀ r, WPL P n ops l s (L r ++ Γ) K) : WPL P n ops l s (Sl.ex (fun r => grp (L r)) :: Γ) K :=
  fun F w a o t => let ⟨x, t⟩ := Sat.ex.1 t; h x F w a o (Sat.grp.1 t)
theorem WPA.exg {α : Sort _} {f : Nat} {lk : SLocks} {listed : Array Bool} {L : α → List A} (h : ∀ r, WPA P n ops f lk listed s (L r ++ Γ) K) : WPA P n ops f lk listed s (Sl.ex (fun r => grp (L r)) :: Γ) K :=
  fun F w0 w a ad o t hc => let ⟨x, t⟩ := Sat.ex.1 t; h x F w0 w a ad o (Sat.grp.1 t) hc
theorem Imp.packg {α : Sort _} {L : α → List A} (x : α) {Γ : List A} : Imp (L x ++ Γ) (Sl.ex (fun r => grp (L r)) :: Γ) := fun F w t => Sat.ex.2 ⟨x, Sat.grp.2 t⟩
theorem Imp.pureI {φ : Prop} (h : φ) {Γ : List A} : Imp Γ (pu φ :: Γ) := fun _ _ t => Sat.pure.2 ⟨h, t⟩
/-- Any list that can be picked out. -/
theorem Imp.pick (h : Pick Γ Δ Θ) : Imp Γ Δ := by
  have := h.imp.trans (Imp.pre Δ (Imp.nil Θ))
  rwa [List.append_nil] at this
/- Regions that draw: the forms for the printed walks. -/
theorem wpAnyL.addTrue {R : Act → World → Prop} {p : Nat × (World → Prop)} (hp : ∀ w, p.2 w) : ∀ {f : Nat} {lk : Locks} {listed : Array Bool} {a : Act} {w : World}, wpAnyL P ops R f lk listed a w → wpAnyL P ops R f (p :: lk) listed a w
  | 0, _, _, _, _, h => h
  | _ + 1, _, _, _, _, h => ⟨h.1, fun i hi => wpOp_mono (fun _ _ ⟨lk', h1, h2, h3⟩ => ⟨p :: lk', fun q hq => by
      rcases List.mem_cons.1 hq with rfl | hq
      · exact .inl (by simp)
      · exact (h1 q hq).imp (fun h => List.mem_cons_of_mem _ h) id, fun q hq => by
      rcases List.mem_cons.1 hq with rfl | hq
      · exact hp _
      · exact h2 q hq, wpAnyL.addTrue hp h3⟩) (h.2 i hi)⟩
theorem lockC_nil (w : World) : lockC [] w := ⟨fun _ => True, fun _ => none, trivial, fun k p x h => by cases h⟩
section
variable {f : Nat} {lk : SLocks} {listed : Array Bool}
theorem WPA.addTrue {i : Nat} (h : WPA P n ops f lk listed s Γ K) : WPA P n ops f ((i, []) :: lk) listed s Γ K := fun F w0 w a ad o t hc =>
  wpAnyL.addTrue lockC_nil (h F w0 w a ad o t hc)
theorem WPA.takeP (i : Nat) {o : Oper} {v : Value} (ho : ops[i]? = some o) (hq : Q1 P o s [] v) (hsel : noSel ops = true) (hr : (Region.ready .any ops listed).contains i = true) (ht : takeB ops listed i o = true) (hg : o.guard = none) (hd : dok n o.dst = true) (hl : Lk lk Γ)
    (h : WPA P n ops f lk (listed.setIfInBounds i true) (s.put o.dst v) Γ K) : WPA P n ops (f + 1) lk listed s Γ K := .take i [] ho hsel hr ht hg hd hq (Ent.nil Γ) hl h.addTrue
theorem WPA.takeL (i : Nat) {o : Oper} {v : Value} {H : List A} (ho : ops[i]? = some o) (he : Ent Γ H) (hq : Q1 P o s H v) (hsel : noSel ops = true) (hr : (Region.ready .any ops listed).contains i = true) (ht : takeB ops listed i o = true) (hg : o.guard = none) (hd : dok n o.dst = true) (hl : Lk lk Γ)
    (h : WPA P n ops f ((i, H) :: lk) (listed.setIfInBounds i true) (s.put o.dst v) Γ K) : WPA P n ops (f + 1) lk listed s Γ K := .take i H ho hsel hr ht hg hd hq he hl h
theorem WPA.takePY (i : Nat) {o : Oper} {v : Value} {j tt : Nat} {b : Bool} (ho : ops[i]? = some o) (hg : o.guard = some (j, b)) (hj : (ops[j]?).bind (·.dst) = some tt) (hv : getE s.env tt = some (.bool b)) (hq : Q1 P o s [] v) (hsel : noSel ops = true) (hr : (Region.ready .any ops listed).contains i = true)
    (ht : takeB ops listed i o = true) (hd : dok n o.dst = true) (hl : Lk lk Γ) (h : WPA P n ops f lk (listed.setIfInBounds i true) (s.put o.dst v) Γ K) : WPA P n ops (f + 1) lk listed s Γ K := .takeYes i [] ho hsel hr ht hg hj hv hd hq (Ent.nil Γ) hl h.addTrue
theorem WPA.takeLY (i : Nat) {o : Oper} {v : Value} {H : List A} {j tt : Nat} {b : Bool} (ho : ops[i]? = some o) (he : Ent Γ H) (hg : o.guard = some (j, b)) (hj : (ops[j]?).bind (·.dst) = some tt) (hv : getE s.env tt = some (.bool b)) (hq : Q1 P o s H v) (hsel : noSel ops = true)
    (hr : (Region.ready .any ops listed).contains i = true) (ht : takeB ops listed i o = true) (hd : dok n o.dst = true) (hl : Lk lk Γ) (h : WPA P n ops f ((i, H) :: lk) (listed.setIfInBounds i true) (s.put o.dst v) Γ K) : WPA P n ops (f + 1) lk listed s Γ K := .takeYes i H ho hsel hr ht hg hj hv hd hq he hl h
theorem WPA.takeN (i : Nat) {o : Oper} {j tt : Nat} {b c : Bool} (ho : ops[i]? = some o) (hg : o.guard = some (j, b)) (hj : (ops[j]?).bind (·.dst) = some tt) (hv : getE s.env tt = some (.bool c)) (hb : (b == c) = false) (hsel : noSel ops = true) (hr : (Region.ready .any ops listed).contains i = true)
    (ht : takeB ops listed i o = true) (hd : dok n o.dst = true) (hl : Lk lk Γ) (h : WPA P n ops f lk (listed.setIfInBounds i true) (s.put o.dst undef) Γ K) : WPA P n ops (f + 1) lk listed s Γ K := .takeNo i ho hsel hr ht hg hj hv (.inr ⟨c, rfl, hb⟩) hd hl h.addTrue
theorem WPA.takeU (i : Nat) {o : Oper} {j tt : Nat} {b : Bool} (ho : ops[i]? = some o) (hg : o.guard = some (j, b)) (hj : (ops[j]?).bind (·.dst) = some tt) (hv : getE s.env tt = some undef) (hsel : noSel ops = true) (hr : (Region.ready .any ops listed).contains i = true)
    (ht : takeB ops listed i o = true) (hd : dok n o.dst = true) (hl : Lk lk Γ) (h : WPA P n ops f lk (listed.setIfInBounds i true) (s.put o.dst undef) Γ K) : WPA P n ops (f + 1) lk listed s Γ K := .takeNo i ho hsel hr ht hg hj hv (.inl rfl) hd hl h.addTrue
inductive Hk (ops : Array Oper) (i : Nat) (lk' : SLocks) : SLocks → Prop
  | nil : Hk ops i lk' []
  | anc {p : Nat × List A} {r : SLocks} : anc ops i p.1 = true → Hk ops i lk' r → Hk ops i lk' (p :: r)
  | keep {p : Nat × List A} {r : SLocks} : p ∈ lk' → Hk ops i lk' r → Hk ops i lk' (p :: r)
theorem Hk.get {i : Nat} {lk' lk : SLocks} (h : Hk ops i lk' lk) : ∀ p ∈ lk, p ∈ lk' ∨ Sl.anc ops i p.1 = true := by
  induction h with
  | nil => intro p hp; cases hp
  | anc ha _ ih =>
    intro p hp
    rcases List.mem_cons.1 hp with rfl | hp
    · exact .inr ha
    · exact ih p hp
  | keep hk _ ih =>
    intro p hp
    rcases List.mem_cons.1 hp with rfl | hp
    · exact .inl hk
    · exact ih p hp
theorem WPA.oneE (i : Nat) {o : Oper} (lk' : SLocks) (hr : Region.ready .any ops listed = [i]) (ho : ops[i]? = some o) (hg : o.guard = none) (hlk : Hk ops i lk' lk)
    (h : WPO P n o s Γ (fun s' Γ' => Lk lk' Γ' ∧ WPA P n ops f lk' (listed.setIfInBounds i true) s' Γ' K)) : WPA P n ops (f + 1) lk listed s Γ K := .one i lk' hr ho hg hlk.get h
theorem WPA.oneY (i : Nat) {o : Oper} (lk' : SLocks) {j tt : Nat} {b : Bool} (hr : Region.ready .any ops listed = [i]) (ho : ops[i]? = some o) (hg : o.guard = some (j, b)) (hj : (ops[j]?).bind (·.dst) = some tt) (hv : getE s.env tt = some (.bool b)) (hlk : Hk ops i lk' lk)
    (h : WPO P n o s Γ (fun s' Γ' => Lk lk' Γ' ∧ WPA P n ops f lk' (listed.setIfInBounds i true) s' Γ' K)) : WPA P n ops (f + 1) lk listed s Γ K :=
  .step [i] hr (by simp) fun j' hj' => by
    rcases List.mem_singleton.1 hj' with rfl
    exact ⟨o, lk', ho, hlk.get, .inr ⟨j, tt, b, hg, hj, hv, h⟩⟩
theorem Eff.mk (i : Nat) {o : Oper} (lk' : SLocks) (ho : ops[i]? = some o) (hg : o.guard = none) (hlk : Hk ops i lk' lk)
    (h : WPO P n o s Γ (fun s' Γ' => Lk lk' Γ' ∧ WPA P n ops f lk' (listed.setIfInBounds i true) s' Γ' K)) : Eff P n ops f lk listed s Γ K i := ⟨o, lk', ho, hlk.get, .inl ⟨hg, h⟩⟩
theorem WPA.two (i j : Nat) (hr : Region.ready .any ops listed = [i, j]) (hi : Eff P n ops f lk listed s Γ K i) (hj : Eff P n ops f lk listed s Γ K j) : WPA P n ops (f + 1) lk listed s Γ K :=
  .step [i, j] hr (by simp) fun k hk => by
    rcases List.mem_cons.1 hk with rfl | hk
    · exact hi
    · rcases List.mem_singleton.1 hk with rfl; exact hj
theorem WPA.three (i j k : Nat) (hr : Region.ready .any ops listed = [i, j, k]) (hi : Eff P n ops f lk listed s Γ K i) (hj : Eff P n ops f lk listed s Γ K j) (hk : Eff P n ops f lk listed s Γ K k) : WPA P n ops (f + 1) lk listed s Γ K :=
  .step [i, j, k] hr (by simp) fun q hq => by
    simp only [List.mem_cons, List.not_mem_nil, or_false] at hq
    rcases hq with rfl | rfl | rfl
    · exact hi
    · exact hj
    · exact hk
end
end
end Go.Sl
