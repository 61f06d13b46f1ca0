/- Plain models: logs. -/
import Derived.Test.YtpipmojaonialaaSlK
namespace Go.Sl
open Go
/-- An entry as it lies in memory: its term, its kind, the slice of its bytes. -/
structure RE where
  t : Int
  k : Int
  da : Option Addr
  dn : Nat
  dc : Nat
def RE.zero : RE := ⟨0, 0, none, 0, 0⟩
abbrev encE (e : RE) : List Value := [.int .u64 e.t, .int .i64 e.k, .slice e.da e.dn e.dc]
theorem encE_len (e : RE) : (encE e).length = 3 := rfl
def lgEntry (base : Int) (es : List RE) (i : Int) : Option RE := if base < i then es[(i - base - 1).toNat]? else none
def lgTerm (base bt : Int) (es : List RE) (i : Int) : Option Int := if i = base then some bt else (lgEntry base es i).map (·.t)
def lgLastTerm (bt : Int) (es : List RE) : Int := match es.getLast? with
  | some e => e.t
  | none => bt
theorem lgEntry_none {base : Int} {es : List RE} {i : Int} (h : ¬ (base < i ∧ i ≤ base + es.length)) : lgEntry base es i = none := by
  unfold lgEntry
  split
  · rw [List.getElem?_eq_none]; omega
  · rfl
theorem lgTerm_last (base bt : Int) (es : List RE) : lgTerm base bt es (base + es.length) = some (lgLastTerm bt es) := by
  unfold lgTerm lgLastTerm lgEntry
  cases es with
  | nil => simp
  | cons e r =>
    rw [if_neg (by simp; omega), if_pos (by simp; omega)]
    have h : (base + ((e :: r).length : Int) - base - 1).toNat = (e :: r).length - 1 := by simp; omega
    rw [h, ← List.getLast?_eq_getElem?]
    cases hl : (e :: r).getLast? with
    | none => simp at hl
    | some x => rfl
def lgNewer (base bt : Int) (es : List RE) (term last : Int) : Bool := decide (lgLastTerm bt es < term) || (decide (term = lgLastTerm bt es) && decide (base + es.length ≤ last))
/- Groups. -/
def cntIn (conf some : List Int) : Nat := (conf.filter (fun m => decide (m ∈ some))).length
theorem cntIn_succ {conf some : List Int} {k : Nat} {x : Int} (h : conf[k]? = .some x) : cntIn (conf.take (k + 1)) some = cntIn (conf.take k) some + (if x ∈ some then 1 else 0) := by
  have : conf.take (k + 1) = conf.take k ++ [x] := by rw [List.take_succ_eq_append_getElem (by rw [List.getElem?_eq_some_iff] at h; exact h.1)]; congr 2; rw [List.getElem?_eq_some_iff] at h; exact h.2
  unfold cntIn; rw [this, List.filter_append, List.length_append]; congr 1; simp only [List.filter_cons, List.filter_nil]; split <;> simp_all
theorem cntIn_le (conf some : List Int) : cntIn conf some ≤ conf.length := List.length_filter_le _ _
def agrees (conf yes : List Int) : Bool := decide (conf.length / 2 + 1 ≤ cntIn conf yes)
/- Nodes, messages. -/
structure RM where
  kind : Int
  fr : Int
  to : Int
  term : Int
  index : Int
  prev : Int
  commit : Int
  ok : Bool
  da : Option Addr
  dn : Nat
  dc : Nat
  ea : Option Addr
  en : Nat
  ec : Nat
abbrev encM (m : RM) : List Value := [.int .i64 m.kind, .int .i64 m.fr, .int .i64 m.to, .int .u64 m.term, .int .u64 m.index, .int .u64 m.prev, .int .u64 m.commit, .bool m.ok, .slice m.da m.dn m.dc, .slice m.ea m.en m.ec]
theorem encM_len (m : RM) : (encM m).length = 10 := rfl
abbrev msg (kind fr to term index prev : Int) (ok : Bool) : RM := ⟨kind, fr, to, term, index, prev, 0, ok, none, 0, 0, none, 0, 0⟩
structure EN where
  me : Int
  vote : Int
  role : Int
  lead : Int
  conf : List Int
  yes : List Int
  term : Int
  commit : Int
  base : Int
  bt : Int
  es : List RE
  heard : Bool
  next : List Int
  mtch : List Int
/-- Where a node's parts lie. -/
structure NL where
  ca : Option Addr
  cn : Nat
  cc : Nat
  ya : Option Addr
  yn : Nat
  yc : Nat
  ea : Option Addr
  en : Nat
  ec : Nat
  na : Nat
  ma : Nat
abbrev nodeC (x : EN) (L : NL) : List Value := [.int .i64 x.me, .int .i64 x.vote, .int .i64 x.role, .int .i64 x.lead, .slice L.ca L.cn L.cc, .slice L.ya L.yn L.yc, .int .u64 x.term, .int .u64 x.commit, .int .u64 x.base, .int .u64 x.bt, .slice L.ea L.en L.ec, .bool x.heard, .slice (some ⟨L.na, 0, none⟩) 16 16, .slice (some ⟨L.ma, 0, none⟩) 16 16]
structure NOk (x : EN) (L : NL) : Prop where
  c : Sok 1 L.ca L.cn L.cc (x.conf.map (.int .i64))
  cn : L.cn < 1073741824
  e : Sok 3 L.ea L.en L.ec (x.es.flatMap encE)
  en : L.en < 1073741824
  n : x.next.length = 16
  m : x.mtch.length = 16
abbrev enodeL (b o : Nat) (x : EN) (L : NL) : List A := [pu (NOk x L), cells true b o (nodeC x L), sl false L.ca (x.conf.map (.int .i64)), buf 1 L.ya L.yn L.yc (x.yes.map (.int .i64)), sl false L.ea (x.es.flatMap encE), cells true L.na 0 (x.next.map (.int .u64)), cells true L.ma 0 (x.mtch.map (.int .u64))]
def enode (b o : Nat) (x : EN) : A := ex fun L => grp (enodeL b o x L)
theorem enode_close {b o : Nat} {x : EN} (L : NL) (h : NOk x L) {Γ : List A} : Imp (cells true b o (nodeC x L) :: sl false L.ca (x.conf.map (.int .i64)) :: buf 1 L.ya L.yn L.yc (x.yes.map (.int .i64)) :: sl false L.ea (x.es.flatMap encE) :: cells true L.na 0 (x.next.map (.int .u64)) :: cells true L.ma 0 (x.mtch.map (.int .u64)) :: Γ) (enode b o x :: Γ) :=
  (Imp.pu h).trans (Imp.packg (L := fun L => enodeL b o x L) L)
theorem enode_open {P : Program} {f : FuncId} {args : Array Value} {b o : Nat} {x : EN} {Γ : List A} {R : Value → List A → Prop} (h : ∀ L, NOk x L → Trip P f args (cells true b o (nodeC x L) :: sl false L.ca (x.conf.map (.int .i64)) :: buf 1 L.ya L.yn L.yc (x.yes.map (.int .i64)) :: sl false L.ea (x.es.flatMap encE) :: cells true L.na 0 (x.next.map (.int .u64)) :: cells true L.ma 0 (x.mtch.map (.int .u64)) :: Γ) R) : Trip P f args (enode b o x :: Γ) R :=
  Trip.exg (L := fun L => enodeL b o x L) fun L => Trip.pure (h L)
structure EN.fits (x : EN) : Prop where
  me : 0 ≤ x.me ∧ x.me < 16
  term : 0 ≤ x.term ∧ x.term < 2305843009213693952
  base : 0 ≤ x.base ∧ x.base < 2305843009213693952
  es : x.es.length < 268435456
  yes : x.yes.length < 268435456
def EN.new (me : Int) (conf : List Int) : EN := ⟨me, -1, 0, -1, conf, [], 0, 0, 0, 0, [], false, List.replicate 16 0, List.replicate 16 0⟩
def EN.follow (x : EN) (t l : Int) : EN := { x with vote := if x.term < t then -1 else x.vote, role := 0, lead := l, yes := [], term := if x.term < t then t else x.term }
def EN.others (x : EN) : List Int := x.conf.filter fun m => !(m == x.me)
def EN.last (x : EN) : Int := x.base + x.es.length
def EN.grow (x : EN) : List RE := x.es ++ [⟨x.term, 0, none, 0, 0⟩]
def EN.lead5 (x : EN) : EN := { x with role := 3, lead := x.me, yes := [], es := x.grow, next := List.replicate 16 (x.base + x.grow.length), mtch := (List.replicate 16 0).set x.me.toNat (x.base + x.grow.length) }
def EN.toAll (x : EN) (m : RM) : List RM := x.others.map fun i => { m with fr := x.me, to := i }
def EN.askR (x : EN) : EN × List RM :=
  if x.me ∈ x.conf then
    let y : EN := { x with role := 2, term := x.term + 1, vote := x.me, lead := -1, yes := [x.me] }
    if agrees x.conf [x.me] then (y.lead5, []) else (y, y.toAll (msg 1 0 0 (x.term + 1) x.last (lgLastTerm x.bt x.es) false))
  else (x, [])
def EN.chosen (x : EN) : EN × List RM := if x.role = 1 then x.askR else (x.lead5, [])
def EN.askP (x : EN) : EN × List RM :=
  if x.me ∈ x.conf then
    let y : EN := { x with role := 1, lead := -1, yes := [x.me] }
    if agrees x.conf [x.me] then y.askR else (y, y.toAll (msg 3 0 0 (x.term + 1) x.last (lgLastTerm x.bt x.es) false))
  else (x, [])
def EN.would (x : EN) (m : RM) : Bool := if m.kind = 3 then decide (x.term < m.term) && !x.heard else m.term == x.term && (x.vote == -1 || x.vote == m.fr) && x.role == 0
def EN.newer (x : EN) (m : RM) : Bool := lgNewer x.base x.bt x.es m.prev m.index
def EN.onAsk (x : EN) (m : RM) : EN × List RM :=
  if m.kind = 1 then
    let y := if x.term < m.term then x.follow m.term (-1) else x
    let ok := y.newer m && y.would m
    (if ok then { y with vote := m.fr } else y, [⟨2, x.me, m.fr, y.term, 0, 0, 0, ok, none, 0, 0, none, 0, 0⟩])
  else if m.kind = 3 then
    let ok := x.newer m && x.would m
    (x, [⟨4, x.me, m.fr, if ok then m.term else x.term, 0, 0, 0, ok, none, 0, 0, none, 0, 0⟩])
  else (x, [])
def EN.counts (x : EN) (m : RM) : Bool := m.ok && ((x.role == 2 && m.kind == 2 && m.term == x.term) || (x.role == 1 && m.kind == 4 && m.term == x.term + 1)) && decide (m.fr ∈ x.conf) && !decide (m.fr ∈ x.yes)
def EN.onAnswer (x : EN) (m : RM) : EN × List RM :=
  if m.kind = 2 ∨ m.kind = 4 then
    let y := if x.term < m.term ∧ (m.ok = false ∨ m.kind = 2) then x.follow m.term (-1) else x
    if y.counts m then
      let z : EN := { y with yes := y.yes ++ [m.fr] }
      if agrees z.conf z.yes then z.chosen else (z, [])
    else (y, [])
  else (x, [])
/- Groups of nodes in memory. -/
def ptrE (p : Nat × EN) : Value := .pointer (some ⟨p.1, 0, none⟩)
def enodes (ns : List (Nat × EN)) : A := grp (ns.map fun p => enode p.1 0 p.2)
theorem Imp.permMap {α : Type} {f : α → A} {xs ys : List α} (h : xs.Perm ys) {Γ : List A} : Imp (grp (xs.map f) :: Γ) (grp (ys.map f) :: Γ) := fun F w t =>
  Sat.grp.2 (Imp.perm ((h.map f).append_right Γ) F w (Sat.grp.1 t))
theorem perm_erase {α : Type} : ∀ {xs : List α} {i : Nat} {a : α}, xs[i]? = some a → xs.Perm (a :: xs.eraseIdx i)
  | x :: xs, 0, a, h => by simp at h; subst h; exact .refl _
  | x :: xs, i + 1, a, h => by
    have := perm_erase (xs := xs) (i := i) (a := a) (by simpa using h)
    exact (this.cons x).trans (.swap _ _ _)
theorem perm_set {α : Type} : ∀ {xs : List α} {i : Nat} {a b : α}, xs[i]? = some a → (b :: xs.eraseIdx i).Perm (xs.set i b)
  | x :: xs, 0, a, b, h => .refl _
  | x :: xs, i + 1, a, b, h => by
    have := perm_set (xs := xs) (i := i) (a := a) (b := b) (by simpa using h)
    exact (List.Perm.swap _ _ _).trans (this.cons x)
def enodesBut (i : Nat) (ns : List (Nat × EN)) : A := grp ((ns.eraseIdx i).map fun p => enode p.1 0 p.2)
theorem enodes_take {ns : List (Nat × EN)} {i b : Nat} {x : EN} (h : ns[i]? = some (b, x)) {Γ : List A} : Imp (enodes ns :: Γ) (enode b 0 x :: enodesBut i ns :: Γ) := fun F w t => by
  have t := Imp.permMap (f := fun p : Nat × EN => enode p.1 0 p.2) (perm_erase h) F w t
  have t := Sat.grp.1 t
  have t : Sat (enode b 0 x :: ((ns.eraseIdx i).map (fun p => enode p.1 0 p.2) ++ Γ)) F w := t
  exact Imp.cons _ (fun F w t => Sat.grp.2 t) F w t
theorem enodes_put {ns : List (Nat × EN)} {i b : Nat} {x y : EN} (h : ns[i]? = some (b, x)) {Γ : List A} : Imp (enode b 0 y :: enodesBut i ns :: Γ) (enodes (ns.set i (b, y)) :: Γ) := fun F w t => by
  have t := Imp.cons (enode b 0 y) (fun F w t => Sat.grp.1 t) F w t
  have t : Sat (grp (((b, y) :: ns.eraseIdx i).map fun p => enode p.1 0 p.2) :: Γ) F w := Sat.grp.2 t
  exact Imp.permMap (perm_set h) F w t
theorem enodes_snoc {ns : List (Nat × EN)} {b : Nat} {y : EN} {Γ : List A} : Imp (enode b 0 y :: enodes ns :: Γ) (enodes (ns ++ [(b, y)]) :: Γ) := fun F w t => by
  have t := Imp.cons (enode b 0 y) (fun F w t => Sat.grp.1 t) F w t
  have t : Sat (grp (((b, y) :: ns).map fun p => enode p.1 0 p.2) :: Γ) F w := Sat.grp.2 t
  exact Imp.permMap (List.perm_append_singleton (b, y) ns).symm F w t
theorem enodes_nil {Γ : List A} : Imp Γ (enodes [] :: Γ) := fun F w t => Sat.grp.2 t
structure GR where
  ns : List (Nat × EN)
  msgs : List RM
  terms : List Int
  leads : List Int
structure GL where
  na : Option Addr
  nn : Nat
  nc : Nat
  ma : Option Addr
  mn : Nat
  mc : Nat
  ta : Option Addr
  tn : Nat
  tc : Nat
  la : Option Addr
  ln : Nat
  lc : Nat
abbrev groupC (L : GL) : List Value := [.slice L.na L.nn L.nc, .slice L.ma L.mn L.mc, .slice L.ta L.tn L.tc, .slice L.la L.ln L.lc]
abbrev egroupL (g : Nat) (G : GR) (L : GL) : List A := [pu (Sok 1 L.na L.nn L.nc (G.ns.map ptrE)), cells true g 0 (groupC L), sl false L.na (G.ns.map ptrE), buf 10 L.ma L.mn L.mc (G.msgs.flatMap encM), buf 1 L.ta L.tn L.tc (G.terms.map (.int .u64)), buf 1 L.la L.ln L.lc (G.leads.map (.int .i64)), enodes G.ns]
def egroup (g : Nat) (G : GR) : A := ex fun L => grp (egroupL g G L)
theorem egroup_close {g : Nat} {G : GR} (L : GL) (h : Sok 1 L.na L.nn L.nc (G.ns.map ptrE)) {Γ : List A} : Imp (cells true g 0 (groupC L) :: sl false L.na (G.ns.map ptrE) :: buf 10 L.ma L.mn L.mc (G.msgs.flatMap encM) :: buf 1 L.ta L.tn L.tc (G.terms.map (.int .u64)) :: buf 1 L.la L.ln L.lc (G.leads.map (.int .i64)) :: enodes G.ns :: Γ) (egroup g G :: Γ) :=
  (Imp.pu h).trans (Imp.packg (L := fun L => egroupL g G L) L)
theorem egroup_open {P : Program} {f : FuncId} {args : Array Value} {g : Nat} {G : GR} {Γ : List A} {R : Value → List A → Prop} (h : ∀ L : GL, Sok 1 L.na L.nn L.nc (G.ns.map ptrE) → Sok 10 L.ma L.mn L.mc (G.msgs.flatMap encM) → Sok 1 L.ta L.tn L.tc (G.terms.map (.int .u64)) → Sok 1 L.la L.ln L.lc (G.leads.map (.int .i64)) → Trip P f args (cells true g 0 (groupC L) :: sl false L.na (G.ns.map ptrE) :: buf 10 L.ma L.mn L.mc (G.msgs.flatMap encM) :: buf 1 L.ta L.tn L.tc (G.terms.map (.int .u64)) :: buf 1 L.la L.ln L.lc (G.leads.map (.int .i64)) :: enodes G.ns :: Γ) R) : Trip P f args (egroup g G :: Γ) R :=
  Trip.exg (L := fun L => egroupL g G L) fun L => Trip.pure fun h1 => Trip.bufFact (.tail _ (.tail _ (.head _))) fun h2 => Trip.bufFact (.tail _ (.tail _ (.tail _ (.head _)))) fun h3 => Trip.bufFact (.tail _ (.tail _ (.tail _ (.tail _ (.head _))))) fun h4 => h L h1 h2 h3 h4
def GR.fin (G : GR) (k b : Nat) (y : EN) (out : List RM) : GR := ⟨G.ns.set k (b, y), G.msgs ++ out, if y.role = 3 then G.terms ++ [y.term] else G.terms, if y.role = 3 then G.leads ++ [(k : Int)] else G.leads⟩
theorem encM_one (l : List RM) : ∀ q ∈ l.flatMap encM, q.oneCell' = true := by
  intro q hq
  obtain ⟨m, -, hm⟩ := List.mem_flatMap.1 hq
  simp only [encM, List.mem_cons, List.not_mem_nil, or_false] at hm
  rcases hm with h | h | h | h | h | h | h | h | h | h <;> subst h <;> rfl
theorem set_map_fst {ns : List (Nat × EN)} {k b : Nat} {x y : EN} (h : ns[k]? = some (b, x)) : (ns.set k (b, y)).map ptrE = ns.map ptrE := by
  rw [List.map_set]
  apply List.ext_getElem?
  intro i
  rw [List.getElem?_set]
  split
  · rename_i e; subst e
    split
    · simp [h, ptrE]
    · rename_i e; simp at e; simp [e]
  · rfl
def upTo (k : Nat) : List Int := (List.range k).map fun j : Nat => (j : Int)
theorem upTo_succ (k : Nat) : upTo (k + 1) = upTo k ++ [(k : Int)] := by simp [upTo, List.range_succ]
theorem upTo_length (k : Nat) : (upTo k).length = k := by simp [upTo]
/- The chapter's examples. -/
def RM.no : RM := ⟨0, 0, 0, 0, 0, 0, 0, false, none, 0, 0, none, 0, 0⟩
def w0 : EN × List RM := (EN.new 0 (upTo 3)).askP
def wm0 : RM := w0.2[0]?.getD .no
def w1a : EN × List RM := (EN.new 1 (upTo 3)).onAsk wm0
def w1b : EN × List RM := w1a.1.onAnswer wm0
def ms1 : List RM := w1a.2 ++ w1b.2
def wm2 : RM := ms1[0]?.getD .no
def w2a : EN × List RM := w0.1.onAsk wm2
def w2b : EN × List RM := w2a.1.onAnswer wm2
def ms2 : List RM := w2a.2 ++ w2b.2
def wm3 : RM := ms2[0]?.getD .no
def w3a : EN × List RM := w1b.1.onAsk wm3
def w3b : EN × List RM := w3a.1.onAnswer wm3
def ms3 : List RM := w3a.2 ++ w3b.2
def wm5 : RM := ms3[0]?.getD .no
def w4a : EN × List RM := w2b.1.onAsk wm5
def w4b : EN × List RM := w4a.1.onAnswer wm5
def ms4 : List RM := w4a.2 ++ w4b.2
def G0 (b0 b1 b2 : Nat) : GR := ⟨[(b0, EN.new 0 (upTo 3)), (b1, EN.new 1 (upTo 3)), (b2, EN.new 2 (upTo 3))], [], [], []⟩
def G1 (b0 b1 b2 : Nat) : GR := ⟨[(b0, w0.1), (b1, EN.new 1 (upTo 3)), (b2, EN.new 2 (upTo 3))], w0.2, [], []⟩
def G2 (b0 b1 b2 : Nat) : GR := ⟨[(b0, w0.1), (b1, w1b.1), (b2, EN.new 2 (upTo 3))], w0.2 ++ ms1, [], []⟩
def G3 (b0 b1 b2 : Nat) : GR := ⟨[(b0, w2b.1), (b1, w1b.1), (b2, EN.new 2 (upTo 3))], w0.2 ++ ms1 ++ ms2, [], []⟩
def G4 (b0 b1 b2 : Nat) : GR := ⟨[(b0, w2b.1), (b1, w3b.1), (b2, EN.new 2 (upTo 3))], w0.2 ++ ms1 ++ ms2 ++ ms3, [], []⟩
def G5 (b0 b1 b2 : Nat) : GR := ⟨[(b0, w4b.1), (b1, w3b.1), (b2, EN.new 2 (upTo 3))], w0.2 ++ ms1 ++ ms2 ++ ms3 ++ ms4, [w4b.1.term], [0]⟩
theorem gfin1 (b0 b1 b2 : Nat) : (G0 b0 b1 b2).fin 0 b0 w0.1 w0.2 = G1 b0 b1 b2 := rfl
theorem gfin2 (b0 b1 b2 : Nat) : (G1 b0 b1 b2).fin 1 b1 w1b.1 ms1 = G2 b0 b1 b2 := rfl
theorem gfin3 (b0 b1 b2 : Nat) : (G2 b0 b1 b2).fin 0 b0 w2b.1 ms2 = G3 b0 b1 b2 := rfl
theorem gfin4 (b0 b1 b2 : Nat) : (G3 b0 b1 b2).fin 1 b1 w3b.1 ms3 = G4 b0 b1 b2 := rfl
theorem gfin5 (b0 b1 b2 : Nat) : (G4 b0 b1 b2).fin 0 b0 w4b.1 ms4 = G5 b0 b1 b2 := rfl
theorem fitsDec {x : EN} (h : (decide (0 ≤ x.me) && decide (x.me < 16) && decide (0 ≤ x.term) && decide (x.term < 2305843009213693951) && decide (0 ≤ x.base) && decide (x.base < 2305843009213693952) && decide (x.es.length < 268435456) && decide (x.yes.length < 1073741)) = true) : x.fits ∧ x.term + 1 < 2305843009213693952 ∧ x.yes.length < 1073741 := by
  simp only [Bool.and_eq_true, decide_eq_true_eq] at h
  obtain ⟨⟨⟨⟨⟨⟨⟨h1, h2⟩, h3⟩, h4⟩, h5⟩, h6⟩, h7⟩, h8⟩ := h
  exact ⟨⟨⟨h1, h2⟩, ⟨h3, by omega⟩, ⟨h5, h6⟩, h7, by omega⟩, by omega, h8⟩
theorem three {ns : List (Nat × EN)} {f : Nat → EN} (h : ns.map (·.2) = (List.range 3).map f) : ∃ b0 b1 b2, ns = [(b0, f 0), (b1, f 1), (b2, f 2)] := by
  match ns, h with
  | [(b0, x0), (b1, x1), (b2, x2)], h =>
    have h : [x0, x1, x2] = [f 0, f 1, f 2] := h
    simp only [List.cons.injEq, and_true] at h
    obtain ⟨rfl, rfl, rfl⟩ := h
    exact ⟨b0, b1, b2, rfl⟩
  | [], h => simp at h
  | [_], h => simp [List.range_succ] at h
  | [_, _], h => simp [List.range_succ] at h
  | _ :: _ :: _ :: _ :: _, h => simp [List.range_succ] at h
end Go.Sl
