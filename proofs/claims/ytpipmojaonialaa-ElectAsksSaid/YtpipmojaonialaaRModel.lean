/- Plain models: the references. -/
import Derived.Test.YtpipmojaonialaaWModel
namespace Go.Sl
open Go
def rightF : Int → List Int → Bool
  | _, [] => true
  | last, x :: xs => if x ≤ last ∨ x > 15 then false else rightF x xs
def right (xs : List Int) : Bool := rightF (-1) xs && decide (0 < xs.length)
theorem rightF_bound : ∀ (xs : List Int) (l : Int), rightF l xs = true → (xs.length : Int) ≤ max 0 (15 - l) ∧ ∀ x ∈ xs, l < x ∧ x ≤ 15
  | [], l, _ => ⟨by simp; omega, by simp⟩
  | x :: xs, l, h => by
    unfold rightF at h
    split at h
    · cases h
    · rename_i hx
      have ⟨h1, h2⟩ := rightF_bound xs x h
      refine ⟨by simp; omega, ?_⟩
      intro y hy
      rcases List.mem_cons.1 hy with rfl | hy
      · omega
      · have := h2 y hy; omega
theorem rightF_drop {xs : List Int} {k : Nat} {x l : Int} (h : xs[k]? = some x) : rightF l (xs.drop k) = if x ≤ l ∨ x > 15 then false else rightF x (xs.drop (k + 1)) := by
  obtain ⟨hk, rfl⟩ := List.getElem?_eq_some_iff.1 h
  rw [List.drop_eq_getElem_cons hk]
  rfl
/- A node of the reference: the same model, other cells. -/
structure RL where
  ca : Option Addr
  cn : Nat
  cc : Nat
  ya : Option Addr
  yn : Nat
  yc : Nat
  ea : Option Addr
  en : Nat
  ec : Nat
abbrev rnodeC (x : EN) (L : RL) : List Value := .int .i64 x.me :: .int .i64 x.vote :: .int .i64 x.role :: .int .i64 x.lead :: .slice L.ca L.cn L.cc :: .slice L.ya L.yn L.yc :: .int .u64 x.term :: .int .u64 x.commit :: .int .u64 x.base :: .int .u64 x.bt :: .slice L.ea L.en L.ec :: .bool x.heard :: (x.next.map (.int .u64) ++ x.mtch.map (.int .u64))
structure ROk (x : EN) (L : RL) : Prop where
  c : Sok 1 L.ca L.cn L.cc (x.conf.map (.int .i64))
  cn : L.cn < 1073741824
  y : Sok 1 L.ya L.yn L.yc (x.yes.map (.int .i64))
  yn : L.yn < 1073741824
  e : Sok 3 L.ea L.en L.ec (x.es.flatMap encE)
  en : L.en < 1073741824
  n : x.next.length = 16
  m : x.mtch.length = 16
abbrev rnodeL (b o : Nat) (x : EN) (L : RL) : List A := [pu (ROk x L), cells true b o (rnodeC x L), sl false L.ca (x.conf.map (.int .i64)), sl false L.ya (x.yes.map (.int .i64)), sl false L.ea (x.es.flatMap encE)]
def rnode (b o : Nat) (x : EN) : A := ex fun L => grp (rnodeL b o x L)
theorem rnode_close {b o : Nat} {x : EN} (L : RL) (h : ROk x L) {Γ : List A} : Imp (cells true b o (rnodeC x L) :: sl false L.ca (x.conf.map (.int .i64)) :: sl false L.ya (x.yes.map (.int .i64)) :: sl false L.ea (x.es.flatMap encE) :: Γ) (rnode b o x :: Γ) :=
  (Imp.pu h).trans (Imp.packg (L := fun L => rnodeL b o x L) L)
theorem rnode_open {P : Program} {f : FuncId} {args : Array Value} {b o : Nat} {x : EN} {Γ : List A} {R : Value → List A → Prop} (h : ∀ L, ROk x L → Trip P f args (cells true b o (rnodeC x L) :: sl false L.ca (x.conf.map (.int .i64)) :: sl false L.ya (x.yes.map (.int .i64)) :: sl false L.ea (x.es.flatMap encE) :: Γ) R) : Trip P f args (rnode b o x :: Γ) R :=
  Trip.exg (L := fun L => rnodeL b o x L) fun L => Trip.pure (h L)
theorem encE_one (l : List RE) : ∀ q ∈ l.flatMap encE, q.oneCell' = true := by
  intro q hq
  obtain ⟨m, -, hm⟩ := List.mem_flatMap.1 hq
  simp only [encE, List.mem_cons, List.not_mem_nil, or_false] at hm
  rcases hm with h | h | h <;> subst h <;> rfl
/-- The state that `both` makes. -/
def EN.of (me vote role : Int) (conf yes : List Int) (term base bt : Int) (es : List RE) (heard : Bool) : EN := ⟨me, vote, role, -1, conf, yes, term, 0, base, bt, es, heard, List.replicate 16 0, List.replicate 16 0⟩
/-- An entry's data can be read, as often as one likes, where `D` holds. -/
def EData (D : A) (e : RE) : Prop := ∃ bs : List Int, Sok 1 e.da e.dn e.dc (bs.map (.int .u8)) ∧ e.dn < 9223372036854775808 ∧ ∀ Γ, Imp (D :: Γ) (sl false e.da (bs.map (.int .u8)) :: D :: Γ)
theorem EData.none (D : A) (t k : Int) : EData D ⟨t, k, none, 0, 0⟩ := ⟨[], ⟨rfl, Nat.le_refl _, .inl rfl⟩, by show 0 < _; omega, fun _ => Imp.slEmpty⟩
/-- A message without data and entries. -/
def RM.bare (m : RM) : Prop := m = ⟨m.kind, m.fr, m.to, m.term, m.index, m.prev, m.commit, m.ok, none, 0, 0, none, 0, 0⟩
theorem bare_msg (kind fr to term index prev : Int) (ok : Bool) : (msg kind fr to term index prev ok).bare := rfl
theorem bare_toAll (x : EN) (m : RM) (h : m.bare) : ∀ g ∈ x.toAll m, g.bare := by
  intro g hg
  obtain ⟨i, -, rfl⟩ := List.mem_map.1 hg
  unfold RM.bare at h ⊢
  rw [h]
theorem bare_askR (x : EN) : ∀ g ∈ x.askR.2, g.bare := by
  unfold EN.askR
  split
  · dsimp only
    split
    · simp
    · exact bare_toAll _ _ rfl
  · simp
theorem bare_askP (x : EN) : ∀ g ∈ x.askP.2, g.bare := by
  unfold EN.askP
  split
  · dsimp only
    split
    · exact bare_askR _
    · exact bare_toAll _ _ rfl
  · simp
/- What asking leaves alone. -/
theorem lead5_conf (x : EN) : x.lead5.conf = x.conf := rfl
theorem askR_conf (x : EN) : x.askR.1.conf = x.conf ∧ x.askR.1.me = x.me := by
  unfold EN.askR
  split
  · dsimp only
    split <;> exact ⟨rfl, rfl⟩
  · exact ⟨rfl, rfl⟩
theorem askP_conf (x : EN) : x.askP.1.conf = x.conf ∧ x.askP.1.me = x.me := by
  unfold EN.askP
  split
  · dsimp only
    split
    · exact askR_conf _
    · exact ⟨rfl, rfl⟩
  · exact ⟨rfl, rfl⟩
theorem askR_es (x : EN) : ∀ e ∈ x.askR.1.es, e ∈ x.es ∨ ∃ t, e = ⟨t, 0, none, 0, 0⟩ := by
  unfold EN.askR
  intro e
  split
  · dsimp only
    split
    · intro h
      simp only [EN.lead5, EN.grow, List.mem_append, List.mem_singleton] at h
      rcases h with h | h
      · exact .inl h
      · exact .inr ⟨_, h⟩
    · exact .inl
  · exact .inl
theorem askP_es (x : EN) : ∀ e ∈ x.askP.1.es, e ∈ x.es ∨ ∃ t, e = ⟨t, 0, none, 0, 0⟩ := by
  unfold EN.askP
  intro e
  split
  · dsimp only
    split
    · exact askR_es _ e
    · exact .inl
  · exact .inl
/- The reference's node in three parts. -/
abbrev rnodeH (x : EN) (L : RL) : List Value := [.int .i64 x.me, .int .i64 x.vote, .int .i64 x.role, .int .i64 x.lead, .slice L.ca L.cn L.cc, .slice L.ya L.yn L.yc, .int .u64 x.term, .int .u64 x.commit, .int .u64 x.base, .int .u64 x.bt, .slice L.ea L.en L.ec, .bool x.heard]
theorem rnode_cut {b o : Nat} {x : EN} {L : RL} (h : x.next.length = 16) {Γ : List A} : Imp (cells true b o (rnodeC x L) :: Γ) (cells true b o (rnodeH x L) :: cells true b (o + 12) (x.next.map (.int .u64)) :: cells true b (o + 28) (x.mtch.map (.int .u64)) :: Γ) :=
  (Imp.split true b o (rnodeH x L) (x.next.map (.int .u64) ++ x.mtch.map (.int .u64)) Γ).trans (Imp.cons _ (by
    have := Imp.split true b (o + 12) (x.next.map (.int .u64)) (x.mtch.map (.int .u64)) Γ
    rw [List.length_map, h] at this
    exact this))
theorem rnode_mend {b o : Nat} {x : EN} {L : RL} (h : x.next.length = 16) {Γ : List A} : Imp (cells true b o (rnodeH x L) :: cells true b (o + 12) (x.next.map (.int .u64)) :: cells true b (o + 28) (x.mtch.map (.int .u64)) :: Γ) (cells true b o (rnodeC x L) :: Γ) :=
  (Imp.cons _ (by
    have := Imp.join true b (o + 12) (x.next.map (.int .u64)) (x.mtch.map (.int .u64)) Γ
    rw [List.length_map, h] at this
    exact this)).trans (Imp.join true b o (rnodeH x L) (x.next.map (.int .u64) ++ x.mtch.map (.int .u64)) Γ)
theorem rnode_open3 {P : Program} {f : FuncId} {args : Array Value} {b o : Nat} {x : EN} {Γ : List A} {R : Value → List A → Prop} (h : ∀ L, ROk x L → Trip P f args (cells true b o (rnodeH x L) :: cells true b (o + 12) (x.next.map (.int .u64)) :: cells true b (o + 28) (x.mtch.map (.int .u64)) :: sl false L.ca (x.conf.map (.int .i64)) :: sl false L.ya (x.yes.map (.int .i64)) :: sl false L.ea (x.es.flatMap encE) :: Γ) R) : Trip P f args (rnode b o x :: Γ) R :=
  rnode_open fun L hL => Trip.imp (rnode_cut hL.n) (h L hL)
theorem rnode_close3 {b o : Nat} {x : EN} (L : RL) (h : ROk x L) {Γ : List A} : Imp (cells true b o (rnodeH x L) :: cells true b (o + 12) (x.next.map (.int .u64)) :: cells true b (o + 28) (x.mtch.map (.int .u64)) :: sl false L.ca (x.conf.map (.int .i64)) :: sl false L.ya (x.yes.map (.int .i64)) :: sl false L.ea (x.es.flatMap encE) :: Γ) (rnode b o x :: Γ) :=
  (rnode_mend h.n).trans (rnode_close L h)
theorem others_take {x : EN} {k : Nat} {i : Int} (h : x.conf[k]? = some i) : (x.conf.take (k + 1)).filter (fun m => !(m == x.me)) = (x.conf.take k).filter (fun m => !(m == x.me)) ++ (if i = x.me then [] else [i]) := by
  rw [filter_take_succ _ h]
  by_cases e : i = x.me <;> simp [e]
theorem q_loadAll {P : Program} {s : St} {Γ : List A} {d : Option Tmp} {ty : TypeId} {pos : String} {af : Array Edge} {g : Option (Nat × Bool)} {T : TypeId} {x : Operand} {p : Bool} {b o k : Nat} {vs : List Value} (hT : ldB P T = some (some k)) (hx : ev s x = some (.pointer (some ⟨b, o, none⟩))) (hm : cells p b o vs ∈ Γ) (hk : vs.length = k) :
    Q1 P ⟨d, .load T x, ty, pos, af, g⟩ s Γ (.agg vs.toArray) := q_loadN (i := 0) hT hx hm rfl hk (by subst hk; simp)
theorem q_dec {P : Program} {s : St} {Γ : List A} {d : Option Tmp} {ty : TypeId} {pos : String} {af : Array Edge} {g : Option (Nat × Bool)} {T T' : TypeId} {x y : Operand} {k : Nat} (hx : ev s x = some (.int .i64 (k : Int))) (hy : ev s y = some (.int .i64 1)) (h0 : 0 < k) (hk : k < 4611686018427387904) :
    Q1 P ⟨d, .binOp .sub T x y T', ty, pos, af, g⟩ s Γ (.int .i64 ((k - 1 : Nat) : Int)) := by
  rw [show ((k - 1 : Nat) : Int) = (k : Int) - 1 by omega]
  exact q_subI hx hy (by omega)
def EN.ask (x : EN) (real : Bool) : EN × List RM := if real then x.askR else x.askP
theorem ask_conf (x : EN) (real : Bool) : (x.ask real).1.conf = x.conf ∧ (x.ask real).1.me = x.me := by
  unfold EN.ask
  split
  · exact askR_conf x
  · exact askP_conf x
theorem ask_es (x : EN) (real : Bool) : ∀ e ∈ (x.ask real).1.es, e ∈ x.es ∨ ∃ t, e = ⟨t, 0, none, 0, 0⟩ := by
  unfold EN.ask
  split
  · exact askR_es x
  · exact askP_es x
theorem ask_bare (x : EN) (real : Bool) : ∀ g ∈ (x.ask real).2, g.bare := by
  unfold EN.ask
  split
  · exact bare_askR x
  · exact bare_askP x
theorem askR_yes (x : EN) : (x.askR.1).yes.length ≤ x.yes.length + 1 := by
  unfold EN.askR
  split
  · dsimp only
    split <;> simp [EN.lead5]
  · simp
theorem ask_yes (x : EN) (real : Bool) : ((x.ask real).1).yes.length ≤ x.yes.length + 2 := by
  unfold EN.ask
  split
  · have := askR_yes x; omega
  · unfold EN.askP
    split
    · dsimp only
      split
      · have := askR_yes { x with role := 1, lead := -1, yes := [x.me] }
        simp only [List.length_singleton] at this
        omega
      · simp
    · simp
theorem toAll_len (x : EN) (m : RM) : (x.toAll m).length ≤ x.conf.length := by
  simp only [EN.toAll, EN.others, List.length_map]
  exact List.length_filter_le _ _
theorem askR_len (x : EN) : x.askR.2.length ≤ x.conf.length := by
  unfold EN.askR
  split
  · dsimp only
    split
    · simp
    · exact toAll_len _ _
  · simp
theorem ask_len (x : EN) (real : Bool) : (x.ask real).2.length ≤ x.conf.length := by
  unfold EN.ask
  split
  · exact askR_len x
  · unfold EN.askP
    split
    · dsimp only
      split
      · exact askR_len _
      · exact toAll_len _ _
    · simp
theorem follow_others (x : EN) (real : Bool) (t l : Int) : (((x.ask real).1).follow t l).others = x.others := by
  show ((x.ask real).1.conf.filter fun m => !(m == (x.ask real).1.me)) = _
  rw [(ask_conf x real).1, (ask_conf x real).2]
  rfl
end Go.Sl
