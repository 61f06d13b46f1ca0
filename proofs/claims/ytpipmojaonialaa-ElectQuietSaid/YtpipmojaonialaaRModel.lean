/- Plain models: the references. -/
import Derived.Test.YtpipmojaonialaaWModel
namespace Go.Sl
open Go
def rightF : Int → List Int → Bool
  | _, [] => true
  | last, x :: xs => if x ≤ last ∨ x > 15 then false else rightF x xs
def right (xs : List Int) : Bool := rightF (-1) xs && decide (0 < xs.length)
theorem rightF_bound : ∀ (xs : List Int) (l : Int), rightF l xs = true → (xs.length : Int) ≤ max 0 (15 - l) ∧ ∀ x ∈ xs, l < x ∧ x ≤ 15
  | [], l, _ => ⟨by simp; omega, by simp⟩
  | x :: xs, l, h => by
    unfold rightF at h
    split at h
    · cases h
    · rename_i hx
      have ⟨h1, h2⟩ := rightF_bound xs x h
      refine ⟨by simp; omega, ?_⟩
      intro y hy
      rcases List.mem_cons.1 hy with rfl | hy
      · omega
      · have := h2 y hy; omega
theorem rightF_drop {xs : List Int} {k : Nat} {x l : Int} (h : xs[k]? = some x) : rightF l (xs.drop k) = if x ≤ l ∨ x > 15 then false else rightF x (xs.drop (k + 1)) := by
  obtain ⟨hk, rfl⟩ := List.getElem?_eq_some_iff.1 h
  rw [List.drop_eq_getElem_cons hk]
  rfl
/- A node of the reference: the same model, other cells. -/
structure RL where
  ca : Option Addr
  cn : Nat
  cc : Nat
  ya : Option Addr
  yn : Nat
  yc : Nat
  ea : Option Addr
  en : Nat
  ec : Nat
abbrev rnodeC (x : EN) (L : RL) : List Value := .int .i64 x.me :: .int .i64 x.vote :: .int .i64 x.role :: .int .i64 x.lead :: .slice L.ca L.cn L.cc :: .slice L.ya L.yn L.yc :: .int .u64 x.term :: .int .u64 x.commit :: .int .u64 x.base :: .int .u64 x.bt :: .slice L.ea L.en L.ec :: .bool x.heard :: (x.next.map (.int .u64) ++ x.mtch.map (.int .u64))
structure ROk (x : EN) (L : RL) : Prop where
  c : Sok 1 L.ca L.cn L.cc (x.conf.map (.int .i64))
  cn : L.cn < 1073741824
  y : Sok 1 L.ya L.yn L.yc (x.yes.map (.int .i64))
  yn : L.yn < 1073741824
  e : Sok 3 L.ea L.en L.ec (x.es.flatMap encE)
  en : L.en < 1073741824
  n : x.next.length = 16
  m : x.mtch.length = 16
abbrev rnodeL (b o : Nat) (x : EN) (L : RL) : List A := [pu (ROk x L), cells true b o (rnodeC x L), sl false L.ca (x.conf.map (.int .i64)), sl false L.ya (x.yes.map (.int .i64)), sl false L.ea (x.es.flatMap encE)]
def rnode (b o : Nat) (x : EN) : A := ex fun L => grp (rnodeL b o x L)
theorem rnode_close {b o : Nat} {x : EN} (L : RL) (h : ROk x L) {Γ : List A} : Imp (cells true b o (rnodeC x L) :: sl false L.ca (x.conf.map (.int .i64)) :: sl false L.ya (x.yes.map (.int .i64)) :: sl false L.ea (x.es.flatMap encE) :: Γ) (rnode b o x :: Γ) :=
  (Imp.pu h).trans (Imp.packg (L := fun L => rnodeL b o x L) L)
theorem rnode_open {P : Program} {f : FuncId} {args : Array Value} {b o : Nat} {x : EN} {Γ : List A} {R : Value → List A → Prop} (h : ∀ L, ROk x L → Trip P f args (cells true b o (rnodeC x L) :: sl false L.ca (x.conf.map (.int .i64)) :: sl false L.ya (x.yes.map (.int .i64)) :: sl false L.ea (x.es.flatMap encE) :: Γ) R) : Trip P f args (rnode b o x :: Γ) R :=
  Trip.exg (L := fun L => rnodeL b o x L) fun L => Trip.pure (h L)
theorem encE_one (l : List RE) : ∀ q ∈ l.flatMap encE, q.oneCell' = true := by
  intro q hq
  obtain ⟨m, -, hm⟩ := List.mem_flatMap.1 hq
  simp only [encE, List.mem_cons, List.not_mem_nil, or_false] at hm
  rcases hm with h | h | h <;> subst h <;> rfl
/-- The state that `both` makes. -/
def EN.of (me vote role : Int) (conf yes : List Int) (term base bt : Int) (es : List RE) (heard : Bool) : EN := ⟨me, vote, role, -1, conf, yes, term, 0, base, bt, es, heard, List.replicate 16 0, List.replicate 16 0⟩
end Go.Sl
