/- Texts of this claim, merged: SlP, JTy, JA, JB, JC, JD, JE, JF, JG, JH, JI, JJ. -/
import Derived.Test.YtacgammmpkibpaaDoorKBackTopm1
import Derived.Test.YtacgammmpkibpaaDoorChecked
/- Separation logic over the model's code: short forms: what a program's table says as instances; rules that find their own premises. -/
namespace Go.Sl
open Go Go.RowKit
class FAc (P : Program) (T f : Nat) (off : outParam Nat) : Prop where h : faB P T f = some off
class SZc (P : Program) (T : Nat) (k : outParam Nat) : Prop where h : szB P T = some k
class LDc (P : Program) (T : Nat) (k : outParam (Option Nat)) : Prop where h : ldB P T = some k
class ZLc (P : Program) (T : Nat) (zs : outParam (List Value)) : Prop where h : zL P T = some zs
class SLc (P : Program) (T : Nat) (e sz : outParam Nat) : Prop where h : slB P T = some (e, sz)
class ARc (P : Program) (T : Nat) (n sz : outParam Nat) : Prop where h : arB P T = some (n, sz)
class MKc (P : Program) (T : Nat) (zs : outParam (List Value)) (by_ : outParam Nat) : Prop where h : mkB P T = some (zs, by_)
class PLc (P : Program) (T : Nat) (zs : outParam (List Value)) (pl : outParam (List (Nat × Nat))) : Prop where h : plB P T = some (zs, pl)
class INc (P : Program) (T : Nat) (k : outParam IntKind) : Prop where h : intB P T = some k
class UNc (P : Program) (T : Nat) (D : outParam TypeDesc) : Prop where h : P.underlying T = some D
class FNc (P : Program) (f : Nat) (fn : outParam Func) : Prop where h : P.funcs[f]? = some fn
class PersI (c : A) : Prop where h : Pers c
instance (b o : Nat) (vs : List Value) : PersI (cells false b o vs) := ⟨Pers.cells _ _ _⟩
instance (sz : Nat) (v : Value) (cs : List Value) : PersI (slv false sz v cs) := ⟨Pers.slv _ _ _⟩
instance (xs : List BS) : PersI (bytes xs) := ⟨Pers.bytes _⟩
theorem mm {α : Type _} {c : α} {Γ : List α} (h : c ∈ Γ := by repeat (first | exact List.Mem.head _ | apply List.Mem.tail)) : c ∈ Γ := h
theorem uu {Γ Δ : List A} {c c' : A} (h : Upd Γ c c' Δ := by repeat (first | exact Upd.here | apply Upd.there)) : Upd Γ c c' Δ := h
theorem pk1 {Γ Θ : List A} {c : A} (h : Pick1 Γ c Θ := by repeat (first | exact Pick1.here | apply Pick1.there)) : Pick1 Γ c Θ := h
theorem pkk {Γ cs Θ : List A} (h : Pick Γ cs Θ := by repeat (first | exact Pick.nil | apply Pick.keep (by repeat (first | exact List.Mem.head _ | apply List.Mem.tail)) (by first | exact PersI.h | assumption) | apply Pick.cons (by repeat (first | exact Pick1.here | apply Pick1.there)))) : Pick Γ cs Θ := h
theorem Imp.pk {Γ Δ Θ : List A} (h : Pick Γ Δ Θ := by repeat (first | exact Pick.nil | apply Pick.keep (by repeat (first | exact List.Mem.head _ | apply List.Mem.tail)) (by first | exact PersI.h | assumption) | apply Pick.cons (by repeat (first | exact Pick1.here | apply Pick1.there)))) : Imp Γ Δ := Imp.pick h
theorem sst {vs vs' : List Value} {i : Nat} {v : Value} (h : SetAt vs i v vs' := by repeat constructor) : SetAt vs i v vs' := h
theorem spl {vs us vs' : List Value} {i : Nat} (h : SpL vs i us vs' := by repeat constructor) : SpL vs i us vs' := h
theorem sbb {e' e : List (Nat × Value)} (h : SubE e' e := by repeat (first | exact trivial | refine ⟨rfl, ?_⟩)) : SubE e' e := h
inductive TakeL : List Value → Nat → Nat → List Value → Prop
  | nil {r : List Value} : TakeL r 0 0 []
  | put {x : Value} {r us : List Value} {k : Nat} : TakeL r 0 k us → TakeL (x :: r) 0 (k + 1) (x :: us)
  | skip {x : Value} {i k : Nat} {r us : List Value} : TakeL r i k us → TakeL (x :: r) (i + 1) k us
theorem TakeL.eq {vs us : List Value} {i k : Nat} (h : TakeL vs i k us) : us.length = k ∧ (vs.drop i).take us.length = us := by
  induction h with
  | nil => simp
  | put _ ih => simp only [List.drop_zero, List.length_cons, List.take_succ_cons] at ih ⊢; exact ⟨by rw [ih.1], by rw [ih.2]⟩
  | skip _ ih => exact ⟨ih.1, by simpa using ih.2⟩
section
variable {P : Program} {n : Nat} {ds : List Deferred} {env e' : List (Nat × Value)} {s : St} {Γ Δ Θ : List A} {Q : QX} {K : St → List A → Prop} {J : St → Prop} {ops : Array Oper} {rest : List Oper} {op : Op} {d : Nat} {ty : TypeId} {pos : String} {af : Array Edge} {g : Option (Nat × Bool)} {v u : Value} {x y z : Operand} {T : TypeId}
theorem q_loadT {p : Bool} {b o i k : Nat} {vs us : List Value} {d : Option Tmp} (hT : ldB P T = some (some k)) (hx : ev s x = some (.pointer (some ⟨b, o + i, none⟩))) (hm : cells p b o vs ∈ Γ) (hv : TakeL vs i k us) :
    Q1 P ⟨d, .load T x, ty, pos, af, g⟩ s Γ (.agg us.toArray) := q_loadN (i := i) hT hx hm rfl hv.eq.1 (by have := hv.eq; rw [this.1] at this; exact this.2)
theorem q_loadTz {p : Bool} {b o k : Nat} {vs us : List Value} {d : Option Tmp} (hT : ldB P T = some (some k)) (hx : ev s x = some (.pointer (some ⟨b, o, none⟩))) (hm : cells p b o vs ∈ Γ) (hv : TakeL vs 0 k us) :
    Q1 P ⟨d, .load T x, ty, pos, af, g⟩ s Γ (.agg us.toArray) := q_loadT (i := 0) hT hx hm hv
theorem q_lenL {a : Option Addr} {m c : Nat} {e : TypeId} {d : Option Tmp} (hT : P.underlying T = some (.slice e)) (hx : ev s x = some (.slice a m c)) :
    Q1 P ⟨d, .call { callee := .builtin .len, args := #[x], argTypes := #[T] }, ty, pos, af, g⟩ s Γ (.int .i64 m) := q_len rfl hT hx
theorem q_lenSL {b : ByteArray} {d : Option Tmp} (hT : P.underlying T = some .string) (hx : ev s x = some (.string b)) :
    Q1 P ⟨d, .call { callee := .builtin .len, args := #[x], argTypes := #[T] }, ty, pos, af, g⟩ s Γ (.int .i64 b.size) := q_lenS rfl hT hx
theorem al_1z {p : Bool} {b o : Nat} {vs : List Value} {d : Option Tmp} (hT : ldB P T = some none) (hx : ev s x = some (.pointer (some ⟨b, o, none⟩))) (hm : cells p b o vs ∈ Γ) (hv : vs[0]? = some v) :
    Ent Γ [cells p b o vs] ∧ Q1 P ⟨d, .load T x, ty, pos, af, g⟩ s [cells p b o vs] v := ⟨.mem hm, q_load1z hT hx (.head _) hv⟩
theorem al_1 {p : Bool} {b o a i : Nat} {vs : List Value} {d : Option Tmp} (hT : ldB P T = some none) (hx : ev s x = some (.pointer (some ⟨b, a, none⟩))) (hm : cells p b o vs ∈ Γ) (ha : a = o + i) (hv : vs[i]? = some v) :
    Ent Γ [cells p b o vs] ∧ Q1 P ⟨d, .load T x, ty, pos, af, g⟩ s [cells p b o vs] v := ⟨.mem hm, q_load1 hT hx (.head _) ha hv⟩
theorem al_Tz {p : Bool} {b o k : Nat} {vs us : List Value} {d : Option Tmp} (hT : ldB P T = some (some k)) (hx : ev s x = some (.pointer (some ⟨b, o, none⟩))) (hm : cells p b o vs ∈ Γ) (hv : TakeL vs 0 k us) :
    Ent Γ [cells p b o vs] ∧ Q1 P ⟨d, .load T x, ty, pos, af, g⟩ s [cells p b o vs] (.agg us.toArray) := ⟨.mem hm, q_loadTz hT hx (.head _) hv⟩
theorem al_T {p : Bool} {b o i k : Nat} {vs us : List Value} {d : Option Tmp} (hT : ldB P T = some (some k)) (hx : ev s x = some (.pointer (some ⟨b, o + i, none⟩))) (hm : cells p b o vs ∈ Γ) (hv : TakeL vs i k us) :
    Ent Γ [cells p b o vs] ∧ Q1 P ⟨d, .load T x, ty, pos, af, g⟩ s [cells p b o vs] (.agg us.toArray) := ⟨.mem hm, q_loadT hT hx (.head _) hv⟩
/- One operation that only reads. -/
theorem stp (k : WPL P n ops rest ⟨ds, (d, v) :: env⟩ Γ K) (h : Q1 P ⟨some d, op, ty, pos, af, none⟩ ⟨ds, env⟩ Γ v := by first
    | (apply q_move; exact rfl) | (apply q_nilP; exact rfl) | (apply q_faK; exact FAc.h; exact rfl) | (apply q_fa; exact FAc.h; exact rfl) | (apply q_load1z; exact LDc.h; exact rfl; (repeat (first | exact List.Mem.head _ | apply List.Mem.tail)); exact rfl) | (apply q_load1; exact LDc.h; exact rfl; (repeat (first | exact List.Mem.head _ | apply List.Mem.tail)); exact rfl; exact rfl) | (apply q_loadTz; exact LDc.h; exact rfl; (repeat (first | exact List.Mem.head _ | apply List.Mem.tail)); (repeat constructor); done) | (apply q_loadT; exact LDc.h; exact rfl; (repeat (first | exact List.Mem.head _ | apply List.Mem.tail)); (repeat constructor); done) | (apply q_assign; exact rfl) | (apply q_extract; exact rfl; exact rfl) | (apply q_nilF; exact rfl) | (apply q_pickT; exact rfl; exact rfl) | (apply q_pickF; exact rfl; exact rfl) | (apply q_not; exact rfl) | (apply q_lenL; exact UNc.h; exact rfl) | (apply q_idxN; exact SLc.h; exact rfl; exact rfl; omega; assumption) | (apply q_idxAN; exact ARc.h; exact rfl; exact rfl; omega) | (apply q_inc; exact rfl; exact rfl; omega) | (apply q_addI; exact rfl; exact rfl; omega) | (apply q_subI; exact rfl; exact rfl; omega) | (apply q_mulI; exact rfl; exact rfl; omega) | (apply q_addU; exact rfl; exact rfl; omega) | (apply q_subU; exact rfl; exact rfl; omega) | (apply q_quoI; exact rfl; exact rfl; omega) | (apply q_quoU; exact rfl; exact rfl; omega) | (apply q_quo; exact rfl; exact rfl; decide) | (apply q_remN; exact rfl; exact rfl; omega) | (apply q_rem; exact rfl; exact rfl; decide) | exact q_int rfl rfl rfl | (apply q_convU; exact INc.h; exact INc.h; exact rfl; omega) | (apply q_convI; exact INc.h; exact INc.h; exact rfl; omega) | (apply q_conv32; exact INc.h; exact INc.h; exact rfl; omega) | (apply q_conv; exact INc.h; exact INc.h; exact rfl) | (apply q_boolEq; exact UNc.h; exact rfl; exact rfl) | (apply q_boolNe; exact UNc.h; exact rfl; exact rfl) | (apply q_slNilEq; exact UNc.h; exact rfl; exact rfl) | (apply q_slNilNe; exact UNc.h; exact rfl; exact rfl) | (apply q_ptNilEq; exact UNc.h; exact rfl; exact rfl) | (apply q_ptNilNe; exact UNc.h; exact rfl; exact rfl) | (apply q_strCat; exact rfl; exact rfl; omega) | (apply q_strEq; exact rfl; exact rfl) | (apply q_shl; exact rfl; exact rfl; omega) | (apply q_shr; exact rfl; exact rfl; omega) | (apply q_bits; exact rfl; exact rfl; simp; exact (fun _ => rfl)) | (apply q_neg; exact rfl) | (apply q_com; exact rfl; exact (fun _ => rfl)) | exact q_build PLc.h rfl rfl | exact q_func rfl rfl | (apply q_lenSL; exact UNc.h; exact rfl) | (apply q_min2; exact rfl; exact rfl) | (apply q_max2; exact rfl; exact rfl) | (apply q_idx; exact SLc.h; exact rfl; exact rfl; omega; omega; assumption) | (apply q_idxA; exact ARc.h; exact rfl; exact rfl; omega; omega) | (apply q_slice; exact SLc.h; exact rfl; exact rfl; exact rfl; exact rfl; (first | (simp <;> omega) | omega); (first | (simp <;> omega) | omega); (first | (simp <;> omega) | omega); (first | (simp <;> omega) | omega); simp) | (apply q_sliceA; exact ARc.h; exact rfl; exact rfl; exact rfl; exact rfl; (first | (simp <;> omega) | omega); (first | (simp <;> omega) | omega); (first | (simp <;> omega) | omega); (first | (simp <;> omega) | omega); simp))
    (hd : Nat.blt d n = true := by rfl) : WPL P n ops (⟨some d, op, ty, pos, af, none⟩ :: rest) ⟨ds, env⟩ Γ K := L_q h rfl hd k
theorem stpY {j t : Nat} {b : Bool} (hj : (ops[j]?).bind (·.dst) = some t) (hv : getE env t = some (.bool b)) (k : WPL P n ops rest ⟨ds, (d, v) :: env⟩ Γ K) (h : Q1 P ⟨some d, op, ty, pos, af, some (j, b)⟩ ⟨ds, env⟩ Γ v := by first
    | (apply q_move; exact rfl) | (apply q_nilP; exact rfl) | (apply q_faK; exact FAc.h; exact rfl) | (apply q_fa; exact FAc.h; exact rfl) | (apply q_load1z; exact LDc.h; exact rfl; (repeat (first | exact List.Mem.head _ | apply List.Mem.tail)); exact rfl) | (apply q_load1; exact LDc.h; exact rfl; (repeat (first | exact List.Mem.head _ | apply List.Mem.tail)); exact rfl; exact rfl) | (apply q_loadTz; exact LDc.h; exact rfl; (repeat (first | exact List.Mem.head _ | apply List.Mem.tail)); (repeat constructor); done) | (apply q_loadT; exact LDc.h; exact rfl; (repeat (first | exact List.Mem.head _ | apply List.Mem.tail)); (repeat constructor); done) | (apply q_assign; exact rfl) | (apply q_extract; exact rfl; exact rfl) | (apply q_nilF; exact rfl) | (apply q_pickT; exact rfl; exact rfl) | (apply q_pickF; exact rfl; exact rfl) | (apply q_not; exact rfl) | (apply q_lenL; exact UNc.h; exact rfl) | (apply q_idxN; exact SLc.h; exact rfl; exact rfl; omega; assumption) | (apply q_idxAN; exact ARc.h; exact rfl; exact rfl; omega) | (apply q_inc; exact rfl; exact rfl; omega) | (apply q_addI; exact rfl; exact rfl; omega) | (apply q_subI; exact rfl; exact rfl; omega) | (apply q_mulI; exact rfl; exact rfl; omega) | (apply q_addU; exact rfl; exact rfl; omega) | (apply q_subU; exact rfl; exact rfl; omega) | (apply q_quoI; exact rfl; exact rfl; omega) | (apply q_quoU; exact rfl; exact rfl; omega) | (apply q_quo; exact rfl; exact rfl; decide) | (apply q_remN; exact rfl; exact rfl; omega) | (apply q_rem; exact rfl; exact rfl; decide) | exact q_int rfl rfl rfl | (apply q_convU; exact INc.h; exact INc.h; exact rfl; omega) | (apply q_convI; exact INc.h; exact INc.h; exact rfl; omega) | (apply q_conv32; exact INc.h; exact INc.h; exact rfl; omega) | (apply q_conv; exact INc.h; exact INc.h; exact rfl) | (apply q_boolEq; exact UNc.h; exact rfl; exact rfl) | (apply q_boolNe; exact UNc.h; exact rfl; exact rfl) | (apply q_slNilEq; exact UNc.h; exact rfl; exact rfl) | (apply q_slNilNe; exact UNc.h; exact rfl; exact rfl) | (apply q_ptNilEq; exact UNc.h; exact rfl; exact rfl) | (apply q_ptNilNe; exact UNc.h; exact rfl; exact rfl) | (apply q_strCat; exact rfl; exact rfl; omega) | (apply q_strEq; exact rfl; exact rfl) | exact q_build PLc.h rfl rfl | exact q_func rfl rfl | (apply q_lenSL; exact UNc.h; exact rfl) | (apply q_min2; exact rfl; exact rfl) | (apply q_max2; exact rfl; exact rfl) | (apply q_idx; exact SLc.h; exact rfl; exact rfl; omega; omega; assumption) | (apply q_idxA; exact ARc.h; exact rfl; exact rfl; omega; omega))
    (hd : Nat.blt d n = true := by rfl) : WPL P n ops (⟨some d, op, ty, pos, af, some (j, b)⟩ :: rest) ⟨ds, env⟩ Γ K := .guardYes rfl hj hv (h.wpo hd k)
theorem stq (k : WPQ P n ops rest ⟨ds, (d, v) :: env⟩ Γ J) (h : Q1 P ⟨some d, op, ty, pos, af, none⟩ ⟨ds, env⟩ Γ v := by first
    | (apply q_move; exact rfl) | (apply q_nilP; exact rfl) | (apply q_faK; exact FAc.h; exact rfl) | (apply q_fa; exact FAc.h; exact rfl) | (apply q_load1z; exact LDc.h; exact rfl; (repeat (first | exact List.Mem.head _ | apply List.Mem.tail)); exact rfl) | (apply q_load1; exact LDc.h; exact rfl; (repeat (first | exact List.Mem.head _ | apply List.Mem.tail)); exact rfl; exact rfl) | (apply q_loadTz; exact LDc.h; exact rfl; (repeat (first | exact List.Mem.head _ | apply List.Mem.tail)); (repeat constructor); done) | (apply q_loadT; exact LDc.h; exact rfl; (repeat (first | exact List.Mem.head _ | apply List.Mem.tail)); (repeat constructor); done) | (apply q_assign; exact rfl) | (apply q_extract; exact rfl; exact rfl) | (apply q_nilF; exact rfl) | (apply q_pickT; exact rfl; exact rfl) | (apply q_pickF; exact rfl; exact rfl) | (apply q_not; exact rfl) | (apply q_lenL; exact UNc.h; exact rfl) | (apply q_idxN; exact SLc.h; exact rfl; exact rfl; omega; assumption) | (apply q_idxAN; exact ARc.h; exact rfl; exact rfl; omega) | (apply q_inc; exact rfl; exact rfl; omega) | (apply q_addI; exact rfl; exact rfl; omega) | (apply q_subI; exact rfl; exact rfl; omega) | (apply q_mulI; exact rfl; exact rfl; omega) | (apply q_addU; exact rfl; exact rfl; omega) | (apply q_subU; exact rfl; exact rfl; omega) | (apply q_quoI; exact rfl; exact rfl; omega) | (apply q_quoU; exact rfl; exact rfl; omega) | (apply q_quo; exact rfl; exact rfl; decide) | (apply q_remN; exact rfl; exact rfl; omega) | (apply q_rem; exact rfl; exact rfl; decide) | exact q_int rfl rfl rfl | (apply q_convU; exact INc.h; exact INc.h; exact rfl; omega) | (apply q_convI; exact INc.h; exact INc.h; exact rfl; omega) | (apply q_conv32; exact INc.h; exact INc.h; exact rfl; omega) | (apply q_conv; exact INc.h; exact INc.h; exact rfl) | (apply q_boolEq; exact UNc.h; exact rfl; exact rfl) | (apply q_boolNe; exact UNc.h; exact rfl; exact rfl) | (apply q_slNilEq; exact UNc.h; exact rfl; exact rfl) | (apply q_slNilNe; exact UNc.h; exact rfl; exact rfl) | (apply q_ptNilEq; exact UNc.h; exact rfl; exact rfl) | (apply q_ptNilNe; exact UNc.h; exact rfl; exact rfl) | (apply q_strCat; exact rfl; exact rfl; omega) | (apply q_strEq; exact rfl; exact rfl) | (apply q_shl; exact rfl; exact rfl; omega) | (apply q_shr; exact rfl; exact rfl; omega) | (apply q_bits; exact rfl; exact rfl; simp; exact (fun _ => rfl)) | (apply q_neg; exact rfl) | (apply q_com; exact rfl; exact (fun _ => rfl)) | exact q_build PLc.h rfl rfl | exact q_func rfl rfl | (apply q_lenSL; exact UNc.h; exact rfl) | (apply q_min2; exact rfl; exact rfl) | (apply q_max2; exact rfl; exact rfl) | (apply q_idx; exact SLc.h; exact rfl; exact rfl; omega; omega; assumption) | (apply q_idxA; exact ARc.h; exact rfl; exact rfl; omega; omega) | (apply q_slice; exact SLc.h; exact rfl; exact rfl; exact rfl; exact rfl; (first | (simp <;> omega) | omega); (first | (simp <;> omega) | omega); (first | (simp <;> omega) | omega); (first | (simp <;> omega) | omega); simp) | (apply q_sliceA; exact ARc.h; exact rfl; exact rfl; exact rfl; exact rfl; (first | (simp <;> omega) | omega); (first | (simp <;> omega) | omega); (first | (simp <;> omega) | omega); (first | (simp <;> omega) | omega); simp))
    (hd : Nat.blt d n = true := by rfl) : WPQ P n ops (⟨some d, op, ty, pos, af, none⟩ :: rest) ⟨ds, env⟩ Γ J := .cons h hd k
theorem stqY {j t : Nat} {b : Bool} (hj : (ops[j]?).bind (·.dst) = some t) (hv : getE env t = some (.bool b)) (k : WPQ P n ops rest ⟨ds, (d, v) :: env⟩ Γ J) (h : Q1 P ⟨some d, op, ty, pos, af, some (j, b)⟩ ⟨ds, env⟩ Γ v := by first
    | (apply q_move; exact rfl) | (apply q_nilP; exact rfl) | (apply q_faK; exact FAc.h; exact rfl) | (apply q_fa; exact FAc.h; exact rfl) | (apply q_load1z; exact LDc.h; exact rfl; (repeat (first | exact List.Mem.head _ | apply List.Mem.tail)); exact rfl) | (apply q_load1; exact LDc.h; exact rfl; (repeat (first | exact List.Mem.head _ | apply List.Mem.tail)); exact rfl; exact rfl) | (apply q_loadTz; exact LDc.h; exact rfl; (repeat (first | exact List.Mem.head _ | apply List.Mem.tail)); (repeat constructor); done) | (apply q_loadT; exact LDc.h; exact rfl; (repeat (first | exact List.Mem.head _ | apply List.Mem.tail)); (repeat constructor); done) | (apply q_assign; exact rfl) | (apply q_extract; exact rfl; exact rfl) | (apply q_nilF; exact rfl) | (apply q_pickT; exact rfl; exact rfl) | (apply q_pickF; exact rfl; exact rfl) | (apply q_not; exact rfl) | (apply q_lenL; exact UNc.h; exact rfl) | (apply q_idxN; exact SLc.h; exact rfl; exact rfl; omega; assumption) | (apply q_idxAN; exact ARc.h; exact rfl; exact rfl; omega) | (apply q_inc; exact rfl; exact rfl; omega) | (apply q_addI; exact rfl; exact rfl; omega) | (apply q_subI; exact rfl; exact rfl; omega) | (apply q_mulI; exact rfl; exact rfl; omega) | (apply q_addU; exact rfl; exact rfl; omega) | (apply q_subU; exact rfl; exact rfl; omega) | (apply q_quoI; exact rfl; exact rfl; omega) | (apply q_quoU; exact rfl; exact rfl; omega) | (apply q_quo; exact rfl; exact rfl; decide) | (apply q_remN; exact rfl; exact rfl; omega) | (apply q_rem; exact rfl; exact rfl; decide) | exact q_int rfl rfl rfl | (apply q_convU; exact INc.h; exact INc.h; exact rfl; omega) | (apply q_convI; exact INc.h; exact INc.h; exact rfl; omega) | (apply q_conv32; exact INc.h; exact INc.h; exact rfl; omega) | (apply q_conv; exact INc.h; exact INc.h; exact rfl) | (apply q_boolEq; exact UNc.h; exact rfl; exact rfl) | (apply q_boolNe; exact UNc.h; exact rfl; exact rfl) | (apply q_slNilEq; exact UNc.h; exact rfl; exact rfl) | (apply q_slNilNe; exact UNc.h; exact rfl; exact rfl) | (apply q_ptNilEq; exact UNc.h; exact rfl; exact rfl) | (apply q_ptNilNe; exact UNc.h; exact rfl; exact rfl) | (apply q_strCat; exact rfl; exact rfl; omega) | (apply q_strEq; exact rfl; exact rfl) | exact q_build PLc.h rfl rfl | exact q_func rfl rfl | (apply q_lenSL; exact UNc.h; exact rfl) | (apply q_min2; exact rfl; exact rfl) | (apply q_max2; exact rfl; exact rfl) | (apply q_idx; exact SLc.h; exact rfl; exact rfl; omega; omega; assumption) | (apply q_idxA; exact ARc.h; exact rfl; exact rfl; omega; omega))
    (hd : Nat.blt d n = true := by rfl) : WPQ P n ops (⟨some d, op, ty, pos, af, some (j, b)⟩ :: rest) ⟨ds, env⟩ Γ J := .yes hj hv h hd k
/- A store, a new block, a call. -/
theorem sto (k : WPL P n ops rest ⟨ds, env⟩ Δ K) (h : S1 P ⟨none, op, ty, pos, af, none⟩ ⟨ds, env⟩ Γ Δ := by first
    | (apply s_store1z; exact SZc.h; exact rfl; exact rfl; exact rfl; exact rfl; (repeat (first | exact Upd.here | apply Upd.there)); (repeat constructor); done) | (apply s_store1k; exact SZc.h; exact rfl; exact rfl; exact rfl; exact rfl; (repeat (first | exact Upd.here | apply Upd.there)); (repeat constructor); done) | (apply s_storeNz; exact SZc.h; exact rfl; exact rfl; simp [Value.oneCell']; exact rfl; (repeat (first | exact Upd.here | apply Upd.there)); (repeat constructor); done) | (apply s_storeNk; exact SZc.h; exact rfl; exact rfl; simp [Value.oneCell']; exact rfl; (repeat (first | exact Upd.here | apply Upd.there)); (repeat constructor); done)) :
    WPL P n ops (⟨none, op, ty, pos, af, none⟩ :: rest) ⟨ds, env⟩ Γ K := .cons rfl (h.wpo rfl k)
theorem nw {vs : List Value} {f : Nat → Value} (k : ∀ b, WPL P n ops rest ⟨ds, (d, f b) :: env⟩ (cells true b 0 vs :: Γ) K) (h : E1 P ⟨some d, op, ty, pos, af, none⟩ ⟨ds, env⟩ Γ (newR Γ vs f) := by first
    | (apply e_allocL; exact ZLc.h) | exact e_boxN rfl | exact e_box1 rfl rfl | exact e_buildSlice MKc.h (by decide) rfl rfl rfl | (apply e_make; exact MKc.h; decide; exact rfl; exact rfl; omega; omega; omega; omega))
    (hd : Nat.blt d n = true := by rfl) : WPL P n ops (⟨some d, op, ty, pos, af, none⟩ :: rest) ⟨ds, env⟩ Γ K :=
  .cons rfl (h.wpo hd fun v Δ hR => by obtain ⟨b, rfl, rfl⟩ := hR; exact k b)
theorem nwb (cs : List Value) {f : Nat → Value} (k : ∀ b, WPL P n ops rest ⟨ds, (d, f b) :: env⟩ (cells true b 0 cs :: Γ) K) (h : E1 P ⟨some d, op, ty, pos, af, none⟩ ⟨ds, env⟩ Γ (newR Γ cs f) := by exact e_buildSlice MKc.h (by decide) rfl rfl rfl)
    (hd : Nat.blt d n = true := by rfl) : WPL P n ops (⟨some d, op, ty, pos, af, none⟩ :: rest) ⟨ds, env⟩ Γ K :=
  .cons rfl (h.wpo hd fun v Δ hR => by obtain ⟨b, rfl, rfl⟩ := hR; exact k b)
theorem kall {f : FuncId} {xs : List Operand} {ts : Array TypeId} {vs : List Value} {fn : Func} {c : Code} {pre : List A} {R : Value → List A → Prop} [i : FNc P f fn] (h : evs ⟨ds, env⟩ xs = some vs)
    (t : Trip P f vs.toArray pre R) (k : ∀ v Δ, R v Δ → WPL P n ops rest ⟨ds, (d, v) :: env⟩ (Δ ++ Θ) K)
    (hp : Pick Γ pre Θ := by repeat (first | exact Pick.nil | apply Pick.keep (by repeat (first | exact List.Mem.head _ | apply List.Mem.tail)) (by first | exact PersI.h | assumption) | apply Pick.cons (by repeat (first | exact Pick1.here | apply Pick1.there))))
    (hb : fn.body = some c := by rfl) (hn : (fn.name == "runtime.NumGoroutine") = false := by rfl) (hd : Nat.blt d n = true := by rfl) : WPL P n ops (⟨some d, .call { callee := .value (.func f), args := xs.toArray, argTypes := ts }, ty, pos, af, none⟩ :: rest) ⟨ds, env⟩ Γ K :=
  .cons rfl (C1.call (c_call i.h hb hn h) t hp hd k)
theorem kallN {f : FuncId} {xs : List Operand} {ts : Array TypeId} {vs : List Value} {fn : Func} {c : Code} {pre : List A} {R : Value → List A → Prop} [i : FNc P f fn] (h : evs ⟨ds, env⟩ xs = some vs)
    (t : Trip P f vs.toArray pre R) (k : ∀ v Δ, R v Δ → WPL P n ops rest ⟨ds, env⟩ (Δ ++ Θ) K)
    (hp : Pick Γ pre Θ := by repeat (first | exact Pick.nil | apply Pick.keep (by repeat (first | exact List.Mem.head _ | apply List.Mem.tail)) (by first | exact PersI.h | assumption) | apply Pick.cons (by repeat (first | exact Pick1.here | apply Pick1.there)))) (hb : fn.body = some c := by rfl) (hn : (fn.name == "runtime.NumGoroutine") = false := by rfl) :
    WPL P n ops (⟨none, .call { callee := .value (.func f), args := xs.toArray, argTypes := ts }, ty, pos, af, none⟩ :: rest) ⟨ds, env⟩ Γ K :=
  .cons rfl (C1.call (c_call i.h hb hn h) t hp rfl k)
/- Regions that draw. -/
section
variable {f : Nat} {lk : SLocks} {listed : Array Bool} {H : List A}
theorem atP (i : Nat) (ho : ops[i]? = some ⟨some d, op, ty, pos, af, none⟩) (h : WPA P n ops f lk (listed.setIfInBounds i true) ⟨ds, (d, v) :: env⟩ Γ K) (hq : Q1 P ⟨some d, op, ty, pos, af, none⟩ ⟨ds, env⟩ [] v := by first
    | (apply q_move; exact rfl) | (apply q_nilP; exact rfl) | (apply q_faK; exact FAc.h; exact rfl) | (apply q_fa; exact FAc.h; exact rfl) | (apply q_load1z; exact LDc.h; exact rfl; (repeat (first | exact List.Mem.head _ | apply List.Mem.tail)); exact rfl) | (apply q_load1; exact LDc.h; exact rfl; (repeat (first | exact List.Mem.head _ | apply List.Mem.tail)); exact rfl; exact rfl) | (apply q_loadTz; exact LDc.h; exact rfl; (repeat (first | exact List.Mem.head _ | apply List.Mem.tail)); (repeat constructor); done) | (apply q_loadT; exact LDc.h; exact rfl; (repeat (first | exact List.Mem.head _ | apply List.Mem.tail)); (repeat constructor); done) | (apply q_assign; exact rfl) | (apply q_extract; exact rfl; exact rfl) | (apply q_nilF; exact rfl) | (apply q_pickT; exact rfl; exact rfl) | (apply q_pickF; exact rfl; exact rfl) | (apply q_not; exact rfl) | (apply q_lenL; exact UNc.h; exact rfl) | (apply q_idxN; exact SLc.h; exact rfl; exact rfl; omega; assumption) | (apply q_idxAN; exact ARc.h; exact rfl; exact rfl; omega) | (apply q_inc; exact rfl; exact rfl; omega) | (apply q_addI; exact rfl; exact rfl; omega) | (apply q_subI; exact rfl; exact rfl; omega) | (apply q_mulI; exact rfl; exact rfl; omega) | (apply q_addU; exact rfl; exact rfl; omega) | (apply q_subU; exact rfl; exact rfl; omega) | (apply q_quoI; exact rfl; exact rfl; omega) | (apply q_quoU; exact rfl; exact rfl; omega) | (apply q_quo; exact rfl; exact rfl; decide) | (apply q_remN; exact rfl; exact rfl; omega) | (apply q_rem; exact rfl; exact rfl; decide) | exact q_int rfl rfl rfl | (apply q_convU; exact INc.h; exact INc.h; exact rfl; omega) | (apply q_convI; exact INc.h; exact INc.h; exact rfl; omega) | (apply q_conv32; exact INc.h; exact INc.h; exact rfl; omega) | (apply q_conv; exact INc.h; exact INc.h; exact rfl) | (apply q_boolEq; exact UNc.h; exact rfl; exact rfl) | (apply q_boolNe; exact UNc.h; exact rfl; exact rfl) | (apply q_slNilEq; exact UNc.h; exact rfl; exact rfl) | (apply q_slNilNe; exact UNc.h; exact rfl; exact rfl) | (apply q_ptNilEq; exact UNc.h; exact rfl; exact rfl) | (apply q_ptNilNe; exact UNc.h; exact rfl; exact rfl) | (apply q_strCat; exact rfl; exact rfl; omega) | (apply q_strEq; exact rfl; exact rfl) | (apply q_shl; exact rfl; exact rfl; omega) | (apply q_shr; exact rfl; exact rfl; omega) | (apply q_bits; exact rfl; exact rfl; simp; exact (fun _ => rfl)) | (apply q_neg; exact rfl) | (apply q_com; exact rfl; exact (fun _ => rfl)) | exact q_build PLc.h rfl rfl | exact q_func rfl rfl | (apply q_lenSL; exact UNc.h; exact rfl) | (apply q_min2; exact rfl; exact rfl) | (apply q_max2; exact rfl; exact rfl) | (apply q_idx; exact SLc.h; exact rfl; exact rfl; omega; omega; assumption) | (apply q_idxA; exact ARc.h; exact rfl; exact rfl; omega; omega) | (apply q_slice; exact SLc.h; exact rfl; exact rfl; exact rfl; exact rfl; (first | (simp <;> omega) | omega); (first | (simp <;> omega) | omega); (first | (simp <;> omega) | omega); (first | (simp <;> omega) | omega); simp) | (apply q_sliceA; exact ARc.h; exact rfl; exact rfl; exact rfl; exact rfl; (first | (simp <;> omega) | omega); (first | (simp <;> omega) | omega); (first | (simp <;> omega) | omega); (first | (simp <;> omega) | omega); simp))
    (hsel : noSel ops = true := by kernel_rfl) (hr : (Region.ready .any ops listed).contains i = true := by kernel_rfl) (ht : takeB ops listed i ⟨some d, op, ty, pos, af, none⟩ = true := by kernel_rfl) (hd : Nat.blt d n = true := by rfl) (hl : Lk lk Γ := by repeat (first | exact Lk.nil _ | refine Lk.cons (Ent.mem (by repeat (first | exact List.Mem.head _ | apply List.Mem.tail))) ?_)) :
    WPA P n ops (f + 1) lk listed ⟨ds, env⟩ Γ K := .takeP i ho hq hsel hr ht rfl hd hl h
theorem atL (i : Nat) (ho : ops[i]? = some ⟨some d, op, ty, pos, af, none⟩) (h : WPA P n ops f ((i, H) :: lk) (listed.setIfInBounds i true) ⟨ds, (d, v) :: env⟩ Γ K) (hq : Ent Γ H ∧ Q1 P ⟨some d, op, ty, pos, af, none⟩ ⟨ds, env⟩ H v := by first
    | (apply al_1z; exact LDc.h; exact rfl; (repeat (first | exact List.Mem.head _ | apply List.Mem.tail)); exact rfl) | (apply al_1; exact LDc.h; exact rfl; (repeat (first | exact List.Mem.head _ | apply List.Mem.tail)); exact rfl; exact rfl) | (apply al_Tz; exact LDc.h; exact rfl; (repeat (first | exact List.Mem.head _ | apply List.Mem.tail)); (repeat constructor); done) | (apply al_T; exact LDc.h; exact rfl; (repeat (first | exact List.Mem.head _ | apply List.Mem.tail)); (repeat constructor); done))
    (hsel : noSel ops = true := by kernel_rfl) (hr : (Region.ready .any ops listed).contains i = true := by kernel_rfl) (ht : takeB ops listed i ⟨some d, op, ty, pos, af, none⟩ = true := by kernel_rfl) (hd : Nat.blt d n = true := by rfl) (hl : Lk lk Γ := by repeat (first | exact Lk.nil _ | refine Lk.cons (Ent.mem (by repeat (first | exact List.Mem.head _ | apply List.Mem.tail))) ?_)) :
    WPA P n ops (f + 1) lk listed ⟨ds, env⟩ Γ K := .takeL i ho hq.1 hq.2 hsel hr ht rfl hd hl h
theorem atPY (i : Nat) {j tt : Nat} {b : Bool} (ho : ops[i]? = some ⟨some d, op, ty, pos, af, some (j, b)⟩) (hj : (ops[j]?).bind (·.dst) = some tt) (hv : getE env tt = some (.bool b)) (h : WPA P n ops f lk (listed.setIfInBounds i true) ⟨ds, (d, v) :: env⟩ Γ K) (hq : Q1 P ⟨some d, op, ty, pos, af, some (j, b)⟩ ⟨ds, env⟩ [] v := by first
    | (apply q_move; exact rfl) | (apply q_nilP; exact rfl) | (apply q_faK; exact FAc.h; exact rfl) | (apply q_fa; exact FAc.h; exact rfl) | (apply q_load1z; exact LDc.h; exact rfl; (repeat (first | exact List.Mem.head _ | apply List.Mem.tail)); exact rfl) | (apply q_load1; exact LDc.h; exact rfl; (repeat (first | exact List.Mem.head _ | apply List.Mem.tail)); exact rfl; exact rfl) | (apply q_loadTz; exact LDc.h; exact rfl; (repeat (first | exact List.Mem.head _ | apply List.Mem.tail)); (repeat constructor); done) | (apply q_loadT; exact LDc.h; exact rfl; (repeat (first | exact List.Mem.head _ | apply List.Mem.tail)); (repeat constructor); done) | (apply q_assign; exact rfl) | (apply q_extract; exact rfl; exact rfl) | (apply q_nilF; exact rfl) | (apply q_pickT; exact rfl; exact rfl) | (apply q_pickF; exact rfl; exact rfl) | (apply q_not; exact rfl) | (apply q_lenL; exact UNc.h; exact rfl) | (apply q_idxN; exact SLc.h; exact rfl; exact rfl; omega; assumption) | (apply q_idxAN; exact ARc.h; exact rfl; exact rfl; omega) | (apply q_inc; exact rfl; exact rfl; omega) | (apply q_addI; exact rfl; exact rfl; omega) | (apply q_subI; exact rfl; exact rfl; omega) | (apply q_mulI; exact rfl; exact rfl; omega) | (apply q_addU; exact rfl; exact rfl; omega) | (apply q_subU; exact rfl; exact rfl; omega) | (apply q_quoI; exact rfl; exact rfl; omega) | (apply q_quoU; exact rfl; exact rfl; omega) | (apply q_quo; exact rfl; exact rfl; decide) | (apply q_remN; exact rfl; exact rfl; omega) | (apply q_rem; exact rfl; exact rfl; decide) | exact q_int rfl rfl rfl | (apply q_convU; exact INc.h; exact INc.h; exact rfl; omega) | (apply q_convI; exact INc.h; exact INc.h; exact rfl; omega) | (apply q_conv32; exact INc.h; exact INc.h; exact rfl; omega) | (apply q_conv; exact INc.h; exact INc.h; exact rfl) | (apply q_boolEq; exact UNc.h; exact rfl; exact rfl) | (apply q_boolNe; exact UNc.h; exact rfl; exact rfl) | (apply q_slNilEq; exact UNc.h; exact rfl; exact rfl) | (apply q_slNilNe; exact UNc.h; exact rfl; exact rfl) | (apply q_ptNilEq; exact UNc.h; exact rfl; exact rfl) | (apply q_ptNilNe; exact UNc.h; exact rfl; exact rfl) | (apply q_strCat; exact rfl; exact rfl; omega) | (apply q_strEq; exact rfl; exact rfl) | exact q_build PLc.h rfl rfl | exact q_func rfl rfl | (apply q_lenSL; exact UNc.h; exact rfl) | (apply q_min2; exact rfl; exact rfl) | (apply q_max2; exact rfl; exact rfl) | (apply q_idx; exact SLc.h; exact rfl; exact rfl; omega; omega; assumption) | (apply q_idxA; exact ARc.h; exact rfl; exact rfl; omega; omega))
    (hsel : noSel ops = true := by kernel_rfl) (hr : (Region.ready .any ops listed).contains i = true := by kernel_rfl) (ht : takeB ops listed i ⟨some d, op, ty, pos, af, some (j, b)⟩ = true := by kernel_rfl) (hd : Nat.blt d n = true := by rfl) (hl : Lk lk Γ := by repeat (first | exact Lk.nil _ | refine Lk.cons (Ent.mem (by repeat (first | exact List.Mem.head _ | apply List.Mem.tail))) ?_)) :
    WPA P n ops (f + 1) lk listed ⟨ds, env⟩ Γ K := .takePY i ho rfl hj hv hq hsel hr ht hd hl h
theorem atLY (i : Nat) {j tt : Nat} {b : Bool} (ho : ops[i]? = some ⟨some d, op, ty, pos, af, some (j, b)⟩) (hj : (ops[j]?).bind (·.dst) = some tt) (hv : getE env tt = some (.bool b)) (h : WPA P n ops f ((i, H) :: lk) (listed.setIfInBounds i true) ⟨ds, (d, v) :: env⟩ Γ K) (hq : Ent Γ H ∧ Q1 P ⟨some d, op, ty, pos, af, some (j, b)⟩ ⟨ds, env⟩ H v := by first
    | (apply al_1z; exact LDc.h; exact rfl; (repeat (first | exact List.Mem.head _ | apply List.Mem.tail)); exact rfl) | (apply al_1; exact LDc.h; exact rfl; (repeat (first | exact List.Mem.head _ | apply List.Mem.tail)); exact rfl; exact rfl) | (apply al_Tz; exact LDc.h; exact rfl; (repeat (first | exact List.Mem.head _ | apply List.Mem.tail)); (repeat constructor); done) | (apply al_T; exact LDc.h; exact rfl; (repeat (first | exact List.Mem.head _ | apply List.Mem.tail)); (repeat constructor); done))
    (hsel : noSel ops = true := by kernel_rfl) (hr : (Region.ready .any ops listed).contains i = true := by kernel_rfl) (ht : takeB ops listed i ⟨some d, op, ty, pos, af, some (j, b)⟩ = true := by kernel_rfl) (hd : Nat.blt d n = true := by rfl) (hl : Lk lk Γ := by repeat (first | exact Lk.nil _ | refine Lk.cons (Ent.mem (by repeat (first | exact List.Mem.head _ | apply List.Mem.tail))) ?_)) :
    WPA P n ops (f + 1) lk listed ⟨ds, env⟩ Γ K := .takeLY i ho hq.1 rfl hj hv hq.2 hsel hr ht hd hl h
theorem lkk (h : Lk lk Γ := by repeat (first | exact Lk.nil _ | refine Lk.cons (Ent.mem (by repeat (first | exact List.Mem.head _ | apply List.Mem.tail))) ?_)) : Lk lk Γ := h
theorem hkk {i : Nat} {lk' : SLocks} (h : Hk ops i lk' lk := by repeat (first | exact .nil | refine .anc rfl ?_ | refine .keep (by repeat (first | exact List.Mem.head _ | apply List.Mem.tail)) ?_)) : Hk ops i lk' lk := h
end
end
end Go.Sl
/- What the program's table says of the types that the walks come to (printed by a program). -/
namespace Go.Sl
open Go Go.RowKit Go.Proofs
theorem mixed : Tryd.prog.follows .mixedOrders = true := by kernel_rfl
theorem ar_arr16_uint32 : arB Tryd.prog 150 = some (16, 1) := by kernel_rfl
theorem ar_disk_sector : arB Tryd.prog 75 = some (64, 1) := by kernel_rfl
theorem in_uint64 : intB Tryd.prog 23 = some .u64 := by kernel_rfl
theorem in_uint8 : intB Tryd.prog 5 = some .u8 := by kernel_rfl
theorem ld_api_Entry : ldB Tryd.prog 58 = some (some 3) := by kernel_rfl
theorem ld_disk_sector : ldB Tryd.prog 75 = some (some 64) := by kernel_rfl
theorem ld_disk_write : ldB Tryd.prog 77 = some (some 65) := by kernel_rfl
theorem ld_int : ldB Tryd.prog 3 = some none := by kernel_rfl
theorem ld_journal_record : ldB Tryd.prog 124 = some (some 2) := by kernel_rfl
theorem ld_keep_State : ldB Tryd.prog 28 = some (some 5) := by kernel_rfl
theorem ld_keep_record : ldB Tryd.prog 85 = some (some 4) := by kernel_rfl
theorem ld_pursuivantref14_State : ldB Tryd.prog 42 = some (some 5) := by kernel_rfl
theorem ld_sl_api_Entry : ldB Tryd.prog 24 = some none := by kernel_rfl
theorem ld_sl_int : ldB Tryd.prog 29 = some none := by kernel_rfl
theorem ld_sl_uint8 : ldB Tryd.prog 56 = some none := by kernel_rfl
theorem ld_slot_record : ldB Tryd.prog 133 = some (some 3) := by kernel_rfl
theorem ld_terms_Log : ldB Tryd.prog 26 = some (some 3) := by kernel_rfl
theorem ld_uint32 : ldB Tryd.prog 105 = some none := by kernel_rfl
theorem ld_uint64 : ldB Tryd.prog 23 = some none := by kernel_rfl
theorem ld_uint8 : ldB Tryd.prog 5 = some none := by kernel_rfl
theorem mk_sl_api_Entry : mkB Tryd.prog 24 = some ([.int .u64 0, .int .i64 0, .slice none 0 0], 40) := by kernel_rfl
theorem mk_sl_disk_sector : mkB Tryd.prog 70 = some ((List.replicate 64 (.int .u8 0)), 64) := by kernel_rfl
theorem mk_sl_disk_write : mkB Tryd.prog 71 = some (([.int .i64 0] ++ List.replicate 64 (.int .u8 0)), 72) := by kernel_rfl
theorem mk_sl_journal_record : mkB Tryd.prog 106 = some ([.int .u32 0, .slice none 0 0], 32) := by kernel_rfl
theorem mk_sl_keep_record : mkB Tryd.prog 64 = some ([.int .u64 0, .int .u64 0, .int .i64 0, .slice none 0 0], 48) := by kernel_rfl
theorem mk_sl_sl_uint8 : mkB Tryd.prog 79 = some ([.slice none 0 0], 24) := by kernel_rfl
theorem mk_sl_uint8 : mkB Tryd.prog 56 = some ([.int .u8 0], 1) := by kernel_rfl
theorem pl_api_Entry : plB Tryd.prog 58 = some ([.int .u64 0, .int .i64 0, .slice none 0 0], [(0, 1), (1, 1), (2, 1)]) := by kernel_rfl
theorem pl_disk_Disk : plB Tryd.prog 73 = some ([.slice none 0 0, .slice none 0 0, .slice none 0 0, .int .i64 0, .bool false], [(0, 1), (1, 1), (2, 1), (3, 1), (4, 1)]) := by kernel_rfl
theorem pl_disk_write : plB Tryd.prog 77 = some (([.int .i64 0] ++ List.replicate 64 (.int .u8 0)), [(0, 1), (1, 64)]) := by kernel_rfl
theorem pl_journal_Journal : plB Tryd.prog 108 = some ([.pointer none, .int .i64 0, .int .i64 0, .int .u32 0, .int .u32 0, .int .u32 0, .slice none 0 0], [(0, 1), (1, 1), (2, 1), (3, 1), (4, 1), (5, 1), (6, 1)]) := by kernel_rfl
theorem pl_journal_record : plB Tryd.prog 124 = some ([.int .u32 0, .slice none 0 0], [(0, 1), (1, 1)]) := by kernel_rfl
theorem pl_keep_Keeper : plB Tryd.prog 66 = some ([.pointer none, .pointer none, .int .i64 0, .int .i64 0, .slice none 0 0, .int .u64 0, .slice none 0 0], [(0, 1), (1, 1), (2, 1), (3, 1), (4, 1), (5, 1), (6, 1)]) := by kernel_rfl
theorem pl_keep_State : plB Tryd.prog 28 = some ([.int .u64 0, .int .i64 0, .int .u64 0, .int .u64 0, .slice none 0 0], [(0, 1), (1, 1), (2, 3)]) := by kernel_rfl
theorem pl_keep_record : plB Tryd.prog 85 = some ([.int .u64 0, .int .u64 0, .int .i64 0, .slice none 0 0], [(0, 1), (1, 3)]) := by kernel_rfl
theorem pl_pack_Reader : plB Tryd.prog 140 = some ([.slice none 0 0, .bool false], [(0, 1), (1, 1)]) := by kernel_rfl
theorem pl_pursuivantref09_Log : plB Tryd.prog 40 = some ([.int .u64 0, .int .u64 0, .slice none 0 0], [(0, 1), (1, 1), (2, 1)]) := by kernel_rfl
theorem pl_pursuivantref14_State : plB Tryd.prog 42 = some ([.int .u64 0, .int .i64 0, .int .u64 0, .int .u64 0, .slice none 0 0], [(0, 1), (1, 1), (2, 3)]) := by kernel_rfl
theorem pl_slot_record : plB Tryd.prog 133 = some ([.int .i64 0, .int .u32 0, .slice none 0 0], [(0, 1), (1, 1), (2, 1)]) := by kernel_rfl
theorem pl_terms_Log : plB Tryd.prog 26 = some ([.int .u64 0, .int .u64 0, .slice none 0 0], [(0, 1), (1, 1), (2, 1)]) := by kernel_rfl
theorem sl_sl_api_Entry : slB Tryd.prog 24 = some (58, 3) := by kernel_rfl
theorem sl_sl_disk_sector : slB Tryd.prog 70 = some (75, 64) := by kernel_rfl
theorem sl_sl_disk_write : slB Tryd.prog 71 = some (77, 65) := by kernel_rfl
theorem sl_sl_func_api_Errno : slB Tryd.prog 69 = some (67, 1) := by kernel_rfl
theorem sl_sl_int : slB Tryd.prog 29 = some (3, 1) := by kernel_rfl
theorem sl_sl_journal_record : slB Tryd.prog 106 = some (124, 2) := by kernel_rfl
theorem sl_sl_keep_record : slB Tryd.prog 64 = some (85, 4) := by kernel_rfl
theorem sl_sl_pursuivantlaw14_Op : slB Tryd.prog 22 = some (61, 8) := by kernel_rfl
theorem sl_sl_sl_uint8 : slB Tryd.prog 79 = some (56, 1) := by kernel_rfl
theorem sl_sl_uint8 : slB Tryd.prog 56 = some (5, 1) := by kernel_rfl
theorem sz_disk_sector : szB Tryd.prog 75 = some 64 := by kernel_rfl
theorem sz_disk_write : szB Tryd.prog 77 = some 65 := by kernel_rfl
theorem sz_int : szB Tryd.prog 3 = some 1 := by kernel_rfl
theorem sz_keep_State : szB Tryd.prog 28 = some 5 := by kernel_rfl
theorem sz_keep_record : szB Tryd.prog 85 = some 4 := by kernel_rfl
theorem sz_sl_api_Entry : szB Tryd.prog 24 = some 1 := by kernel_rfl
theorem sz_sl_disk_write : szB Tryd.prog 71 = some 1 := by kernel_rfl
theorem sz_sl_journal_record : szB Tryd.prog 106 = some 1 := by kernel_rfl
theorem sz_sl_keep_record : szB Tryd.prog 64 = some 1 := by kernel_rfl
theorem sz_sl_uint8 : szB Tryd.prog 56 = some 1 := by kernel_rfl
theorem sz_uint64 : szB Tryd.prog 23 = some 1 := by kernel_rfl
theorem un_int : Tryd.prog.underlying 3 = some (.int .i64) := by kernel_rfl
theorem un_sl_uint8 : Tryd.prog.underlying 56 = some (.slice 5) := by kernel_rfl
theorem un_string : Tryd.prog.underlying 9 = some .string := by kernel_rfl
theorem un_uint8 : Tryd.prog.underlying 5 = some (.int .u8) := by kernel_rfl
theorem zl_keep_record : zL Tryd.prog 85 = some [.int .u64 0, .int .u64 0, .int .i64 0, .slice none 0 0] := by kernel_rfl
instance : ARc Tryd.prog 150 16 1 := ⟨ar_arr16_uint32⟩
instance : ARc Tryd.prog 75 64 1 := ⟨ar_disk_sector⟩
instance : FAc Tryd.prog 58 2 2 := ⟨by kernel_rfl⟩
instance : FAc Tryd.prog 58 1 1 := ⟨by kernel_rfl⟩
instance : FAc Tryd.prog 58 0 0 := ⟨by kernel_rfl⟩
instance : FAc Tryd.prog 73 4 4 := ⟨by kernel_rfl⟩
instance : FAc Tryd.prog 73 3 3 := ⟨by kernel_rfl⟩
instance : FAc Tryd.prog 73 2 2 := ⟨by kernel_rfl⟩
instance : FAc Tryd.prog 73 0 0 := ⟨by kernel_rfl⟩
instance : FAc Tryd.prog 73 1 1 := ⟨by kernel_rfl⟩
instance : FAc Tryd.prog 77 1 1 := ⟨by kernel_rfl⟩
instance : FAc Tryd.prog 77 0 0 := ⟨by kernel_rfl⟩
instance : FAc Tryd.prog 108 1 1 := ⟨by kernel_rfl⟩
instance : FAc Tryd.prog 108 0 0 := ⟨by kernel_rfl⟩
instance : FAc Tryd.prog 108 4 4 := ⟨by kernel_rfl⟩
instance : FAc Tryd.prog 108 3 3 := ⟨by kernel_rfl⟩
instance : FAc Tryd.prog 108 6 6 := ⟨by kernel_rfl⟩
instance : FAc Tryd.prog 108 5 5 := ⟨by kernel_rfl⟩
instance : FAc Tryd.prog 108 2 2 := ⟨by kernel_rfl⟩
instance : FAc Tryd.prog 124 1 1 := ⟨by kernel_rfl⟩
instance : FAc Tryd.prog 124 0 0 := ⟨by kernel_rfl⟩
instance : FAc Tryd.prog 66 2 2 := ⟨by kernel_rfl⟩
instance : FAc Tryd.prog 66 5 5 := ⟨by kernel_rfl⟩
instance : FAc Tryd.prog 66 0 0 := ⟨by kernel_rfl⟩
instance : FAc Tryd.prog 66 6 6 := ⟨by kernel_rfl⟩
instance : FAc Tryd.prog 66 1 1 := ⟨by kernel_rfl⟩
instance : FAc Tryd.prog 66 3 3 := ⟨by kernel_rfl⟩
instance : FAc Tryd.prog 66 4 4 := ⟨by kernel_rfl⟩
instance : FAc Tryd.prog 28 2 2 := ⟨by kernel_rfl⟩
instance : FAc Tryd.prog 28 0 0 := ⟨by kernel_rfl⟩
instance : FAc Tryd.prog 28 1 1 := ⟨by kernel_rfl⟩
instance : FAc Tryd.prog 85 0 0 := ⟨by kernel_rfl⟩
instance : FAc Tryd.prog 85 1 1 := ⟨by kernel_rfl⟩
instance : FAc Tryd.prog 140 0 0 := ⟨by kernel_rfl⟩
instance : FAc Tryd.prog 140 1 1 := ⟨by kernel_rfl⟩
instance : FAc Tryd.prog 121 0 0 := ⟨by kernel_rfl⟩
instance : FAc Tryd.prog 61 0 0 := ⟨by kernel_rfl⟩
instance : FAc Tryd.prog 61 3 7 := ⟨by kernel_rfl⟩
instance : FAc Tryd.prog 61 2 2 := ⟨by kernel_rfl⟩
instance : FAc Tryd.prog 40 0 0 := ⟨by kernel_rfl⟩
instance : FAc Tryd.prog 40 1 1 := ⟨by kernel_rfl⟩
instance : FAc Tryd.prog 40 2 2 := ⟨by kernel_rfl⟩
instance : FAc Tryd.prog 42 2 2 := ⟨by kernel_rfl⟩
instance : FAc Tryd.prog 42 0 0 := ⟨by kernel_rfl⟩
instance : FAc Tryd.prog 42 1 1 := ⟨by kernel_rfl⟩
instance : FAc Tryd.prog 133 0 0 := ⟨by kernel_rfl⟩
instance : FAc Tryd.prog 133 2 2 := ⟨by kernel_rfl⟩
instance : FAc Tryd.prog 133 1 1 := ⟨by kernel_rfl⟩
instance : FAc Tryd.prog 26 0 0 := ⟨by kernel_rfl⟩
instance : FAc Tryd.prog 26 1 1 := ⟨by kernel_rfl⟩
instance : FAc Tryd.prog 26 2 2 := ⟨by kernel_rfl⟩
instance : INc Tryd.prog 3 .i64 := ⟨by kernel_rfl⟩
instance : INc Tryd.prog 105 .u32 := ⟨by kernel_rfl⟩
instance : INc Tryd.prog 23 .u64 := ⟨in_uint64⟩
instance : INc Tryd.prog 5 .u8 := ⟨in_uint8⟩
instance : LDc Tryd.prog 58 (some 3) := ⟨ld_api_Entry⟩
instance : LDc Tryd.prog 4 none := ⟨by kernel_rfl⟩
instance : LDc Tryd.prog 75 (some 64) := ⟨ld_disk_sector⟩
instance : LDc Tryd.prog 77 (some 65) := ⟨ld_disk_write⟩
instance : LDc Tryd.prog 3 none := ⟨ld_int⟩
instance : LDc Tryd.prog 124 (some 2) := ⟨ld_journal_record⟩
instance : LDc Tryd.prog 28 (some 5) := ⟨ld_keep_State⟩
instance : LDc Tryd.prog 85 (some 4) := ⟨ld_keep_record⟩
instance : LDc Tryd.prog 31 none := ⟨by kernel_rfl⟩
instance : LDc Tryd.prog 63 none := ⟨by kernel_rfl⟩
instance : LDc Tryd.prog 32 none := ⟨by kernel_rfl⟩
instance : LDc Tryd.prog 40 (some 3) := ⟨by kernel_rfl⟩
instance : LDc Tryd.prog 42 (some 5) := ⟨ld_pursuivantref14_State⟩
instance : LDc Tryd.prog 24 none := ⟨ld_sl_api_Entry⟩
instance : LDc Tryd.prog 70 none := ⟨by kernel_rfl⟩
instance : LDc Tryd.prog 71 none := ⟨by kernel_rfl⟩
instance : LDc Tryd.prog 29 none := ⟨ld_sl_int⟩
instance : LDc Tryd.prog 106 none := ⟨by kernel_rfl⟩
instance : LDc Tryd.prog 64 none := ⟨by kernel_rfl⟩
instance : LDc Tryd.prog 56 none := ⟨ld_sl_uint8⟩
instance : LDc Tryd.prog 133 (some 3) := ⟨ld_slot_record⟩
instance : LDc Tryd.prog 26 (some 3) := ⟨ld_terms_Log⟩
instance : LDc Tryd.prog 105 none := ⟨ld_uint32⟩
instance : LDc Tryd.prog 23 none := ⟨ld_uint64⟩
instance : LDc Tryd.prog 5 none := ⟨ld_uint8⟩
instance : MKc Tryd.prog 24 [.int .u64 0, .int .i64 0, .slice none 0 0] 40 := ⟨mk_sl_api_Entry⟩
instance : MKc Tryd.prog 70 (List.replicate 64 (.int .u8 0)) 64 := ⟨mk_sl_disk_sector⟩
instance : MKc Tryd.prog 71 ([.int .i64 0] ++ List.replicate 64 (.int .u8 0)) 72 := ⟨mk_sl_disk_write⟩
instance : MKc Tryd.prog 69 [.nilFunc] 8 := ⟨by kernel_rfl⟩
instance : MKc Tryd.prog 106 [.int .u32 0, .slice none 0 0] 32 := ⟨mk_sl_journal_record⟩
instance : MKc Tryd.prog 64 [.int .u64 0, .int .u64 0, .int .i64 0, .slice none 0 0] 48 := ⟨mk_sl_keep_record⟩
instance : MKc Tryd.prog 79 [.slice none 0 0] 24 := ⟨mk_sl_sl_uint8⟩
instance : MKc Tryd.prog 56 [.int .u8 0] 1 := ⟨mk_sl_uint8⟩
instance : PLc Tryd.prog 58 [.int .u64 0, .int .i64 0, .slice none 0 0] [(0, 1), (1, 1), (2, 1)] := ⟨pl_api_Entry⟩
instance : PLc Tryd.prog 73 [.slice none 0 0, .slice none 0 0, .slice none 0 0, .int .i64 0, .bool false] [(0, 1), (1, 1), (2, 1), (3, 1), (4, 1)] := ⟨pl_disk_Disk⟩
instance : PLc Tryd.prog 77 ([.int .i64 0] ++ List.replicate 64 (.int .u8 0)) [(0, 1), (1, 64)] := ⟨pl_disk_write⟩
instance : PLc Tryd.prog 108 [.pointer none, .int .i64 0, .int .i64 0, .int .u32 0, .int .u32 0, .int .u32 0, .slice none 0 0] [(0, 1), (1, 1), (2, 1), (3, 1), (4, 1), (5, 1), (6, 1)] := ⟨pl_journal_Journal⟩
instance : PLc Tryd.prog 124 [.int .u32 0, .slice none 0 0] [(0, 1), (1, 1)] := ⟨pl_journal_record⟩
instance : PLc Tryd.prog 66 [.pointer none, .pointer none, .int .i64 0, .int .i64 0, .slice none 0 0, .int .u64 0, .slice none 0 0] [(0, 1), (1, 1), (2, 1), (3, 1), (4, 1), (5, 1), (6, 1)] := ⟨pl_keep_Keeper⟩
instance : PLc Tryd.prog 28 [.int .u64 0, .int .i64 0, .int .u64 0, .int .u64 0, .slice none 0 0] [(0, 1), (1, 1), (2, 3)] := ⟨pl_keep_State⟩
instance : PLc Tryd.prog 85 [.int .u64 0, .int .u64 0, .int .i64 0, .slice none 0 0] [(0, 1), (1, 3)] := ⟨pl_keep_record⟩
instance : PLc Tryd.prog 140 [.slice none 0 0, .bool false] [(0, 1), (1, 1)] := ⟨pl_pack_Reader⟩
instance : PLc Tryd.prog 40 [.int .u64 0, .int .u64 0, .slice none 0 0] [(0, 1), (1, 1), (2, 1)] := ⟨pl_pursuivantref09_Log⟩
instance : PLc Tryd.prog 42 [.int .u64 0, .int .i64 0, .int .u64 0, .int .u64 0, .slice none 0 0] [(0, 1), (1, 1), (2, 3)] := ⟨pl_pursuivantref14_State⟩
instance : PLc Tryd.prog 133 [.int .i64 0, .int .u32 0, .slice none 0 0] [(0, 1), (1, 1), (2, 1)] := ⟨pl_slot_record⟩
instance : PLc Tryd.prog 26 [.int .u64 0, .int .u64 0, .slice none 0 0] [(0, 1), (1, 1), (2, 1)] := ⟨pl_terms_Log⟩
instance : SLc Tryd.prog 24 58 3 := ⟨sl_sl_api_Entry⟩
instance : SLc Tryd.prog 70 75 64 := ⟨sl_sl_disk_sector⟩
instance : SLc Tryd.prog 71 77 65 := ⟨sl_sl_disk_write⟩
instance : SLc Tryd.prog 69 67 1 := ⟨sl_sl_func_api_Errno⟩
instance : SLc Tryd.prog 29 3 1 := ⟨sl_sl_int⟩
instance : SLc Tryd.prog 106 124 2 := ⟨sl_sl_journal_record⟩
instance : SLc Tryd.prog 64 85 4 := ⟨sl_sl_keep_record⟩
instance : SLc Tryd.prog 22 61 8 := ⟨sl_sl_pursuivantlaw14_Op⟩
instance : SLc Tryd.prog 79 56 1 := ⟨sl_sl_sl_uint8⟩
instance : SLc Tryd.prog 56 5 1 := ⟨sl_sl_uint8⟩
instance : SZc Tryd.prog 58 3 := ⟨by kernel_rfl⟩
instance : SZc Tryd.prog 4 1 := ⟨by kernel_rfl⟩
instance : SZc Tryd.prog 75 64 := ⟨sz_disk_sector⟩
instance : SZc Tryd.prog 77 65 := ⟨sz_disk_write⟩
instance : SZc Tryd.prog 3 1 := ⟨sz_int⟩
instance : SZc Tryd.prog 124 2 := ⟨by kernel_rfl⟩
instance : SZc Tryd.prog 28 5 := ⟨sz_keep_State⟩
instance : SZc Tryd.prog 85 4 := ⟨sz_keep_record⟩
instance : SZc Tryd.prog 40 3 := ⟨by kernel_rfl⟩
instance : SZc Tryd.prog 42 5 := ⟨by kernel_rfl⟩
instance : SZc Tryd.prog 24 1 := ⟨sz_sl_api_Entry⟩
instance : SZc Tryd.prog 70 1 := ⟨by kernel_rfl⟩
instance : SZc Tryd.prog 71 1 := ⟨sz_sl_disk_write⟩
instance : SZc Tryd.prog 106 1 := ⟨sz_sl_journal_record⟩
instance : SZc Tryd.prog 64 1 := ⟨sz_sl_keep_record⟩
instance : SZc Tryd.prog 56 1 := ⟨sz_sl_uint8⟩
instance : SZc Tryd.prog 133 3 := ⟨by kernel_rfl⟩
instance : SZc Tryd.prog 26 3 := ⟨by kernel_rfl⟩
instance : SZc Tryd.prog 105 1 := ⟨by kernel_rfl⟩
instance : SZc Tryd.prog 23 1 := ⟨sz_uint64⟩
instance : UNc Tryd.prog 3 (.int .i64) := ⟨un_int⟩
instance : UNc Tryd.prog 31 (.pointer 73) := ⟨by kernel_rfl⟩
instance : UNc Tryd.prog 32 (.pointer 66) := ⟨by kernel_rfl⟩
instance : UNc Tryd.prog 24 (.slice 58) := ⟨by kernel_rfl⟩
instance : UNc Tryd.prog 70 (.slice 75) := ⟨by kernel_rfl⟩
instance : UNc Tryd.prog 71 (.slice 77) := ⟨by kernel_rfl⟩
instance : UNc Tryd.prog 69 (.slice 67) := ⟨by kernel_rfl⟩
instance : UNc Tryd.prog 29 (.slice 3) := ⟨by kernel_rfl⟩
instance : UNc Tryd.prog 106 (.slice 124) := ⟨by kernel_rfl⟩
instance : UNc Tryd.prog 64 (.slice 85) := ⟨by kernel_rfl⟩
instance : UNc Tryd.prog 22 (.slice 61) := ⟨by kernel_rfl⟩
instance : UNc Tryd.prog 79 (.slice 56) := ⟨by kernel_rfl⟩
instance : UNc Tryd.prog 56 (.slice 5) := ⟨un_sl_uint8⟩
instance : UNc Tryd.prog 9 .string := ⟨un_string⟩
instance : UNc Tryd.prog 5 (.int .u8) := ⟨un_uint8⟩
instance : ZLc Tryd.prog 58 [.int .u64 0, .int .i64 0, .slice none 0 0] := ⟨by kernel_rfl⟩
instance : ZLc Tryd.prog 77 ([.int .i64 0] ++ List.replicate 64 (.int .u8 0)) := ⟨by kernel_rfl⟩
instance : ZLc Tryd.prog 124 [.int .u32 0, .slice none 0 0] := ⟨by kernel_rfl⟩
instance : ZLc Tryd.prog 28 [.int .u64 0, .int .i64 0, .int .u64 0, .int .u64 0, .slice none 0 0] := ⟨by kernel_rfl⟩
instance : ZLc Tryd.prog 85 [.int .u64 0, .int .u64 0, .int .i64 0, .slice none 0 0] := ⟨zl_keep_record⟩
instance : ZLc Tryd.prog 121 [.slice none 0 0] := ⟨by kernel_rfl⟩
instance : ZLc Tryd.prog 40 [.int .u64 0, .int .u64 0, .slice none 0 0] := ⟨by kernel_rfl⟩
instance : ZLc Tryd.prog 42 [.int .u64 0, .int .i64 0, .int .u64 0, .int .u64 0, .slice none 0 0] := ⟨by kernel_rfl⟩
instance : ZLc Tryd.prog 133 [.int .i64 0, .int .u32 0, .slice none 0 0] := ⟨by kernel_rfl⟩
instance : ZLc Tryd.prog 26 [.int .u64 0, .int .u64 0, .slice none 0 0] := ⟨by kernel_rfl⟩
instance : FNc Tryd.prog 6 Tryd.f6 := ⟨Tryd.func6⟩
instance : FNc Tryd.prog 7 Tryd.f7 := ⟨Tryd.func7⟩
instance : FNc Tryd.prog 8 Tryd.f8 := ⟨Tryd.func8⟩
instance : FNc Tryd.prog 9 Tryd.f9 := ⟨Tryd.func9⟩
instance : FNc Tryd.prog 10 Tryd.f10 := ⟨Tryd.func10⟩
instance : FNc Tryd.prog 11 Tryd.f11 := ⟨Tryd.func11⟩
instance : FNc Tryd.prog 12 Tryd.f12 := ⟨Tryd.func12⟩
instance : FNc Tryd.prog 13 Tryd.f13 := ⟨Tryd.func13⟩
instance : FNc Tryd.prog 14 Tryd.f14 := ⟨Tryd.func14⟩
instance : FNc Tryd.prog 15 Tryd.f15 := ⟨Tryd.func15⟩
instance : FNc Tryd.prog 16 Tryd.f16 := ⟨Tryd.func16⟩
instance : FNc Tryd.prog 18 Tryd.f18 := ⟨Tryd.func18⟩
instance : FNc Tryd.prog 20 Tryd.f20 := ⟨Tryd.func20⟩
instance : FNc Tryd.prog 22 Tryd.f22 := ⟨Tryd.func22⟩
instance : FNc Tryd.prog 23 Tryd.f23 := ⟨Tryd.func23⟩
instance : FNc Tryd.prog 26 Tryd.f26 := ⟨Tryd.func26⟩
instance : FNc Tryd.prog 28 Tryd.f28 := ⟨Tryd.func28⟩
instance : FNc Tryd.prog 30 Tryd.f30 := ⟨Tryd.func30⟩
instance : FNc Tryd.prog 32 Tryd.f32 := ⟨Tryd.func32⟩
instance : FNc Tryd.prog 33 Tryd.f33 := ⟨Tryd.func33⟩
instance : FNc Tryd.prog 34 Tryd.f34 := ⟨Tryd.func34⟩
instance : FNc Tryd.prog 35 Tryd.f35 := ⟨Tryd.func35⟩
instance : FNc Tryd.prog 36 Tryd.f36 := ⟨Tryd.func36⟩
instance : FNc Tryd.prog 37 Tryd.f37 := ⟨Tryd.func37⟩
instance : FNc Tryd.prog 39 Tryd.f39 := ⟨Tryd.func39⟩
instance : FNc Tryd.prog 41 Tryd.f41 := ⟨Tryd.func41⟩
instance : FNc Tryd.prog 43 Tryd.f43 := ⟨Tryd.func43⟩
instance : FNc Tryd.prog 48 Tryd.f48 := ⟨Tryd.func48⟩
instance : FNc Tryd.prog 49 Tryd.f49 := ⟨Tryd.func49⟩
instance : FNc Tryd.prog 51 Tryd.f51 := ⟨Tryd.func51⟩
instance : FNc Tryd.prog 53 Tryd.f53 := ⟨Tryd.func53⟩
instance : FNc Tryd.prog 54 Tryd.f54 := ⟨Tryd.func54⟩
instance : FNc Tryd.prog 56 Tryd.f56 := ⟨Tryd.func56⟩
instance : FNc Tryd.prog 59 Tryd.f59 := ⟨Tryd.func59⟩
instance : FNc Tryd.prog 61 Tryd.f61 := ⟨Tryd.func61⟩
instance : FNc Tryd.prog 63 Tryd.f63 := ⟨Tryd.func63⟩
instance : FNc Tryd.prog 64 Tryd.f64 := ⟨Tryd.func64⟩
instance : FNc Tryd.prog 65 Tryd.f65 := ⟨Tryd.func65⟩
instance : FNc Tryd.prog 66 Tryd.f66 := ⟨Tryd.func66⟩
instance : FNc Tryd.prog 67 Tryd.f67 := ⟨Tryd.func67⟩
instance : FNc Tryd.prog 68 Tryd.f68 := ⟨Tryd.func68⟩
instance : FNc Tryd.prog 69 Tryd.f69 := ⟨Tryd.func69⟩
instance : FNc Tryd.prog 71 Tryd.f71 := ⟨Tryd.func71⟩
instance : FNc Tryd.prog 73 Tryd.f73 := ⟨Tryd.func73⟩
instance : FNc Tryd.prog 74 Tryd.f74 := ⟨Tryd.func74⟩
instance : FNc Tryd.prog 75 Tryd.f75 := ⟨Tryd.func75⟩
instance : FNc Tryd.prog 76 Tryd.f76 := ⟨Tryd.func76⟩
instance : FNc Tryd.prog 77 Tryd.f77 := ⟨Tryd.func77⟩
instance : FNc Tryd.prog 78 Tryd.f78 := ⟨Tryd.func78⟩
instance : FNc Tryd.prog 80 Tryd.f80 := ⟨Tryd.func80⟩
instance : FNc Tryd.prog 81 Tryd.f81 := ⟨Tryd.func81⟩
instance : FNc Tryd.prog 82 Tryd.f82 := ⟨Tryd.func82⟩
instance : FNc Tryd.prog 83 Tryd.f83 := ⟨Tryd.func83⟩
instance : FNc Tryd.prog 84 Tryd.f84 := ⟨Tryd.func84⟩
instance : FNc Tryd.prog 85 Tryd.f85 := ⟨Tryd.func85⟩
instance : FNc Tryd.prog 86 Tryd.f86 := ⟨Tryd.func86⟩
instance : FNc Tryd.prog 87 Tryd.f87 := ⟨Tryd.func87⟩
instance : FNc Tryd.prog 88 Tryd.f88 := ⟨Tryd.func88⟩
instance : FNc Tryd.prog 89 Tryd.f89 := ⟨Tryd.func89⟩
instance : FNc Tryd.prog 90 Tryd.f90 := ⟨Tryd.func90⟩
instance : FNc Tryd.prog 91 Tryd.f91 := ⟨Tryd.func91⟩
instance : FNc Tryd.prog 92 Tryd.f92 := ⟨Tryd.func92⟩
instance : FNc Tryd.prog 93 Tryd.f93 := ⟨Tryd.func93⟩
end Go.Sl
/- Walks: bytes, pack. -/
namespace Go.Sl
open Go Go.RowKit Go.Proofs
set_option linter.unusedSimpArgs false
set_option linter.unusedVariables false
attribute [local irreducible] faB szB ldB zB zL slB mkB arB plB intB cells objc star stars buf slv grp whole Sat WPC WPL WPA WPO WPQ Trip Q1 E1 S1 C1

theorem c_CloneB {p : Bool} {a : Option Addr} {n c : Nat} {xs : List By} (hs : Sok 1 a n c (xs.map u8)) (hn : n < 1000000) : Trip Tryd.prog 81 #[.slice a n c] [sl p a (xs.map u8)] fun r Δ => ∃ a' c', r = .slice a' n c' ∧ Δ = [buf 1 a' n c' (xs.map u8), sl p a (xs.map u8)] := by
  refine Trip.start 8 [.tmp 2] [(0, .slice a n c)] Tryd.func81 rfl Tryd.ntmps81 rfl ⟨rfl, trivial⟩ rfl ?_
  refine WPC.seqR ?_
  refine stp ?_
  refine WPL.nil ?_
  refine WPC.seq ?_
  refine WPC.seqR ?_
  iterate 2 refine stp ?_
  refine WPL.nil ?_
  refine WPC.cond rfl (fun h0 => ?_) (fun h0 => ?_)
  · simp only [Option.isNone_iff_eq_none] at h0
    have h1 := hs.none0 (by omega) h0
    subst h0 h1
    have h2 : xs = [] := by have := hs.len; simpa using this
    subst h2
    refine WPC.seqR ?_
    refine stp ?_
    refine WPL.nil ?_
    refine WPC.ret ?_
    refine thenQ_r ?_
    exact endR_r rfl (.tmp rfl .nil) (Imp.bufNil.trans Imp.pk) ⟨none, 0, rfl, rfl⟩
  · skip
    refine WPC.skip ?_
    refine thenQ_n ?_
    refine WPC.seqR ?_
    refine nwb [] fun b1 => ?_
    refine stp ?_
    refine WPL.imp (Imp.bufNew (sz := 1) (n := 0) (cs := []) rfl) ?_
    refine WPL.cons rfl (E1.wpo (e_append (n := 0) (cs := []) mk_sl_uint8 (by decide) rfl rfl (Pick1.here (c := buf 1 (some ⟨b1, 0, none⟩) 0 0 [])) (Rd.mem hs (hs.none0 (by omega)) (p := p) mm) (u8_one xs) (by omega) (by omega)) rfl ?_)
    rintro _ _ ⟨a', c', rfl, -, rfl⟩
    simp only [Nat.zero_add, List.nil_append]
    refine WPL.putS ?_
    refine stp ?_
    refine WPL.nil ?_
    refine WPC.ret ?_
    exact endR_r rfl (.tmp rfl .nil) Imp.pk ⟨a', c', rfl, rfl⟩

theorem c_WNumber {b o v k : Nat} {xs : List By} (hk : 1 ≤ k ∧ k ≤ 8) (hx : xs.length ≤ 1000) : Trip Tryd.prog 75 #[.pointer (some ⟨b, o, none⟩), .int .u64 (v : Int), .int .i64 (k : Int)] [wr b o xs] fun r Δ => r = .tuple #[] ∧ Δ = [wr b o (xs ++ le v k)] := by
  refine wr_open fun a c hs => ?_
  refine Trip.start 32 [] [(0, .pointer (some ⟨b, o, none⟩)), (1, .int .u64 (v : Int)), (2, .int .i64 (k : Int))] Tryd.func75 rfl Tryd.ntmps75 rfl ⟨rfl, rfl, rfl, trivial⟩ rfl ?_
  refine WPC.seq ?_
  refine WPC.seqR ?_
  iterate 3 refine stp ?_
  apply WPL.joinO (e' := [(0, _), (1, _), (2, _)]) 9 12 3 rfl
  · intro g0_2
    try simp only [decide_eq_true_eq, decide_eq_false_iff_not, beq_iff_eq, bne_iff_ne, beq_eq_false_iff_ne, bne_eq_false_iff_eq, Bool.not_eq_true', Bool.not_eq_false', Bool.not_eq_eq_eq_not, Bool.not_true, Bool.not_false, ne_eq, Decidable.not_not, Int.not_lt, Int.not_le, gt_iff_lt, ge_iff_le] at g0_2
    refine L_no rfl rfl rfl rfl ?_
    refine L_no rfl rfl rfl rfl ?_
    refine stp ?_
    first | exact WPL.jn rfl rfl sbb | exact WPL.jnI rfl rfl sbb Imp.pk
  · intro g0_2
    try simp only [decide_eq_true_eq, decide_eq_false_iff_not, beq_iff_eq, bne_iff_ne, beq_eq_false_iff_ne, bne_eq_false_iff_eq, Bool.not_eq_true', Bool.not_eq_false', Bool.not_eq_eq_eq_not, Bool.not_true, Bool.not_false, ne_eq, Decidable.not_not, Int.not_lt, Int.not_le, gt_iff_lt, ge_iff_le] at g0_2
    iterate 2 refine stpY rfl rfl ?_
    refine stp ?_
    first | exact WPL.jn rfl rfl sbb | exact WPL.jnI rfl rfl sbb Imp.pk
  refine WPL.nil ?_
  refine WPC.cond rfl (fun h0 => ?_) (fun h0 => ?_)
  · try simp only [decide_eq_true_eq, decide_eq_false_iff_not, beq_iff_eq, bne_iff_ne, beq_eq_false_iff_ne, bne_eq_false_iff_eq, Bool.not_eq_true', Bool.not_eq_false', Bool.not_eq_eq_eq_not, Bool.not_true, Bool.not_false, ne_eq, Decidable.not_not, Int.not_lt, Int.not_le, gt_iff_lt, ge_iff_le] at h0
    simp only [Bool.or_eq_true, decide_eq_true_eq] at h0
    omega
  · skip
    refine WPC.skip ?_
    refine thenQ_n ?_
    refine WPC.seqR ?_
    iterate 2 refine stp ?_
    refine WPL.nil ?_
    rw [show xs.map u8 = (xs ++ le v 0).map u8 by simp [le]]
    refine WPC.block ?_
    refine WPC.loopS (fun m e Γ => ∃ (i : Nat) (a2 : Option Addr) (c2 : Nat), m = k - i ∧ i ≤ k ∧ e = [(0, .pointer (some ⟨b, o, none⟩)), (1, .int .u64 (v : Int)), (13, .int .i64 (k : Int)), (14, .int .i64 (i : Int))] ∧ Γ = [cells true b o [.slice a2 (xs.length + i) c2], buf 1 a2 (xs.length + i) c2 ((xs ++ le v i).map u8)]) (k) ⟨0, a, c, rfl, by omega, rfl, rfl⟩ sbb Imp.pk ?_
    rintro m e Γ ⟨i, a2, c2, rfl, hi, rfl, rfl⟩
    refine WPC.seqR ?_
    refine stp ?_
    refine WPL.nil ?_
    refine WPC.seq ?_
    refine WPC.cond rfl (fun h1 => ?_) (fun h1 => ?_)
    · simp only [decide_eq_true_eq, Int.ofNat_lt] at h1
      have hi' : i < k := by omega
      refine WPC.skip ?_
      refine thenQ_n ?_
      refine WPC.seq ?_
      refine WPC.block ?_
      refine WPC.seqR ?_
      iterate 2 refine stp ?_
      refine WPL.nil ?_
      refine WPC.draw mixed ?_
      refine atP 0 rfl ?_
      refine atP 1 rfl ?_
      refine atP 2 rfl ?_
      refine atP 3 rfl ?_
      refine atL 4 rfl ?_
      refine atP 5 rfl ?_
      refine atP 6 rfl ?_
      refine WPA.takeP 7 rfl (q_mulN (a := 8) (b := i) rfl rfl (by omega)) (by kernel_rfl) (by kernel_rfl) (by kernel_rfl) rfl rfl (.cons (Ent.mem mm) (.nil _)) ?_
      refine WPA.putS ?_
      refine WPA.takeP 8 rfl (q_shrN (a := v) (b := 8 * i) rfl rfl (show 8 * i < 64 by omega)) (by kernel_rfl) (by kernel_rfl) (by kernel_rfl) rfl rfl (.cons (Ent.mem mm) (.nil _)) ?_
      refine WPA.putS ?_
      refine WPA.takeP 9 rfl (q_conv8 in_uint64 in_uint8 rfl) (by kernel_rfl) (by kernel_rfl) (by kernel_rfl) rfl rfl (.cons (Ent.mem mm) (.nil _)) ?_
      refine WPA.putS ?_
      refine WPA.oneE 10 [(4, [_])] (by kernel_rfl) rfl rfl (by repeat (first | exact .nil | refine .anc rfl ?_ | refine .keep mm ?_)) (E1.wpo (e_buildSlice (cs := [_]) mk_sl_uint8 (by decide) rfl rfl rfl) rfl ?_)
      rintro _ _ ⟨bE, rfl, rfl⟩
      refine ⟨(.cons (Ent.mem mm) (.nil _)), ?_⟩
      refine WPA.putS ?_
      refine WPA.oneE 11 [] (by kernel_rfl) rfl rfl (by repeat (first | exact .nil | refine .anc rfl ?_ | refine .keep mm ?_)) (E1.wpo (e_append (m := 1) (news := [by_ (v / 2 ^ (8 * i))].map u8) mk_sl_uint8 (by decide) rfl rfl pk1 (Rd.part (i := 0) (b := bE) (o := 0) (vs := [by_ (v / 2 ^ (8 * i))].map u8) mm rfl rfl rfl) (u8_one _) (by omega) (by omega)) rfl ?_)
      rintro _ _ ⟨a3, c3, rfl, -, rfl⟩
      refine ⟨(.nil _), ?_⟩
      refine WPA.putS ?_
      refine atP 12 rfl ?_
      refine atP 13 rfl ?_
      refine WPA.oneE 14 [] (by kernel_rfl) rfl rfl (by repeat (first | exact .nil | refine .anc rfl ?_ | refine .keep mm ?_)) (S1.wpo (s_store1z sz_sl_uint8 rfl rfl rfl rfl uu (by repeat constructor)) rfl ?_)
      refine ⟨(.nil _), ?_⟩
      refine WPA.putN ?_
      refine WPA.done (by kernel_rfl) ?_
      refine blockQ_n ?_
      refine thenQ_n ?_
      refine WPC.region ?_
      iterate 2 refine stp ?_
      refine WPL.nil ?_
      refine thenQ_n ?_
      exact ⟨rfl, _, _, _, by omega, ⟨i + 1, a3, c3, rfl, by omega, rfl, by rw [le_succ, ← List.append_assoc, List.map_append (l₁ := xs ++ le v i)]⟩, sbb, Imp.pk⟩
    · simp only [decide_eq_false_iff_not] at h1
      have hi' : i = k := by omega
      subst hi'
      refine WPC.exit ?_
      refine thenQ_e ?_
      refine thenQ_e ?_
      refine blockQ_here ?_
      exact endR_n rfl .nil ((Imp.pk).trans (wr_close a2 (xs.length + i) c2 (Γ := []))) ⟨rfl, rfl⟩

theorem c_WOut {b o : Nat} {xs : List By} (hx : xs.length ≤ 1000) : Trip Tryd.prog 76 #[.pointer (some ⟨b, o, none⟩)] [wr b o xs] fun r Δ => ∃ a c, r = .slice a xs.length c ∧ Sok 1 a xs.length c (xs.map u8) ∧ Δ = [sl false a (xs.map u8), wr b o xs] := by
  refine wr_open fun a c hs => ?_
  refine Trip.start 8 [.tmp 2] [(0, .pointer (some ⟨b, o, none⟩))] Tryd.func76 rfl Tryd.ntmps76 rfl ⟨rfl, trivial⟩ rfl ?_
  refine WPC.seqR ?_
  refine stp ?_
  refine WPL.nil ?_
  refine WPC.seqR ?_
  iterate 4 refine stp ?_
  refine WPL.imp (Imp.perm (.swap _ _ _)) ?_
  refine WPL.bufOpen fun sp hs hsp => ?_
  refine kall rfl (c_CloneB (p := true) hs (by omega)) ?_
  rintro _ _ ⟨a', c', rfl, rfl⟩
  refine WPL.bufRo fun hs' => ?_
  refine stp ?_
  refine WPL.nil ?_
  refine WPC.ret ?_
  exact endR_r rfl (.tmp rfl .nil) ((Imp.pk (Δ := [sl true a (xs.map u8), cells true (blk a) (off a + (xs.map u8).length) sp, cells true b o [.slice a xs.length c], sl false a' (xs.map u8)])).trans ((Imp.bufClose hs hsp).trans ((Imp.perm (.swap _ _ _)).trans ((wr_close a xs.length c).trans (Imp.perm (.swap _ _ _)))))) ⟨a', c', rfl, hs', rfl⟩

theorem c_Read {a : Option Addr} {n c : Nat} {xs : List By} (hs : Sok 1 a n c (xs.map u8)) : Trip Tryd.prog 68 #[.slice a n c] [sl false a (xs.map u8)] fun r Δ => ∃ b, r = .pointer (some ⟨b, 0, none⟩) ∧ Δ = [rd b 0 xs false] := by
  refine Trip.start 6 [.tmp 2] [(0, .slice a n c)] Tryd.func68 rfl Tryd.ntmps68 rfl ⟨rfl, trivial⟩ rfl ?_
  refine WPC.seqR ?_
  refine stp ?_
  refine WPL.nil ?_
  refine WPC.seqR ?_
  refine stp ?_
  refine L_s (q_build (cs := [_, _]) pl_pack_Reader rfl rfl) rfl ?_
  refine nw fun b1 => ?_
  refine stp ?_
  refine WPL.nil ?_
  refine WPC.ret ?_
  exact endR_r rfl (.tmp rfl .nil) ((Imp.pk).trans (rd_close (b := b1) (o := 0) (sh := false) a n c hs (Γ := []))) ⟨b1, rfl, rfl⟩

theorem c_take {b o k : Nat} {xs : List By} {sh : Bool} (hk : k < 1000000) (hx : xs.length < 1000000) : Trip Tryd.prog 88 #[.pointer (some ⟨b, o, none⟩), .int .i64 (k : Int)] [rd b o xs sh] fun r Δ => ∃ a c, r = .slice a (rtake xs sh k).1.length c ∧ Sok 1 a (rtake xs sh k).1.length c ((rtake xs sh k).1.map u8) ∧ Δ = [rd b o (rtake xs sh k).2.1 (rtake xs sh k).2.2, sl false a ((rtake xs sh k).1.map u8)] := by
  refine rd_open fun a c hs => ?_
  have hcap := hs.cap
  refine Trip.start 45 [.tmp 4] [(0, .pointer (some ⟨b, o, none⟩)), (1, .int .i64 (k : Int))] Tryd.func88 rfl Tryd.ntmps88 rfl ⟨rfl, rfl, trivial⟩ rfl ?_
  refine WPC.seqR ?_
  refine stp ?_
  refine WPL.nil ?_
  refine WPC.seqR ?_
  iterate 6 refine stp ?_
  apply WPL.joinO (e' := [(0, _), (1, _), (4, _), (6, _)]) 11 19 8 rfl
  · intro g1_5
    try simp only [decide_eq_true_eq, decide_eq_false_iff_not, beq_iff_eq, bne_iff_ne, beq_eq_false_iff_ne, bne_eq_false_iff_eq, Bool.not_eq_true', Bool.not_eq_false', Bool.not_eq_eq_eq_not, Bool.not_true, Bool.not_false, ne_eq, Decidable.not_not, Int.not_lt, Int.not_le, gt_iff_lt, ge_iff_le] at g1_5
    refine L_no rfl rfl rfl rfl ?_
    refine L_no rfl rfl rfl rfl ?_
    refine L_no rfl rfl rfl rfl ?_
    refine L_no rfl rfl rfl rfl ?_
    refine L_no rfl rfl rfl rfl ?_
    refine L_no rfl rfl rfl rfl ?_
    refine L_no rfl rfl rfl rfl ?_
    refine stp ?_
    first | exact WPL.jn rfl rfl sbb | exact WPL.jnI rfl rfl sbb Imp.pk
  · intro g1_5
    try simp only [decide_eq_true_eq, decide_eq_false_iff_not, beq_iff_eq, bne_iff_ne, beq_eq_false_iff_ne, bne_eq_false_iff_eq, Bool.not_eq_true', Bool.not_eq_false', Bool.not_eq_eq_eq_not, Bool.not_true, Bool.not_false, ne_eq, Decidable.not_not, Int.not_lt, Int.not_le, gt_iff_lt, ge_iff_le] at g1_5
    iterate 7 refine stpY rfl rfl ?_
    refine stp ?_
    first | exact WPL.jn rfl rfl sbb | exact WPL.jnI rfl rfl sbb Imp.pk
  iterate 2 refine stp ?_
  refine sto ?_
  refine WPL.nil ?_
  refine WPC.seq ?_
  refine WPC.seqR ?_
  iterate 4 refine stp ?_
  refine WPL.nil ?_
  refine WPC.cond rfl (fun h0 => ?_) (fun h0 => ?_)
  · rw [h0]
    have e1 : rtake xs sh k = ([], [], true) := by unfold rtake; rw [if_pos (by simpa using h0)]
    rw [e1]
    refine WPC.seqR ?_
    iterate 3 refine stp ?_
    refine sto ?_
    refine WPL.nil ?_
    refine WPC.seqR ?_
    refine stp ?_
    refine WPL.nil ?_
    refine WPC.ret ?_
    refine thenQ_r ?_
    exact endR_r rfl (.tmp rfl .nil) ((Imp.slEmpty (p := false) (a := none)).trans ((Imp.slEmpty (p := false) (a := none)).trans ((Imp.pk).trans (rd_close (xs := []) (b := b) (o := o) (sh := true) none 0 0 ⟨rfl, Nat.le_refl _, .inl rfl⟩ (Γ := [sl false none []]))))) ⟨none, 0, rfl, ⟨rfl, Nat.le_refl _, .inl rfl⟩, rfl⟩
  · rw [h0]
    have e1 : rtake xs sh k = (xs.take k, xs.drop k, false) := by unfold rtake; rw [if_neg (by simp at h0 ⊢; exact h0)]
    have e2 : sh = false ∧ k ≤ xs.length := by simp at h0; exact ⟨h0.1, by omega⟩
    obtain ⟨rfl, hkl⟩ := e2
    rw [e1]
    refine WPC.skip ?_
    refine thenQ_n ?_
    refine WPC.seqR ?_
    iterate 5 refine stp ?_
    refine L_s (q_sliceHi sl_sl_uint8 rfl rfl (by omega)) rfl ?_
    refine stp ?_
    refine WPL.nil ?_
    refine WPC.seqR ?_
    iterate 6 refine stp ?_
    refine L_s (q_sliceLoC sl_sl_uint8 rfl rfl (by omega) (by omega)) rfl ?_
    iterate 2 refine stp ?_
    refine sto ?_
    refine WPL.nil ?_
    refine WPC.prune [(4, _), (5, _)] sbb ?_
    refine WPC.seqR ?_
    iterate 2 refine stp ?_
    refine WPL.nil ?_
    refine WPC.ret ?_
    have s1 := hs.cutB (l := 0) (k := k) (m := c) (by omega) hkl (by omega)
    have s2 := hs.cutB (l := k) (k := xs.length) (m := c) hkl (by omega) (by omega)
    simp only [List.drop_zero, Nat.sub_zero, Nat.zero_mul, cut_zero] at s1
    rw [List.take_of_length_le (i := xs.length - k) (by simp)] at s2
    have i1 := Imp.cutRo hs (l := 0) (k := k) (m := c) (Γ := [cells true b o [.slice (cut a c k (k * 1)) (xs.length - k) (c - k), .bool false]]) (by omega) hkl (by omega)
    simp only [List.drop_zero, Nat.sub_zero, Nat.zero_mul, cut_zero] at i1
    have i2 := Imp.cutRo hs (l := k) (k := xs.length) (m := c) (Γ := [cells true b o [.slice (cut a c k (k * 1)) (xs.length - k) (c - k), .bool false], sl false a ((xs.take k).map u8)]) hkl (by omega) (by omega)
    rw [List.take_of_length_le (i := xs.length - k) (by simp)] at i2
    exact endR_r rfl (.tmp rfl .nil) ((Imp.pk).trans (i1.trans ((Imp.pk).trans (i2.trans ((Imp.pk).trans (rd_close (xs := xs.drop k) (b := b) (o := o) (sh := false) (cut a c k (k * 1)) (xs.length - k) (c - k) s2 (Γ := [sl false a ((xs.take k).map u8)]))))))) ⟨a, c, by simp only [packV]; rw [show (xs.take k).length = k by simp; omega], by rw [show (xs.take k).length = k by simp; omega]; exact s1, rfl⟩

end Go.Sl
/- Walks: readers, sums. -/
namespace Go.Sl
open Go Go.RowKit Go.Proofs
set_option linter.unusedSimpArgs false
set_option linter.unusedVariables false
attribute [local irreducible] faB szB ldB zB zL slB mkB arB plB intB cells objc star stars buf slv grp whole Sat WPC WPL WPA WPO WPQ Trip Q1 E1 S1 C1

theorem c_RNumber {b o k : Nat} {xs : List By} {sh : Bool} (hk : 1 ≤ k ∧ k ≤ 8) (hx : xs.length < 1000000) : Trip Tryd.prog 69 #[.pointer (some ⟨b, o, none⟩), .int .i64 (k : Int)] [rd b o xs sh] fun r Δ => r = .int .u64 ((ofLE (rtake xs sh k).1 : Nat) : Int) ∧ Δ = [rd b o (rtake xs sh k).2.1 (rtake xs sh k).2.2] := by
  refine Trip.start 38 [.tmp 4] [(0, .pointer (some ⟨b, o, none⟩)), (1, .int .i64 (k : Int))] Tryd.func69 rfl Tryd.ntmps69 rfl ⟨rfl, rfl, trivial⟩ rfl ?_
  refine WPC.seqR ?_
  refine stp ?_
  refine WPL.nil ?_
  refine WPC.seq ?_
  refine WPC.seqR ?_
  iterate 3 refine stp ?_
  apply WPL.joinO (e' := [(0, _), (1, _), (4, _)]) 10 13 3 rfl
  · intro g1_2
    try simp only [decide_eq_true_eq, decide_eq_false_iff_not, beq_iff_eq, bne_iff_ne, beq_eq_false_iff_ne, bne_eq_false_iff_eq, Bool.not_eq_true', Bool.not_eq_false', Bool.not_eq_eq_eq_not, Bool.not_true, Bool.not_false, ne_eq, Decidable.not_not, Int.not_lt, Int.not_le, gt_iff_lt, ge_iff_le] at g1_2
    refine L_no rfl rfl rfl rfl ?_
    refine L_no rfl rfl rfl rfl ?_
    refine stp ?_
    first | exact WPL.jn rfl rfl sbb | exact WPL.jnI rfl rfl sbb Imp.pk
  · intro g1_2
    try simp only [decide_eq_true_eq, decide_eq_false_iff_not, beq_iff_eq, bne_iff_ne, beq_eq_false_iff_ne, bne_eq_false_iff_eq, Bool.not_eq_true', Bool.not_eq_false', Bool.not_eq_eq_eq_not, Bool.not_true, Bool.not_false, ne_eq, Decidable.not_not, Int.not_lt, Int.not_le, gt_iff_lt, ge_iff_le] at g1_2
    iterate 2 refine stpY rfl rfl ?_
    refine stp ?_
    first | exact WPL.jn rfl rfl sbb | exact WPL.jnI rfl rfl sbb Imp.pk
  refine WPL.nil ?_
  refine WPC.cond rfl (fun h0 => ?_) (fun h0 => ?_)
  · try simp only [decide_eq_true_eq, decide_eq_false_iff_not, beq_iff_eq, bne_iff_ne, beq_eq_false_iff_ne, bne_eq_false_iff_eq, Bool.not_eq_true', Bool.not_eq_false', Bool.not_eq_eq_eq_not, Bool.not_true, Bool.not_false, ne_eq, Decidable.not_not, Int.not_lt, Int.not_le, gt_iff_lt, ge_iff_le] at h0
    simp only [Bool.or_eq_true, decide_eq_true_eq] at h0
    omega
  · skip
    refine WPC.skip ?_
    refine thenQ_n ?_
    refine WPC.seqR ?_
    refine stp ?_
    refine WPL.nil ?_
    refine WPC.seq ?_
    refine WPC.seqR ?_
    iterate 2 refine stp ?_
    refine kall rfl (c_take (by omega) hx) ?_
    rintro _ _ ⟨a, c, rfl, hs, rfl⟩
    have hl8 := rtake_len xs sh k
    have hn : (rtake xs sh k).1.length < 1000000 := by omega
    iterate 2 refine stp ?_
    refine WPL.nil ?_
    refine WPC.block ?_
    refine WPC.loopS (fun m e Γ => ∃ i : Nat, m = (rtake xs sh k).1.length - i ∧ i ≤ (rtake xs sh k).1.length ∧ e = [(5, .int .u64 ((ofLE ((rtake xs sh k).1.take i) : Nat) : Int)), (22, .slice a (rtake xs sh k).1.length c), (23, .int .i64 ((rtake xs sh k).1.length : Int)), (24, .int .i64 (i : Int))] ∧ Γ = [rd b o (rtake xs sh k).2.1 (rtake xs sh k).2.2, sl false a ((rtake xs sh k).1.map u8)]) ((rtake xs sh k).1.length) ⟨0, rfl, by omega, rfl, rfl⟩ sbb Imp.pk ?_
    rintro m e Γ ⟨i, rfl, hi, rfl, rfl⟩
    refine WPC.seqR ?_
    refine stp ?_
    refine WPL.nil ?_
    refine WPC.seq ?_
    refine WPC.cond rfl (fun h1 => ?_) (fun h1 => ?_)
    · simp only [decide_eq_true_eq, Int.ofNat_lt] at h1
      have hp : Pl a := hs.at (by omega) (by omega)
      obtain ⟨x, hx⟩ : ∃ x, (rtake xs sh k).1[i]? = some x := ⟨(rtake xs sh k).1[i]'h1, by simp⟩
      have hx2 := x.2
      have hpow := pow_bound (i := i) (by omega)
      have hA := ofLE_lt ((rtake xs sh k).1.take i)
      rw [List.length_take, Nat.min_eq_left hi] at hA
      have hB := Nat.mul_le_mul (show x.val ≤ 255 by omega) hpow
      have hor := or_add (b := x.val) hA
      rw [← ofLE_take_succ hx] at hor
      refine WPC.skip ?_
      refine thenQ_n ?_
      refine WPC.seq ?_
      refine WPC.block ?_
      refine WPC.seqR ?_
      iterate 2 refine stp ?_
      refine L_s (q_ldMap ld_uint8 rfl mm hx) rfl ?_
      iterate 2 refine stp ?_
      refine WPL.nil ?_
      refine WPC.region ?_
      iterate 4 refine stp ?_
      refine L_s (q_mulN (a := 8) (b := i) rfl rfl (by omega)) rfl ?_
      refine L_s (q_shlN (a := x.val) (b := 8 * i) rfl rfl rfl (show 8 * i < 64 by omega) (show _ < 18446744073709551616 by omega)) rfl ?_
      refine L_s (q_orN (a := ofLE ((rtake xs sh k).1.take i)) (b := x.val * 2 ^ (8 * i)) rfl rfl rfl (show _ < 18446744073709551616 by omega) (show _ < 18446744073709551616 by omega)) rfl ?_
      rw [hor]
      refine stp ?_
      refine WPL.nil ?_
      refine blockQ_n ?_
      refine thenQ_n ?_
      refine WPC.region ?_
      iterate 2 refine stp ?_
      refine WPL.nil ?_
      refine thenQ_n ?_
      exact ⟨rfl, _, _, _, by omega, ⟨i + 1, rfl, by omega, rfl, rfl⟩, sbb, Imp.pk⟩
    · simp only [decide_eq_false_iff_not, Int.ofNat_lt] at h1
      refine WPC.exit ?_
      refine thenQ_e ?_
      refine thenQ_e ?_
      refine blockQ_here ?_
      refine thenQ_n ?_
      refine WPC.seqR ?_
      iterate 2 refine stp ?_
      refine WPL.nil ?_
      refine WPC.ret ?_
      exact endR_r rfl (.tmp rfl .nil) Imp.pk ⟨by simp only [packV]; rw [List.take_of_length_le (by omega)], rfl⟩

theorem c_REnd {b o : Nat} {xs : List By} {sh : Bool} : Trip Tryd.prog 70 #[.pointer (some ⟨b, o, none⟩)] [rd b o xs sh] fun r Δ => ∃ v : Int, r = .int .i64 v ∧ (v = 0 ↔ sh = false ∧ xs = []) ∧ Δ = [rd b o xs sh] := by
  refine rd_open fun a c hs => ?_
  refine Trip.start 15 [.tmp 2] [(0, .pointer (some ⟨b, o, none⟩))] Tryd.func70 rfl Tryd.ntmps70 rfl ⟨rfl, trivial⟩ rfl ?_
  refine WPC.seqR ?_
  refine stp ?_
  refine WPL.nil ?_
  refine WPC.seq ?_
  refine WPC.block ?_
  refine WPC.seqR ?_
  iterate 5 refine stp ?_
  refine WPL.nil ?_
  refine WPC.cond rfl (fun h0 => ?_) (fun h0 => ?_)
  · subst h0
    refine WPC.seqR ?_
    refine stp ?_
    refine WPL.nil ?_
    refine WPC.ret ?_
    refine blockQ_r ?_
    refine thenQ_r ?_
    exact endR_r rfl (.tmp rfl .nil) ((Imp.pk).trans (rd_close a xs.length c hs (Γ := []))) ⟨10, rfl, by simp, rfl⟩
  · subst h0
    refine WPC.seqR ?_
    iterate 7 refine stp ?_
    refine WPL.nil ?_
    refine WPC.cond rfl (fun h1 => ?_) (fun h1 => ?_)
    · simp at h1
      refine WPC.seqR ?_
      refine stp ?_
      refine WPL.nil ?_
      refine WPC.ret ?_
      refine blockQ_r ?_
      refine thenQ_r ?_
      exact endR_r rfl (.tmp rfl .nil) ((Imp.pk).trans (rd_close a xs.length c hs (Γ := []))) ⟨11, rfl, by simp; intro h; simp [h] at h1, rfl⟩
    · have h1 : xs = [] := List.eq_nil_of_length_eq_zero (by simp at h1; simpa using h1)
      subst h1
      refine WPC.skip ?_
      refine blockQ_n ?_
      refine thenQ_n ?_
      refine WPC.seqR ?_
      refine stp ?_
      refine WPL.nil ?_
      refine WPC.ret ?_
      exact endR_r rfl (.tmp rfl .nil) ((Imp.pk).trans (rd_close a _ c hs (Γ := []))) ⟨0, rfl, by simp, rfl⟩

theorem c_Sum {p : Bool} {a : Option Addr} {n c : Nat} {xs : List By} (hs : Sok 1 a n c (xs.map u8)) (hn : n < 1000000) : Trip Tryd.prog 91 #[.slice a n c] [sl p a (xs.map u8), tblA] fun r Δ => r = .int .u32 ((crc xs : Nat) : Int) ∧ Δ = [sl p a (xs.map u8)] := by
  have hl : xs.length = n := by have := hs.len; simpa using this
  refine Trip.start 33 [.tmp 2] [(0, .slice a n c)] Tryd.func91 rfl Tryd.ntmps91 rfl ⟨rfl, trivial⟩ rfl ?_
  refine WPC.seqR ?_
  refine stp ?_
  refine WPL.nil ?_
  refine WPC.seqR ?_
  refine stp ?_
  refine WPL.nil ?_
  refine WPC.seq ?_
  refine WPC.seqR ?_
  iterate 3 refine stp ?_
  refine WPL.nil ?_
  refine WPC.block ?_
  refine WPC.loopS (fun m e Γ => ∃ k : Nat, m = n - k ∧ k ≤ n ∧ e = [(3, .int .u32 ((((xs.take k).foldl crcStep 4294967295) : Nat) : Int)), (6, .slice a n c), (7, .int .i64 (n : Int)), (8, .int .i64 (k : Int))] ∧ Γ = [sl p a (xs.map u8), tblA]) (n) ⟨0, rfl, by omega, rfl, rfl⟩ sbb Imp.pk ?_
  rintro m e Γ ⟨k, rfl, hk, rfl, rfl⟩
  refine WPC.seqR ?_
  refine stp ?_
  refine WPL.nil ?_
  refine WPC.seq ?_
  refine WPC.cond rfl (fun h0 => ?_) (fun h0 => ?_)
  · simp only [decide_eq_true_eq, Int.ofNat_lt] at h0
    have hp : Pl a := hs.at (by omega) (by omega)
    obtain ⟨x, hx⟩ : ∃ x, xs[k]? = some x := ⟨xs[k]'(by omega), by simp⟩
    have hx2 : x.val < 4294967296 := by omega
    have hS : ((xs.take k).foldl crcStep 4294967295) < 4294967296 := fold_lt _ (by omega)
    have hS1 := xor32 hS hx2
    obtain ⟨e1, he1, hb1, hc1⟩ := tbl_get (((xs.take k).foldl crcStep 4294967295) ^^^ x.val)
    have hS2 := cstep_lt hS1
    obtain ⟨e2, he2, hb2, hc2⟩ := tbl_get (cstep (((xs.take k).foldl crcStep 4294967295) ^^^ x.val))
    have hS3 := cstep_lt hS2
    have hd1 : (((xs.take k).foldl crcStep 4294967295) ^^^ x.val) / 2 ^ 4 < 4294967296 := by omega
    have hd2 : cstep (((xs.take k).foldl crcStep 4294967295) ^^^ x.val) / 2 ^ 4 < 4294967296 := by omega
    have hstep := fold_take_succ hx 4294967295
    refine WPC.skip ?_
    refine thenQ_n ?_
    refine WPC.seq ?_
    refine WPC.block ?_
    refine WPC.seqR ?_
    refine stp ?_
    refine L_s (q_ldMap ld_uint8 rfl mm hx) rfl ?_
    refine stp ?_
    refine WPL.nil ?_
    refine WPC.seqR ?_
    iterate 3 refine stp ?_
    refine L_s (q_xorN (a := ((xs.take k).foldl crcStep 4294967295)) (b := x.val) rfl rfl rfl (show _ < 4294967296 from hS) (show _ < 4294967296 from hx2)) rfl ?_
    refine stp ?_
    refine WPL.nil ?_
    refine WPC.seqR ?_
    refine stp ?_
    refine L_s (q_shrN (a := ((xs.take k).foldl crcStep 4294967295) ^^^ x.val) (b := 4) rfl rfl (show 4 < 32 by omega)) rfl ?_
    refine stp ?_
    refine L_s (q_andN (a := ((xs.take k).foldl crcStep 4294967295) ^^^ x.val) (b := 15) rfl rfl rfl (show _ < 4294967296 from hS1) (show 15 < 4294967296 by omega)) rfl ?_
    refine L_s (q_idxAN (i := (((xs.take k).foldl crcStep 4294967295) ^^^ x.val) &&& 15) ar_arr16_uint32 rfl rfl (and15 _)) rfl ?_
    refine L_s (q_ldMap ld_uint32 rfl mm he1) rfl ?_
    refine L_s (q_xorN (a := (((xs.take k).foldl crcStep 4294967295) ^^^ x.val) / 2 ^ 4) (b := e1) rfl rfl rfl (show _ < 4294967296 from hd1) (show _ < 4294967296 from hb1)) rfl ?_
    rw [← hc1]
    refine stp ?_
    refine WPL.nil ?_
    refine WPC.region ?_
    refine stp ?_
    refine L_s (q_shrN (a := cstep (((xs.take k).foldl crcStep 4294967295) ^^^ x.val)) (b := 4) rfl rfl (show 4 < 32 by omega)) rfl ?_
    refine stp ?_
    refine L_s (q_andN (a := cstep (((xs.take k).foldl crcStep 4294967295) ^^^ x.val)) (b := 15) rfl rfl rfl (show _ < 4294967296 from hS2) (show 15 < 4294967296 by omega)) rfl ?_
    refine L_s (q_idxAN (i := cstep (((xs.take k).foldl crcStep 4294967295) ^^^ x.val) &&& 15) ar_arr16_uint32 rfl rfl (and15 _)) rfl ?_
    refine L_s (q_ldMap ld_uint32 rfl mm he2) rfl ?_
    refine L_s (q_xorN (a := cstep (((xs.take k).foldl crcStep 4294967295) ^^^ x.val) / 2 ^ 4) (b := e2) rfl rfl rfl (show _ < 4294967296 from hd2) (show _ < 4294967296 from hb2)) rfl ?_
    rw [← hc2, show cstep (cstep (((xs.take k).foldl crcStep 4294967295) ^^^ x.val)) = (xs.take (k + 1)).foldl crcStep 4294967295 from hstep.symm]
    refine stp ?_
    refine WPL.nil ?_
    refine blockQ_n ?_
    refine thenQ_n ?_
    refine WPC.region ?_
    iterate 2 refine stp ?_
    refine WPL.nil ?_
    refine thenQ_n ?_
    exact ⟨rfl, _, _, _, by omega, ⟨k + 1, rfl, by omega, rfl, rfl⟩, sbb, Imp.pk⟩
  · simp only [decide_eq_false_iff_not, Int.ofNat_lt] at h0
    have hk' : xs.length ≤ k := by omega
    refine WPC.exit ?_
    refine thenQ_e ?_
    refine thenQ_e ?_
    refine blockQ_here ?_
    refine thenQ_n ?_
    refine WPC.seqR ?_
    refine stp ?_
    refine L_s (q_comN (a := ((xs.take k).foldl crcStep 4294967295)) rfl rfl (show _ < 4294967296 from fold_lt _ (by omega))) rfl ?_
    refine stp ?_
    refine WPL.nil ?_
    refine WPC.ret ?_
    rw [List.take_of_length_le hk']
    exact endR_r rfl (.tmp rfl .nil) Imp.pk ⟨rfl, rfl⟩

theorem c_Grow {m : Nat} (hm : m < 1000000) : Trip Tryd.prog 93 #[.slice none 0 0, .int .i64 (m : Int)] [] fun r Δ => ∃ a c, r = .slice a 0 c ∧ Δ = [buf 1 a 0 c []] := by
  refine Trip.start 27 [.tmp 4] [(0, .slice none 0 0), (1, .int .i64 (m : Int))] Tryd.func93 rfl Tryd.ntmps93 rfl ⟨rfl, rfl, trivial⟩ rfl ?_
  refine WPC.seqR ?_
  refine stp ?_
  refine WPL.nil ?_
  refine WPC.seq ?_
  refine WPC.seqR ?_
  iterate 2 refine stp ?_
  refine WPL.nil ?_
  refine WPC.cond rfl (fun h0 => ?_) (fun h0 => ?_)
  · try simp only [decide_eq_true_eq, decide_eq_false_iff_not, beq_iff_eq, bne_iff_ne, beq_eq_false_iff_ne, bne_eq_false_iff_eq, Bool.not_eq_true', Bool.not_eq_false', Bool.not_eq_eq_eq_not, Bool.not_true, Bool.not_false, ne_eq, Decidable.not_not, Int.not_lt, Int.not_le, gt_iff_lt, ge_iff_le] at h0
    omega
  · skip
    refine WPC.skip ?_
    refine thenQ_n ?_
    refine WPC.seq ?_
    refine WPC.seqR ?_
    iterate 2 refine stp ?_
    refine L_s (q_cap rfl un_sl_uint8 rfl) rfl ?_
    iterate 4 refine stp ?_
    rw [show (m : Int) - (((0 : Nat) : Int) - ((0 : Nat) : Int)) = (m : Int) by simp]
    refine stp ?_
    refine WPL.nil ?_
    refine WPC.seqR ?_
    iterate 2 refine stp ?_
    refine WPL.nil ?_
    refine WPC.midS (fun e Γ => ∃ a c, e = [(0, .slice a 0 c)] ∧ Γ = [buf 1 a 0 c []]) ?_ ?_
    · refine WPC.cond rfl (fun h1 => ?_) (fun h1 => ?_)
      · simp only [decide_eq_true_eq] at h1
        refine WPC.region ?_
        iterate 2 refine stp ?_
        refine L_s (q_cap rfl un_sl_uint8 rfl) rfl ?_
        refine L_s (q_sliceHi (j := 0) sl_sl_uint8 rfl rfl (by omega)) rfl ?_
        refine stp ?_
        refine WPL.cons rfl (E1.wpo (e_grow (m := m) mk_sl_uint8 (un_int) (by decide) rfl rfl (by omega) (by omega) (by omega)) rfl ?_)
        rintro _ _ ⟨bg, cg, rfl, hcg, rfl⟩
        refine WPL.putS ?_
        iterate 2 refine stp ?_
        refine L_s (q_sliceHi (j := 0) sl_sl_uint8 rfl rfl (by omega)) rfl ?_
        refine stp ?_
        refine WPL.nil ?_
        refine thenQ_n ?_
        exact ⟨rfl, _, _, ⟨_, _, rfl, rfl⟩, sbb, Imp.pk⟩
      · refine WPC.imp (Imp.bufNil (sz := 1)) ?_
        refine WPC.skip ?_
        refine thenQ_n ?_
        exact ⟨rfl, _, _, ⟨none, 0, rfl, rfl⟩, sbb, Imp.pk⟩
    · rintro e Γ ⟨a, c, rfl, rfl⟩
      refine WPC.seqR ?_
      iterate 2 refine stp ?_
      refine WPL.nil ?_
      refine WPC.ret ?_
      exact endR_r rfl (.tmp rfl .nil) Imp.pk ⟨a, c, rfl, rfl⟩

end Go.Sl
/- Walks: stamps. -/
namespace Go.Sl
open Go Go.RowKit Go.Proofs
set_option linter.unusedSimpArgs false
set_option linter.unusedVariables false
attribute [local irreducible] faB szB ldB zB zL slB mkB arB plB intB cells objc star stars buf slv grp whole Sat WPC WPL WPA WPO WPQ Trip Q1 E1 S1 C1

theorem c_Concat {p : Bool} {a : Option Addr} {n c : Nat} {xs : List BS} (hs : Sok 1 a n c (xs.map bsV)) (hok : ∀ x ∈ xs, x.ok) (hn : n < 1000000) (hb : (xs.flatMap BS.bs).length < 1000000) : Trip Tryd.prog 90 #[.slice a n c] [sl p a (xs.map bsV), bytes xs] fun r Δ => ∃ a' c', r = .slice a' (xs.flatMap BS.bs).length c' ∧ Δ = [buf 1 a' (xs.flatMap BS.bs).length c' ((xs.flatMap BS.bs).map u8), sl p a (xs.map bsV)] := by
  have hl : xs.length = n := by have := hs.len; simpa using this
  refine Trip.start 36 [.tmp 2] [(0, .slice a n c)] Tryd.func90 rfl Tryd.ntmps90 rfl ⟨rfl, trivial⟩ rfl ?_
  refine WPC.seqR ?_
  refine stp ?_
  refine WPL.nil ?_
  refine WPC.seqR ?_
  refine stp ?_
  refine WPL.nil ?_
  refine WPC.seq ?_
  refine WPC.seqR ?_
  iterate 3 refine stp ?_
  refine WPL.nil ?_
  refine WPC.block ?_
  refine WPC.loopS (fun m e Γ => ∃ k : Nat, m = n - k ∧ k ≤ n ∧ e = [(0, .slice a n c), (3, .int .i64 (((xs.take k).flatMap BS.bs).length : Int)), (9, .slice a n c), (10, .int .i64 (n : Int)), (11, .int .i64 (k : Int))] ∧ Γ = [sl p a (xs.map bsV), bytes xs]) (n) ⟨0, rfl, by omega, rfl, rfl⟩ sbb Imp.pk ?_
  rintro m e Γ ⟨k, rfl, hk, rfl, rfl⟩
  refine WPC.seqR ?_
  refine stp ?_
  refine WPL.nil ?_
  refine WPC.seq ?_
  refine WPC.cond rfl (fun h0 => ?_) (fun h0 => ?_)
  · simp only [decide_eq_true_eq, Int.ofNat_lt] at h0
    have hp : Pl a := hs.at (by omega) (by omega)
    obtain ⟨x, hx⟩ : ∃ x, xs[k]? = some x := ⟨xs[k]'(by omega), by simp⟩
    have hxo := hok x (List.mem_of_getElem? hx)
    have hxn := hxo.n
    have hsum : ((xs.take k).flatMap BS.bs).length + x.n ≤ (xs.flatMap BS.bs).length := by
      have h1 := catLen_take xs (k + 1)
      rw [take_succ hx, List.flatMap_append, List.length_append] at h1
      simpa [hxn] using h1
    have hsnoc : ((xs.take (k + 1)).flatMap BS.bs) = ((xs.take k).flatMap BS.bs) ++ x.bs := by rw [take_succ hx, List.flatMap_append]; simp
    refine WPC.skip ?_
    refine thenQ_n ?_
    refine WPC.seq ?_
    refine WPC.block ?_
    refine WPC.seqR ?_
    refine stp ?_
    refine L_s (q_ldMap ld_sl_uint8 rfl mm hx) rfl ?_
    refine stp ?_
    refine WPL.nil ?_
    refine WPC.seqR ?_
    iterate 3 refine stp ?_
    refine L_s (q_addI rfl rfl (by omega)) rfl ?_
    rw [show ((((xs.take k).flatMap BS.bs).length : Int) + (x.n : Int)) = (((xs.take (k + 1)).flatMap BS.bs).length : Int) by rw [hsnoc, List.length_append, hxn]; simp]
    refine stp ?_
    refine WPL.nil ?_
    refine WPC.seqR ?_
    iterate 2 refine stp ?_
    refine WPL.nil ?_
    refine WPC.cond rfl (fun h1 => ?_) (fun h1 => ?_)
    · try simp only [decide_eq_true_eq, decide_eq_false_iff_not, beq_iff_eq, bne_iff_ne, beq_eq_false_iff_ne, bne_eq_false_iff_eq, Bool.not_eq_true', Bool.not_eq_false', Bool.not_eq_eq_eq_not, Bool.not_true, Bool.not_false, ne_eq, Decidable.not_not, Int.not_lt, Int.not_le, gt_iff_lt, ge_iff_le] at h1
      omega
    · skip
      refine WPC.skip ?_
      refine blockQ_n ?_
      refine thenQ_n ?_
      refine WPC.region ?_
      iterate 2 refine stp ?_
      refine WPL.nil ?_
      refine thenQ_n ?_
      exact ⟨rfl, _, _, _, by omega, ⟨k + 1, rfl, by omega, rfl, rfl⟩, sbb, Imp.pk⟩
  · simp only [decide_eq_false_iff_not, Int.ofNat_lt] at h0
    have hk' : k = n := by omega
    have htake : xs.take k = xs := List.take_of_length_le (by omega)
    refine WPC.exit ?_
    refine thenQ_e ?_
    refine thenQ_e ?_
    refine blockQ_here ?_
    refine thenQ_n ?_
    refine WPC.seqR ?_
    refine stp ?_
    rw [show ((xs.take k).flatMap BS.bs) = (xs.flatMap BS.bs) by rw [htake]]
    refine kall rfl (c_Grow hb) ?_
    rintro _ _ ⟨a1, c1, rfl, rfl⟩
    refine stp ?_
    refine WPL.nil ?_
    refine WPC.seq ?_
    refine WPC.seqR ?_
    iterate 3 refine stp ?_
    refine WPL.nil ?_
    refine WPC.block ?_
    refine WPC.loopS (fun m e Γ => ∃ (k : Nat) (a2 : Option Addr) (c2 : Nat), m = n - k ∧ k ≤ n ∧ e = [(6, .slice a2 ((xs.take k).flatMap BS.bs).length c2), (25, .slice a n c), (26, .int .i64 (n : Int)), (27, .int .i64 (k : Int))] ∧ Γ = [buf 1 a2 ((xs.take k).flatMap BS.bs).length c2 (((xs.take k).flatMap BS.bs).map u8), sl p a (xs.map bsV), bytes xs]) (n) ⟨0, a1, c1, rfl, by omega, rfl, rfl⟩ sbb Imp.pk ?_
    clear hk htake
    rintro m e Γ ⟨k, a2, c2, rfl, hk, rfl, rfl⟩
    refine WPC.seqR ?_
    refine stp ?_
    refine WPL.nil ?_
    refine WPC.seq ?_
    refine WPC.cond rfl (fun h2 => ?_) (fun h2 => ?_)
    · simp only [decide_eq_true_eq, Int.ofNat_lt] at h2
      have hp : Pl a := hs.at (by omega) (by omega)
      obtain ⟨x, hx⟩ : ∃ x, xs[k]? = some x := ⟨xs[k]'(by omega), by simp⟩
      have hxo := hok x (List.mem_of_getElem? hx)
      have hxn := hxo.n
      have hsum : ((xs.take k).flatMap BS.bs).length + x.n ≤ (xs.flatMap BS.bs).length := by
        have h1 := catLen_take xs (k + 1)
        rw [take_succ hx, List.flatMap_append, List.length_append] at h1
        simpa [hxn] using h1
      have hsnoc : ((xs.take (k + 1)).flatMap BS.bs) = ((xs.take k).flatMap BS.bs) ++ x.bs := by rw [take_succ hx, List.flatMap_append]; simp
      refine WPC.skip ?_
      refine thenQ_n ?_
      refine WPC.seq ?_
      refine WPC.block ?_
      refine WPC.seqR ?_
      refine stp ?_
      refine L_s (q_ldMap ld_sl_uint8 rfl mm hx) rfl ?_
      refine stp ?_
      refine WPL.nil ?_
      refine WPC.region ?_
      iterate 2 refine stp ?_
      refine WPL.imp ((Imp.pk (Δ := [bytes xs, buf 1 a2 ((xs.take k).flatMap BS.bs).length c2 (((xs.take k).flatMap BS.bs).map u8), sl p a (xs.map bsV)])).trans (bytes_one (List.mem_of_getElem? hx))) ?_
      refine WPL.cons rfl (E1.wpo (e_append (m := x.n) (news := x.bs.map u8) mk_sl_uint8 (by decide) rfl rfl pk1 (Rd.mem (p := false) hxo (hxo.none0 (by omega)) mm) (u8_one _) (by omega) (by omega)) rfl ?_)
      rintro _ _ ⟨a3, c3, rfl, -, rfl⟩
      rw [show ((xs.take k).flatMap BS.bs).length + x.n = ((xs.take (k + 1)).flatMap BS.bs).length by rw [hsnoc, List.length_append, hxn], show ((xs.take k).flatMap BS.bs).map u8 ++ x.bs.map u8 = ((xs.take (k + 1)).flatMap BS.bs).map u8 by rw [hsnoc, List.map_append]]
      refine WPL.putS ?_
      refine stp ?_
      refine WPL.nil ?_
      refine blockQ_n ?_
      refine thenQ_n ?_
      refine WPC.region ?_
      iterate 2 refine stp ?_
      refine WPL.nil ?_
      refine thenQ_n ?_
      exact ⟨rfl, _, _, _, by omega, ⟨k + 1, a3, c3, rfl, by omega, rfl, rfl⟩, sbb, Imp.pk⟩
    · simp only [decide_eq_false_iff_not, Int.ofNat_lt] at h2
      have hk' : k = n := by omega
      have htake : xs.take k = xs := List.take_of_length_le (by omega)
      refine WPC.exit ?_
      refine thenQ_e ?_
      refine thenQ_e ?_
      refine blockQ_here ?_
      refine thenQ_n ?_
      refine WPC.seqR ?_
      iterate 2 refine stp ?_
      refine WPL.nil ?_
      refine WPC.ret ?_
      rw [show ((xs.take k).flatMap BS.bs) = (xs.flatMap BS.bs) by rw [htake]]
      exact endR_r rfl (.tmp rfl .nil) Imp.pk ⟨a2, c2, rfl, rfl⟩

theorem c_ends {b o seq epoch : Nat} {xs : List By} (h1 : seq < 4294967296) (h2 : epoch < 4294967296) (hx : xs.length ≤ 100) : Trip Tryd.prog 89 #[.pointer (some ⟨b, o, none⟩), .int .u32 (seq : Int), .int .u32 (epoch : Int)] [wr b o xs] fun r Δ => r = .tuple #[] ∧ Δ = [wr b o (xs ++ le seq 4 ++ le epoch 4)] := by
  refine Trip.start 14 [] [(0, .pointer (some ⟨b, o, none⟩)), (1, .int .u32 (seq : Int)), (2, .int .u32 (epoch : Int))] Tryd.func89 rfl Tryd.ntmps89 rfl ⟨rfl, rfl, rfl, trivial⟩ rfl ?_
  refine WPC.seqR ?_
  iterate 3 refine stp ?_
  refine kall rfl (c_WNumber (xs := xs) (v := seq) (k := 4) (by omega) (by omega)) ?_
  rintro _ _ ⟨rfl, rfl⟩
  refine WPL.nil ?_
  refine WPC.region ?_
  iterate 3 refine stp ?_
  refine kall rfl (c_WNumber (xs := xs ++ le seq 4) (v := epoch) (k := 4) (by omega) (by simp [le_length]; omega)) ?_
  rintro _ _ ⟨rfl, rfl⟩
  refine WPL.nil ?_
  exact endR_n rfl .nil Imp.pk ⟨rfl, rfl⟩

theorem c_StampLong {a : Option Addr} {c seq epoch : Nat} {xs : List By} (hs : Sok 1 a xs.length c (xs.map u8)) (h1 : seq < 4294967296) (h2 : epoch < 4294967296) (hl : 43 < xs.length) : Trip Tryd.prog 80 #[.int .u32 (seq : Int), .int .u32 (epoch : Int), .slice a xs.length c] [sl false a (xs.map u8)] fun r Δ => r = .tuple #[.slice none 0 0, .int .i64 2] ∧ Δ = [] := by
  refine Trip.start 40 [.tmp 6, .tmp 7] [(0, .int .u32 (seq : Int)), (1, .int .u32 (epoch : Int)), (2, .slice a xs.length c)] Tryd.func80 rfl Tryd.ntmps80 rfl ⟨rfl, rfl, rfl, trivial⟩ rfl ?_
  refine WPC.seqR ?_
  iterate 2 refine stp ?_
  refine WPL.nil ?_
  refine WPC.seq ?_
  refine WPC.seqR ?_
  iterate 3 refine stp ?_
  refine WPL.nil ?_
  refine WPC.cond rfl (fun h0 => ?_) (fun h0 => ?_)
  · skip
    refine WPC.seqR ?_
    iterate 2 refine stp ?_
    refine WPL.nil ?_
    refine WPC.ret ?_
    refine thenQ_r ?_
    exact endR_r rfl (.tmp rfl (.tmp rfl .nil)) Imp.pk ⟨rfl, rfl⟩
  · try simp only [decide_eq_true_eq, decide_eq_false_iff_not, beq_iff_eq, bne_iff_ne, beq_eq_false_iff_ne, bne_eq_false_iff_eq, Bool.not_eq_true', Bool.not_eq_false', Bool.not_eq_eq_eq_not, Bool.not_true, Bool.not_false, ne_eq, Decidable.not_not, Int.not_lt, Int.not_le, gt_iff_lt, ge_iff_le] at h0
    omega

theorem c_Stamp {a : Option Addr} {c seq epoch : Nat} {xs : List By} (hs : Sok 1 a xs.length c (xs.map u8)) (h1 : seq < 4294967296) (h2 : epoch < 4294967296) (hl : xs.length ≤ 43) : Trip Tryd.prog 80 #[.int .u32 (seq : Int), .int .u32 (epoch : Int), .slice a xs.length c] [sl false a (xs.map u8), tblA] fun r Δ => ∃ a' c', r = .tuple #[.slice a' 64 c', .int .i64 0] ∧ Sok 1 a' 64 c' ((stamp seq epoch xs).map u8) ∧ Δ = [sl false a' ((stamp seq epoch xs).map u8)] := by
  have hcap := hs.cap
  refine Trip.start 40 [.tmp 6, .tmp 7] [(0, .int .u32 (seq : Int)), (1, .int .u32 (epoch : Int)), (2, .slice a xs.length c)] Tryd.func80 rfl Tryd.ntmps80 rfl ⟨rfl, rfl, rfl, trivial⟩ rfl ?_
  refine WPC.seqR ?_
  iterate 2 refine stp ?_
  refine WPL.nil ?_
  refine WPC.seq ?_
  refine WPC.seqR ?_
  iterate 3 refine stp ?_
  refine WPL.nil ?_
  refine WPC.cond rfl (fun h0 => ?_) (fun h0 => ?_)
  · try simp only [decide_eq_true_eq, decide_eq_false_iff_not, beq_iff_eq, bne_iff_ne, beq_eq_false_iff_ne, bne_eq_false_iff_eq, Bool.not_eq_true', Bool.not_eq_false', Bool.not_eq_eq_eq_not, Bool.not_true, Bool.not_false, ne_eq, Decidable.not_not, Int.not_lt, Int.not_le, gt_iff_lt, ge_iff_le] at h0
    omega
  · skip
    refine WPC.skip ?_
    refine thenQ_n ?_
    refine WPC.seqR ?_
    refine nw fun bW => ?_
    refine WPL.nil ?_
    refine WPC.imp (Imp.bufNil (sz := 1)) ?_
    refine WPC.imp ((Imp.pk).trans (wr_close (b := bW) (o := 0) (xs := []) none 0 0 (Γ := [sl false a (xs.map u8), tblA]))) ?_
    refine WPC.seqR ?_
    iterate 2 refine stp ?_
    refine kall rfl (c_ends (xs := []) h1 h2 (by simp)) ?_
    rintro _ _ ⟨rfl, rfl⟩
    rw [List.nil_append]
    refine WPL.nil ?_
    refine WPC.seqR ?_
    iterate 3 refine stp ?_
    refine kall rfl (c_WNumber (xs := le seq 4 ++ le epoch 4) (v := xs.length) (k := 1) (by omega) (by simp [le_length])) ?_
    rintro _ _ ⟨rfl, rfl⟩
    refine WPL.nil ?_
    refine WPC.seqD mixed ?_
    refine atP 1 rfl ?_
    refine atP 2 rfl ?_
    refine atP 3 rfl ?_
    refine atP 4 rfl ?_
    refine WPA.two 0 5 (by kernel_rfl) ?_ ?_
    · refine Eff.mk 0 [] rfl rfl (by repeat (first | exact .nil | refine .anc rfl ?_ | refine .keep mm ?_)) (C1.call (c_call Tryd.func76 rfl rfl rfl) (c_WOut (xs := le seq 4 ++ le epoch 4 ++ le xs.length 1) (by simp [le_length])) pkk rfl ?_)
      rintro _ _ ⟨a1, c1, rfl, hs1, rfl⟩
      refine ⟨(.nil _), ?_⟩
      refine WPA.putS ?_
      refine WPA.oneE 5 [] (by kernel_rfl) rfl rfl (by repeat (first | exact .nil | refine .anc rfl ?_ | refine .keep mm ?_)) (E1.wpo (e_make (n := 43 - (xs.length : Int)) (c := 43 - (xs.length : Int)) mk_sl_uint8 (by decide) rfl rfl (by omega) (by omega) (by omega) (by omega)) rfl ?_)
      rintro _ _ ⟨bZ, rfl, rfl⟩
      rw [show (43 - (xs.length : Int)).toNat = 43 - xs.length by omega, repZ8]
      refine ⟨(.nil _), ?_⟩
      refine WPA.putS ?_
      refine WPA.imp (Imp.freeze _ _ _ _) ?_
      refine WPA.oneE 6 [] (by kernel_rfl) rfl rfl (by repeat (first | exact .nil | refine .anc rfl ?_ | refine .keep mm ?_)) (E1.wpo (e_buildSlice (cs := [_, _, _]) mk_sl_sl_uint8 (by decide) rfl rfl rfl) rfl ?_)
      rintro _ _ ⟨bC, rfl, rfl⟩
      refine ⟨(.nil _), ?_⟩
      refine WPA.putS ?_
      refine WPA.imp (bytes_nil.trans ((Imp.pk (Δ := [BS.at_ (⟨(le seq 4 ++ le epoch 4 ++ le xs.length 1), a1, (le seq 4 ++ le epoch 4 ++ le xs.length 1).length, c1⟩ : BS), bytes [], cells true bC 0 ([(⟨(le seq 4 ++ le epoch 4 ++ le xs.length 1), a1, (le seq 4 ++ le epoch 4 ++ le xs.length 1).length, c1⟩ : BS), (⟨xs, a, xs.length, c⟩ : BS), (⟨List.replicate (43 - xs.length) 0, some ⟨bZ, 0, none⟩, 43 - xs.length, 43 - xs.length⟩ : BS)].map bsV), tblA, BS.at_ (⟨xs, a, xs.length, c⟩ : BS), BS.at_ (⟨List.replicate (43 - xs.length) 0, some ⟨bZ, 0, none⟩, 43 - xs.length, 43 - xs.length⟩ : BS)])).trans (bytes_snoc.trans ((Imp.pk (Δ := [BS.at_ (⟨xs, a, xs.length, c⟩ : BS), bytes [(⟨(le seq 4 ++ le epoch 4 ++ le xs.length 1), a1, (le seq 4 ++ le epoch 4 ++ le xs.length 1).length, c1⟩ : BS)], cells true bC 0 ([(⟨(le seq 4 ++ le epoch 4 ++ le xs.length 1), a1, (le seq 4 ++ le epoch 4 ++ le xs.length 1).length, c1⟩ : BS), (⟨xs, a, xs.length, c⟩ : BS), (⟨List.replicate (43 - xs.length) 0, some ⟨bZ, 0, none⟩, 43 - xs.length, 43 - xs.length⟩ : BS)].map bsV), tblA, BS.at_ (⟨List.replicate (43 - xs.length) 0, some ⟨bZ, 0, none⟩, 43 - xs.length, 43 - xs.length⟩ : BS)])).trans (bytes_snoc.trans ((Imp.pk (Δ := [BS.at_ (⟨List.replicate (43 - xs.length) 0, some ⟨bZ, 0, none⟩, 43 - xs.length, 43 - xs.length⟩ : BS), bytes [(⟨(le seq 4 ++ le epoch 4 ++ le xs.length 1), a1, (le seq 4 ++ le epoch 4 ++ le xs.length 1).length, c1⟩ : BS), (⟨xs, a, xs.length, c⟩ : BS)], cells true bC 0 ([(⟨(le seq 4 ++ le epoch 4 ++ le xs.length 1), a1, (le seq 4 ++ le epoch 4 ++ le xs.length 1).length, c1⟩ : BS), (⟨xs, a, xs.length, c⟩ : BS), (⟨List.replicate (43 - xs.length) 0, some ⟨bZ, 0, none⟩, 43 - xs.length, 43 - xs.length⟩ : BS)].map bsV), tblA])).trans (bytes_snoc.trans (Imp.refl _)))))))) ?_
      refine WPA.oneE 7 [] (by kernel_rfl) rfl rfl (by repeat (first | exact .nil | refine .anc rfl ?_ | refine .keep mm ?_)) (C1.call (c_call Tryd.func90 rfl rfl rfl) (c_Concat (p := true) (a := some ⟨bC, 0, none⟩) (n := 3) (c := 3) (xs := [(⟨(le seq 4 ++ le epoch 4 ++ le xs.length 1), a1, (le seq 4 ++ le epoch 4 ++ le xs.length 1).length, c1⟩ : BS), (⟨xs, a, xs.length, c⟩ : BS), (⟨List.replicate (43 - xs.length) 0, some ⟨bZ, 0, none⟩, 43 - xs.length, 43 - xs.length⟩ : BS)]) ⟨rfl, Nat.le_refl _, .inr (Pl.mk _ _)⟩ (by intro y hy; simp only [List.mem_cons, List.not_mem_nil, or_false] at hy; rcases hy with rfl | rfl | rfl <;> first | exact hs1 | exact hs | exact ⟨by simp, Nat.le_refl _, .inr (Pl.mk _ _)⟩) (by omega) (by simp [le_length]; omega)) pkk rfl ?_)
      rintro _ _ ⟨ah, ch, rfl, rfl⟩
      have hfl : [(⟨(le seq 4 ++ le epoch 4 ++ le xs.length 1), a1, (le seq 4 ++ le epoch 4 ++ le xs.length 1).length, c1⟩ : BS), (⟨xs, a, xs.length, c⟩ : BS), (⟨List.replicate (43 - xs.length) 0, some ⟨bZ, 0, none⟩, 43 - xs.length, 43 - xs.length⟩ : BS)].flatMap BS.bs = stampHead seq epoch xs := by simp [stampHead]
      have hfn : (stampHead seq epoch xs).length = 52 := stampHead_length (by omega)
      rw [hfl, hfn]
      refine ⟨(.nil _), ?_⟩
      refine WPA.putS ?_
      refine WPA.bufRo fun hsh => ?_
      refine atP 8 rfl ?_
      refine WPA.done (by kernel_rfl) ?_
      refine WPC.seqR ?_
      refine nw fun bV => ?_
      refine WPL.nil ?_
      refine WPC.imp (Imp.bufNil (sz := 1)) ?_
      refine WPC.imp ((Imp.pk).trans (wr_close (b := bV) (o := 0) (xs := []) none 0 0 (Γ := [sl false ah ((stampHead seq epoch xs).map u8), tblA]))) ?_
      have hcrc := crc_lt (stampHead seq epoch xs)
      refine WPC.prune [(0, _), (1, _), (6, _), (7, _), (9, _), (10, _)] sbb ?_
      refine WPC.seqR ?_
      refine stp ?_
      refine kall rfl (c_Sum (p := false) hsh (by omega)) ?_
      rintro _ _ ⟨rfl, rfl⟩
      refine stp ?_
      refine kall rfl (c_WNumber (xs := []) (v := crc (stampHead seq epoch xs)) (k := 4) (by omega) (by simp)) ?_
      rintro _ _ ⟨rfl, rfl⟩
      rw [List.nil_append]
      refine WPL.nil ?_
      refine WPC.seqR ?_
      iterate 2 refine stp ?_
      refine kall rfl (c_ends (xs := le (crc (stampHead seq epoch xs)) 4) h1 h2 (by simp [le_length])) ?_
      rintro _ _ ⟨rfl, rfl⟩
      refine WPL.nil ?_
      refine WPC.seqR ?_
      refine stp ?_
      refine kall rfl (c_WOut (xs := le (crc (stampHead seq epoch xs)) 4 ++ le seq 4 ++ le epoch 4) (by simp [le_length])) ?_
      rintro _ _ ⟨a2, c2, rfl, hs2, rfl⟩
      refine nwb [_, _] fun bD => ?_
      refine WPL.imp (bytes_nil.trans ((Imp.pk (Δ := [BS.at_ (⟨stampHead seq epoch xs, ah, 52, ch⟩ : BS), bytes [], cells true bD 0 ([(⟨stampHead seq epoch xs, ah, 52, ch⟩ : BS), (⟨(le (crc (stampHead seq epoch xs)) 4 ++ le seq 4 ++ le epoch 4), a2, (le (crc (stampHead seq epoch xs)) 4 ++ le seq 4 ++ le epoch 4).length, c2⟩ : BS)].map bsV), BS.at_ (⟨(le (crc (stampHead seq epoch xs)) 4 ++ le seq 4 ++ le epoch 4), a2, (le (crc (stampHead seq epoch xs)) 4 ++ le seq 4 ++ le epoch 4).length, c2⟩ : BS)])).trans (bytes_snoc.trans ((Imp.pk (Δ := [BS.at_ (⟨(le (crc (stampHead seq epoch xs)) 4 ++ le seq 4 ++ le epoch 4), a2, (le (crc (stampHead seq epoch xs)) 4 ++ le seq 4 ++ le epoch 4).length, c2⟩ : BS), bytes [(⟨stampHead seq epoch xs, ah, 52, ch⟩ : BS)], cells true bD 0 ([(⟨stampHead seq epoch xs, ah, 52, ch⟩ : BS), (⟨(le (crc (stampHead seq epoch xs)) 4 ++ le seq 4 ++ le epoch 4), a2, (le (crc (stampHead seq epoch xs)) 4 ++ le seq 4 ++ le epoch 4).length, c2⟩ : BS)].map bsV)])).trans (bytes_snoc.trans (Imp.refl _)))))) ?_
      refine kall rfl (c_Concat (p := true) (a := some ⟨bD, 0, none⟩) (n := 2) (c := 2) (xs := [(⟨stampHead seq epoch xs, ah, 52, ch⟩ : BS), (⟨(le (crc (stampHead seq epoch xs)) 4 ++ le seq 4 ++ le epoch 4), a2, (le (crc (stampHead seq epoch xs)) 4 ++ le seq 4 ++ le epoch 4).length, c2⟩ : BS)]) ⟨rfl, Nat.le_refl _, .inr (Pl.mk _ _)⟩ (by intro y hy; simp only [List.mem_cons, List.not_mem_nil, or_false] at hy; rcases hy with rfl | rfl <;> first | exact hsh | exact hs2) (by omega) (by simp [le_length, hfn])) ?_
      rintro _ _ ⟨a3, c3, rfl, rfl⟩
      have hf2 : [(⟨stampHead seq epoch xs, ah, 52, ch⟩ : BS), (⟨(le (crc (stampHead seq epoch xs)) 4 ++ le seq 4 ++ le epoch 4), a2, (le (crc (stampHead seq epoch xs)) 4 ++ le seq 4 ++ le epoch 4).length, c2⟩ : BS)].flatMap BS.bs = stamp seq epoch xs := by simp [stamp]
      have hf3 : (stamp seq epoch xs).length = 64 := stamp_length (by omega)
      rw [hf2, hf3]
      refine WPL.bufRo fun hs3 => ?_
      iterate 2 refine stp ?_
      refine WPL.nil ?_
      refine WPC.ret ?_
      exact endR_r rfl (.tmp rfl (.tmp rfl .nil)) Imp.pk ⟨a3, c3, rfl, hs3, rfl⟩
    · refine Eff.mk 5 [] rfl rfl (by repeat (first | exact .nil | refine .anc rfl ?_ | refine .keep mm ?_)) (E1.wpo (e_make (n := 43 - (xs.length : Int)) (c := 43 - (xs.length : Int)) mk_sl_uint8 (by decide) rfl rfl (by omega) (by omega) (by omega) (by omega)) rfl ?_)
      rintro _ _ ⟨bZ, rfl, rfl⟩
      rw [show (43 - (xs.length : Int)).toNat = 43 - xs.length by omega, repZ8]
      refine ⟨(.nil _), ?_⟩
      refine WPA.putS ?_
      refine WPA.imp (Imp.freeze _ _ _ _) ?_
      refine WPA.oneE 0 [] (by kernel_rfl) rfl rfl (by repeat (first | exact .nil | refine .anc rfl ?_ | refine .keep mm ?_)) (C1.call (c_call Tryd.func76 rfl rfl rfl) (c_WOut (xs := le seq 4 ++ le epoch 4 ++ le xs.length 1) (by simp [le_length])) pkk rfl ?_)
      rintro _ _ ⟨a1, c1, rfl, hs1, rfl⟩
      refine ⟨(.nil _), ?_⟩
      refine WPA.putS ?_
      refine WPA.oneE 6 [] (by kernel_rfl) rfl rfl (by repeat (first | exact .nil | refine .anc rfl ?_ | refine .keep mm ?_)) (E1.wpo (e_buildSlice (cs := [_, _, _]) mk_sl_sl_uint8 (by decide) rfl rfl rfl) rfl ?_)
      rintro _ _ ⟨bC, rfl, rfl⟩
      refine ⟨(.nil _), ?_⟩
      refine WPA.putS ?_
      refine WPA.imp (bytes_nil.trans ((Imp.pk (Δ := [BS.at_ (⟨(le seq 4 ++ le epoch 4 ++ le xs.length 1), a1, (le seq 4 ++ le epoch 4 ++ le xs.length 1).length, c1⟩ : BS), bytes [], cells true bC 0 ([(⟨(le seq 4 ++ le epoch 4 ++ le xs.length 1), a1, (le seq 4 ++ le epoch 4 ++ le xs.length 1).length, c1⟩ : BS), (⟨xs, a, xs.length, c⟩ : BS), (⟨List.replicate (43 - xs.length) 0, some ⟨bZ, 0, none⟩, 43 - xs.length, 43 - xs.length⟩ : BS)].map bsV), tblA, BS.at_ (⟨xs, a, xs.length, c⟩ : BS), BS.at_ (⟨List.replicate (43 - xs.length) 0, some ⟨bZ, 0, none⟩, 43 - xs.length, 43 - xs.length⟩ : BS)])).trans (bytes_snoc.trans ((Imp.pk (Δ := [BS.at_ (⟨xs, a, xs.length, c⟩ : BS), bytes [(⟨(le seq 4 ++ le epoch 4 ++ le xs.length 1), a1, (le seq 4 ++ le epoch 4 ++ le xs.length 1).length, c1⟩ : BS)], cells true bC 0 ([(⟨(le seq 4 ++ le epoch 4 ++ le xs.length 1), a1, (le seq 4 ++ le epoch 4 ++ le xs.length 1).length, c1⟩ : BS), (⟨xs, a, xs.length, c⟩ : BS), (⟨List.replicate (43 - xs.length) 0, some ⟨bZ, 0, none⟩, 43 - xs.length, 43 - xs.length⟩ : BS)].map bsV), tblA, BS.at_ (⟨List.replicate (43 - xs.length) 0, some ⟨bZ, 0, none⟩, 43 - xs.length, 43 - xs.length⟩ : BS)])).trans (bytes_snoc.trans ((Imp.pk (Δ := [BS.at_ (⟨List.replicate (43 - xs.length) 0, some ⟨bZ, 0, none⟩, 43 - xs.length, 43 - xs.length⟩ : BS), bytes [(⟨(le seq 4 ++ le epoch 4 ++ le xs.length 1), a1, (le seq 4 ++ le epoch 4 ++ le xs.length 1).length, c1⟩ : BS), (⟨xs, a, xs.length, c⟩ : BS)], cells true bC 0 ([(⟨(le seq 4 ++ le epoch 4 ++ le xs.length 1), a1, (le seq 4 ++ le epoch 4 ++ le xs.length 1).length, c1⟩ : BS), (⟨xs, a, xs.length, c⟩ : BS), (⟨List.replicate (43 - xs.length) 0, some ⟨bZ, 0, none⟩, 43 - xs.length, 43 - xs.length⟩ : BS)].map bsV), tblA])).trans (bytes_snoc.trans (Imp.refl _)))))))) ?_
      refine WPA.oneE 7 [] (by kernel_rfl) rfl rfl (by repeat (first | exact .nil | refine .anc rfl ?_ | refine .keep mm ?_)) (C1.call (c_call Tryd.func90 rfl rfl rfl) (c_Concat (p := true) (a := some ⟨bC, 0, none⟩) (n := 3) (c := 3) (xs := [(⟨(le seq 4 ++ le epoch 4 ++ le xs.length 1), a1, (le seq 4 ++ le epoch 4 ++ le xs.length 1).length, c1⟩ : BS), (⟨xs, a, xs.length, c⟩ : BS), (⟨List.replicate (43 - xs.length) 0, some ⟨bZ, 0, none⟩, 43 - xs.length, 43 - xs.length⟩ : BS)]) ⟨rfl, Nat.le_refl _, .inr (Pl.mk _ _)⟩ (by intro y hy; simp only [List.mem_cons, List.not_mem_nil, or_false] at hy; rcases hy with rfl | rfl | rfl <;> first | exact hs1 | exact hs | exact ⟨by simp, Nat.le_refl _, .inr (Pl.mk _ _)⟩) (by omega) (by simp [le_length]; omega)) pkk rfl ?_)
      rintro _ _ ⟨ah, ch, rfl, rfl⟩
      have hfl : [(⟨(le seq 4 ++ le epoch 4 ++ le xs.length 1), a1, (le seq 4 ++ le epoch 4 ++ le xs.length 1).length, c1⟩ : BS), (⟨xs, a, xs.length, c⟩ : BS), (⟨List.replicate (43 - xs.length) 0, some ⟨bZ, 0, none⟩, 43 - xs.length, 43 - xs.length⟩ : BS)].flatMap BS.bs = stampHead seq epoch xs := by simp [stampHead]
      have hfn : (stampHead seq epoch xs).length = 52 := stampHead_length (by omega)
      rw [hfl, hfn]
      refine ⟨(.nil _), ?_⟩
      refine WPA.putS ?_
      refine WPA.bufRo fun hsh => ?_
      refine atP 8 rfl ?_
      refine WPA.done (by kernel_rfl) ?_
      refine WPC.seqR ?_
      refine nw fun bV => ?_
      refine WPL.nil ?_
      refine WPC.imp (Imp.bufNil (sz := 1)) ?_
      refine WPC.imp ((Imp.pk).trans (wr_close (b := bV) (o := 0) (xs := []) none 0 0 (Γ := [sl false ah ((stampHead seq epoch xs).map u8), tblA]))) ?_
      have hcrc := crc_lt (stampHead seq epoch xs)
      refine WPC.prune [(0, _), (1, _), (6, _), (7, _), (9, _), (10, _)] sbb ?_
      refine WPC.seqR ?_
      refine stp ?_
      refine kall rfl (c_Sum (p := false) hsh (by omega)) ?_
      rintro _ _ ⟨rfl, rfl⟩
      refine stp ?_
      refine kall rfl (c_WNumber (xs := []) (v := crc (stampHead seq epoch xs)) (k := 4) (by omega) (by simp)) ?_
      rintro _ _ ⟨rfl, rfl⟩
      rw [List.nil_append]
      refine WPL.nil ?_
      refine WPC.seqR ?_
      iterate 2 refine stp ?_
      refine kall rfl (c_ends (xs := le (crc (stampHead seq epoch xs)) 4) h1 h2 (by simp [le_length])) ?_
      rintro _ _ ⟨rfl, rfl⟩
      refine WPL.nil ?_
      refine WPC.seqR ?_
      refine stp ?_
      refine kall rfl (c_WOut (xs := le (crc (stampHead seq epoch xs)) 4 ++ le seq 4 ++ le epoch 4) (by simp [le_length])) ?_
      rintro _ _ ⟨a2, c2, rfl, hs2, rfl⟩
      refine nwb [_, _] fun bD => ?_
      refine WPL.imp (bytes_nil.trans ((Imp.pk (Δ := [BS.at_ (⟨stampHead seq epoch xs, ah, 52, ch⟩ : BS), bytes [], cells true bD 0 ([(⟨stampHead seq epoch xs, ah, 52, ch⟩ : BS), (⟨(le (crc (stampHead seq epoch xs)) 4 ++ le seq 4 ++ le epoch 4), a2, (le (crc (stampHead seq epoch xs)) 4 ++ le seq 4 ++ le epoch 4).length, c2⟩ : BS)].map bsV), BS.at_ (⟨(le (crc (stampHead seq epoch xs)) 4 ++ le seq 4 ++ le epoch 4), a2, (le (crc (stampHead seq epoch xs)) 4 ++ le seq 4 ++ le epoch 4).length, c2⟩ : BS)])).trans (bytes_snoc.trans ((Imp.pk (Δ := [BS.at_ (⟨(le (crc (stampHead seq epoch xs)) 4 ++ le seq 4 ++ le epoch 4), a2, (le (crc (stampHead seq epoch xs)) 4 ++ le seq 4 ++ le epoch 4).length, c2⟩ : BS), bytes [(⟨stampHead seq epoch xs, ah, 52, ch⟩ : BS)], cells true bD 0 ([(⟨stampHead seq epoch xs, ah, 52, ch⟩ : BS), (⟨(le (crc (stampHead seq epoch xs)) 4 ++ le seq 4 ++ le epoch 4), a2, (le (crc (stampHead seq epoch xs)) 4 ++ le seq 4 ++ le epoch 4).length, c2⟩ : BS)].map bsV)])).trans (bytes_snoc.trans (Imp.refl _)))))) ?_
      refine kall rfl (c_Concat (p := true) (a := some ⟨bD, 0, none⟩) (n := 2) (c := 2) (xs := [(⟨stampHead seq epoch xs, ah, 52, ch⟩ : BS), (⟨(le (crc (stampHead seq epoch xs)) 4 ++ le seq 4 ++ le epoch 4), a2, (le (crc (stampHead seq epoch xs)) 4 ++ le seq 4 ++ le epoch 4).length, c2⟩ : BS)]) ⟨rfl, Nat.le_refl _, .inr (Pl.mk _ _)⟩ (by intro y hy; simp only [List.mem_cons, List.not_mem_nil, or_false] at hy; rcases hy with rfl | rfl <;> first | exact hsh | exact hs2) (by omega) (by simp [le_length, hfn])) ?_
      rintro _ _ ⟨a3, c3, rfl, rfl⟩
      have hf2 : [(⟨stampHead seq epoch xs, ah, 52, ch⟩ : BS), (⟨(le (crc (stampHead seq epoch xs)) 4 ++ le seq 4 ++ le epoch 4), a2, (le (crc (stampHead seq epoch xs)) 4 ++ le seq 4 ++ le epoch 4).length, c2⟩ : BS)].flatMap BS.bs = stamp seq epoch xs := by simp [stamp]
      have hf3 : (stamp seq epoch xs).length = 64 := stamp_length (by omega)
      rw [hf2, hf3]
      refine WPL.bufRo fun hs3 => ?_
      iterate 2 refine stp ?_
      refine WPL.nil ?_
      refine WPC.ret ?_
      exact endR_r rfl (.tmp rfl (.tmp rfl .nil)) Imp.pk ⟨a3, c3, rfl, hs3, rfl⟩

theorem c_Parse {a : Option Addr} {c : Nat} (s : Sec) (hs : Sok 1 a 64 c (s.1.map u8)) : Trip Tryd.prog 86 #[.slice a 64 c] [sl false a (s.1.map u8), tblA] fun r Δ => match parse s.1 with | some (seq, ep, xs) => (∃ a' c', r = .tuple #[.int .u32 (seq : Int), .int .u32 (ep : Int), .slice a' xs.length c', .bool true] ∧ Sok 1 a' xs.length c' (xs.map u8) ∧ Δ = [sl false a' (xs.map u8)]) | none => r = .tuple #[.int .u32 0, .int .u32 0, .slice none 0 0, .bool false] ∧ Δ = [] := by
  have hcap := hs.cap
  have hsl := s.2
  have s1 := hs.cutB (l := 0) (k := 52) (m := c) (by omega) (by omega) (by omega)
  have s2 := hs.cutB (l := 52) (k := 64) (m := c) (by omega) (by omega) (by omega)
  have i1 := Imp.cutRo hs (l := 0) (k := 52) (m := c) (Γ := [tblA]) (by omega) (by omega) (by omega)
  have i2 := Imp.cutRo hs (l := 52) (k := 64) (m := c) (Γ := [sl false a ((s.1.take 52).map u8), tblA]) (by omega) (by omega) (by omega)
  simp only [List.drop_zero, Nat.sub_zero, Nat.zero_mul, cut_zero] at s1 i1
  have e52 : (s.1.drop 52).take (64 - 52) = s.1.drop 52 := List.take_of_length_le (by simp; omega)
  rw [e52] at s2 i2
  refine Trip.imp (i1.trans ((Imp.perm (.swap _ _ _)).trans i2)) ?_
  have hN0 := num_lt s.1 0 4
  have hN4 := num_lt s.1 4 4
  have hN8 := num_lt s.1 8 1
  have hN52 := num_lt s.1 52 4
  have hN56 := num_lt s.1 56 4
  have hN60 := num_lt s.1 60 4
  simp only [num] at hN0 hN4 hN8 hN52 hN56 hN60
  refine Trip.start 69 [.tmp 2, .tmp 3, .tmp 4, .tmp 5] [(0, .slice a 64 c)] Tryd.func86 rfl Tryd.ntmps86 rfl ⟨rfl, trivial⟩ rfl ?_
  refine WPC.seqR ?_
  iterate 4 refine stp ?_
  refine WPL.nil ?_
  refine WPC.seq ?_
  refine WPC.seqR ?_
  iterate 3 refine stp ?_
  refine WPL.nil ?_
  refine WPC.cond rfl (fun h0 => ?_) (fun h0 => ?_)
  · try simp only [decide_eq_true_eq, decide_eq_false_iff_not, beq_iff_eq, bne_iff_ne, beq_eq_false_iff_ne, bne_eq_false_iff_eq, Bool.not_eq_true', Bool.not_eq_false', Bool.not_eq_eq_eq_not, Bool.not_true, Bool.not_false, ne_eq, Decidable.not_not, Int.not_lt, Int.not_le, gt_iff_lt, ge_iff_le] at h0
    simp at h0
  · skip
    refine WPC.skip ?_
    refine thenQ_n ?_
    refine WPC.seqD mixed ?_
    refine atP 0 rfl ?_
    refine WPA.takeP 1 rfl (q_sliceHi (j := 52) sl_sl_uint8 rfl rfl (by omega)) (by kernel_rfl) (by kernel_rfl) (by kernel_rfl) rfl rfl (.nil _) ?_
    refine WPA.putS ?_
    refine atP 3 rfl ?_
    refine WPA.takeP 4 rfl (q_sliceLoC (l := 52) sl_sl_uint8 rfl rfl (by omega) (by omega)) (by kernel_rfl) (by kernel_rfl) (by kernel_rfl) rfl rfl (.nil _) ?_
    refine WPA.putS ?_
    refine WPA.oneE 2 [] (by kernel_rfl) rfl rfl (by repeat (first | exact .nil | refine .anc rfl ?_ | refine .keep mm ?_)) (C1.call (c_call Tryd.func68 rfl rfl rfl) (c_Read s1) pkk rfl ?_)
    rintro _ _ ⟨bh, rfl, rfl⟩
    refine ⟨(.nil _), ?_⟩
    refine WPA.putS ?_
    refine WPA.oneE 5 [] (by kernel_rfl) rfl rfl (by repeat (first | exact .nil | refine .anc rfl ?_ | refine .keep mm ?_)) (C1.call (c_call Tryd.func68 rfl rfl rfl) (c_Read s2) pkk rfl ?_)
    rintro _ _ ⟨bt, rfl, rfl⟩
    refine ⟨(.nil _), ?_⟩
    refine WPA.putS ?_
    refine atP 6 rfl ?_
    refine atP 7 rfl ?_
    refine WPA.done (by kernel_rfl) ?_
    refine WPC.seqR ?_
    refine stp ?_
    refine kall rfl (c_RNumber (k := 4) (xs := (s.1.take 52).drop 0) (sh := false) (by omega) (by simp; omega)) ?_
    rintro _ _ ⟨rfl, rfl⟩
    simp only [show rtake ((s.1.take 52).drop 0) false 4 = (part s.1 0 4, (s.1.take 52).drop 4, false) from head_num hsl 0 4 (by omega)]
    iterate 2 refine stp ?_
    refine kall rfl (c_RNumber (k := 4) (xs := (s.1.take 52).drop 4) (sh := false) (by omega) (by simp; omega)) ?_
    rintro _ _ ⟨rfl, rfl⟩
    simp only [show rtake ((s.1.take 52).drop 4) false 4 = (part s.1 4 4, (s.1.take 52).drop 8, false) from head_num hsl 4 4 (by omega)]
    iterate 3 refine stp ?_
    refine WPL.nil ?_
    refine WPC.seqR ?_
    refine stp ?_
    refine kall rfl (c_RNumber (k := 1) (xs := (s.1.take 52).drop 8) (sh := false) (by omega) (by simp; omega)) ?_
    rintro _ _ ⟨rfl, rfl⟩
    simp only [show rtake ((s.1.take 52).drop 8) false 1 = (part s.1 8 1, (s.1.take 52).drop 9, false) from head_num hsl 8 1 (by omega)]
    iterate 2 refine stp ?_
    refine WPL.nil ?_
    refine WPC.prune [(0, _), (2, _), (3, _), (4, _), (5, _), (7, _), (8, _)] sbb ?_
    refine WPC.seqR ?_
    refine stp ?_
    refine kall rfl (c_RNumber (k := 4) (xs := (s.1.drop 52).drop 0) (sh := false) (by omega) (by simp; omega)) ?_
    rintro _ _ ⟨rfl, rfl⟩
    simp only [show rtake ((s.1.drop 52).drop 0) false 4 = (part s.1 52 4, (s.1.drop 52).drop 4, false) from tail_num hsl 0 4 (by omega)]
    iterate 2 refine stp ?_
    refine WPL.nil ?_
    refine WPC.seqR ?_
    refine stp ?_
    refine kall rfl (c_RNumber (k := 4) (xs := (s.1.drop 52).drop 4) (sh := false) (by omega) (by simp; omega)) ?_
    rintro _ _ ⟨rfl, rfl⟩
    simp only [show rtake ((s.1.drop 52).drop 4) false 4 = (part s.1 56 4, (s.1.drop 52).drop 8, false) from tail_num hsl 4 4 (by omega)]
    iterate 2 refine stp ?_
    refine kall rfl (c_RNumber (k := 4) (xs := (s.1.drop 52).drop 8) (sh := false) (by omega) (by simp; omega)) ?_
    rintro _ _ ⟨rfl, rfl⟩
    simp only [show rtake ((s.1.drop 52).drop 8) false 4 = (part s.1 60 4, (s.1.drop 52).drop 12, false) from tail_num hsl 8 4 (by omega)]
    iterate 3 refine stp ?_
    refine WPL.nil ?_
    refine WPC.seq ?_
    refine WPC.seqR ?_
    iterate 3 refine stp ?_
    apply WPL.joinO (e' := [(0, _), (2, _), (3, _), (4, _), (5, _), (8, _), (9, _), (11, _)]) 41 45 4 rfl
    · intro g8_2
      try simp only [decide_eq_true_eq, decide_eq_false_iff_not, beq_iff_eq, bne_iff_ne, beq_eq_false_iff_ne, bne_eq_false_iff_eq, Bool.not_eq_true', Bool.not_eq_false', Bool.not_eq_eq_eq_not, Bool.not_true, Bool.not_false, ne_eq, Decidable.not_not, Int.not_lt, Int.not_le, gt_iff_lt, ge_iff_le] at g8_2
      refine L_no rfl rfl rfl rfl ?_
      refine L_no rfl rfl rfl rfl ?_
      refine L_no rfl rfl rfl rfl ?_
      refine stp ?_
      first | exact WPL.jn rfl rfl sbb | exact WPL.jnI rfl rfl sbb Imp.pk
    · intro g8_2
      try simp only [decide_eq_true_eq, decide_eq_false_iff_not, beq_iff_eq, bne_iff_ne, beq_eq_false_iff_ne, bne_eq_false_iff_eq, Bool.not_eq_true', Bool.not_eq_false', Bool.not_eq_eq_eq_not, Bool.not_true, Bool.not_false, ne_eq, Decidable.not_not, Int.not_lt, Int.not_le, gt_iff_lt, ge_iff_le] at g8_2
      iterate 3 refine stpY rfl rfl ?_
      refine stp ?_
      first | exact WPL.jn rfl rfl sbb | exact WPL.jnI rfl rfl sbb Imp.pk
    refine stp ?_
    apply WPL.joinO (e' := [(0, _), (2, _), (3, _), (4, _), (5, _), (8, _), (9, _)]) 46 50 4 rfl
    · intro g8_7
      try simp only [decide_eq_true_eq, decide_eq_false_iff_not, beq_iff_eq, bne_iff_ne, beq_eq_false_iff_ne, bne_eq_false_iff_eq, Bool.not_eq_true', Bool.not_eq_false', Bool.not_eq_eq_eq_not, Bool.not_true, Bool.not_false, ne_eq, Decidable.not_not, Int.not_lt, Int.not_le, gt_iff_lt, ge_iff_le] at g8_7
      refine L_no rfl rfl rfl rfl ?_
      refine L_no rfl rfl rfl rfl ?_
      refine L_no rfl rfl rfl rfl ?_
      refine stp ?_
      first | exact WPL.jn rfl rfl sbb | exact WPL.jnI rfl rfl sbb Imp.pk
    · intro g8_7
      try simp only [decide_eq_true_eq, decide_eq_false_iff_not, beq_iff_eq, bne_iff_ne, beq_eq_false_iff_ne, bne_eq_false_iff_eq, Bool.not_eq_true', Bool.not_eq_false', Bool.not_eq_eq_eq_not, Bool.not_true, Bool.not_false, ne_eq, Decidable.not_not, Int.not_lt, Int.not_le, gt_iff_lt, ge_iff_le] at g8_7
      iterate 3 refine stpY rfl rfl ?_
      refine stp ?_
      first | exact WPL.jn rfl rfl sbb | exact WPL.jnI rfl rfl sbb Imp.pk
    refine stp ?_
    apply WPL.joinO (e' := [(0, _), (2, _), (3, _), (4, _), (5, _), (8, _), (9, _)]) 51 54 3 rfl
    · intro g8_12
      try simp only [decide_eq_true_eq, decide_eq_false_iff_not, beq_iff_eq, bne_iff_ne, beq_eq_false_iff_ne, bne_eq_false_iff_eq, Bool.not_eq_true', Bool.not_eq_false', Bool.not_eq_eq_eq_not, Bool.not_true, Bool.not_false, ne_eq, Decidable.not_not, Int.not_lt, Int.not_le, gt_iff_lt, ge_iff_le] at g8_12
      refine L_no rfl rfl rfl rfl ?_
      refine L_no rfl rfl rfl rfl ?_
      refine stp ?_
      first | exact WPL.jn rfl rfl sbb | exact WPL.jnI rfl rfl sbb Imp.pk
    · intro g8_12
      try simp only [decide_eq_true_eq, decide_eq_false_iff_not, beq_iff_eq, bne_iff_ne, beq_eq_false_iff_ne, bne_eq_false_iff_eq, Bool.not_eq_true', Bool.not_eq_false', Bool.not_eq_eq_eq_not, Bool.not_true, Bool.not_false, ne_eq, Decidable.not_not, Int.not_lt, Int.not_le, gt_iff_lt, ge_iff_le] at g8_12
      iterate 2 refine stpY rfl rfl ?_
      refine stp ?_
      first | exact WPL.jn rfl rfl sbb | exact WPL.jnI rfl rfl sbb Imp.pk
    refine stp ?_
    apply WPL.joinO (e' := [(0, _), (2, _), (3, _), (4, _), (5, _), (8, _)]) 55 61 6 rfl
    · intro g8_16
      try simp only [decide_eq_true_eq, decide_eq_false_iff_not, beq_iff_eq, bne_iff_ne, beq_eq_false_iff_ne, bne_eq_false_iff_eq, Bool.not_eq_true', Bool.not_eq_false', Bool.not_eq_eq_eq_not, Bool.not_true, Bool.not_false, ne_eq, Decidable.not_not, Int.not_lt, Int.not_le, gt_iff_lt, ge_iff_le] at g8_16
      refine L_no rfl rfl rfl rfl ?_
      refine L_no rfl rfl rfl rfl ?_
      refine L_no rfl rfl rfl rfl ?_
      refine L_no rfl rfl rfl rfl ?_
      refine L_no rfl rfl rfl rfl ?_
      refine stp ?_
      first | exact WPL.jn rfl rfl sbb | exact WPL.jnI rfl rfl sbb Imp.pk
    · intro g8_16
      try simp only [decide_eq_true_eq, decide_eq_false_iff_not, beq_iff_eq, bne_iff_ne, beq_eq_false_iff_ne, bne_eq_false_iff_eq, Bool.not_eq_true', Bool.not_eq_false', Bool.not_eq_eq_eq_not, Bool.not_true, Bool.not_false, ne_eq, Decidable.not_not, Int.not_lt, Int.not_le, gt_iff_lt, ge_iff_le] at g8_16
      iterate 2 refine stpY rfl rfl ?_
      refine L_yes rfl rfl (q_sliceHi (j := 52) sl_sl_uint8 rfl rfl (by omega)) rfl ?_
      refine L_eyes rfl rfl rfl (C1.call (c_call Tryd.func91 rfl rfl rfl) (c_Sum (p := false) s1 (by omega)) pkk rfl ?_)
      rintro _ _ ⟨rfl, rfl⟩
      refine WPL.putS ?_
      refine stpY rfl rfl ?_
      refine stp ?_
      first | exact WPL.jn rfl rfl sbb | exact WPL.jnI rfl rfl sbb Imp.pk
    refine WPL.nil ?_
    refine WPC.cond rfl (fun h1 => ?_) (fun h1 => ?_)
    · simp only [Bool.or_eq_true, beq_iff_eq, bne_iff_ne, ne_eq, decide_eq_true_eq] at h1
      have hp : parse s.1 = none := by unfold parse; rw [if_pos (by simp only [num]; omega)]
      refine WPC.seqR ?_
      iterate 4 refine stp ?_
      refine WPL.nil ?_
      refine WPC.ret ?_
      refine thenQ_r ?_
      rw [hp]
      exact endR_r rfl (.tmp rfl (.tmp rfl (.tmp rfl (.tmp rfl .nil)))) Imp.pk ⟨rfl, rfl⟩
    · simp only [Bool.or_eq_false_iff, beq_eq_false_iff_ne, bne_eq_false_iff_eq, ne_eq, decide_eq_false_iff_not] at h1
      have hp : parse s.1 = some (num s.1 0 4, num s.1 4 4, part s.1 9 (num s.1 8 1)) := by unfold parse; rw [if_neg (by simp only [num]; omega)]
      have hn43 : ofLE (part s.1 8 1) ≤ 43 := by omega
      have s3 := hs.cutB (l := 9) (k := 9 + ofLE (part s.1 8 1)) (m := c) (by omega) (by omega) (by omega)
      rw [Nat.add_sub_cancel_left] at s3
      refine WPC.skip ?_
      refine thenQ_n ?_
      refine WPC.seqR ?_
      iterate 4 refine stp ?_
      refine L_s (q_addN (a := 9) (b := ofLE (part s.1 8 1)) rfl rfl (by omega)) rfl ?_
      refine L_s (q_sliceLH (l := 9) (j := 9 + ofLE (part s.1 8 1)) sl_sl_uint8 rfl rfl rfl (by omega) (by omega)) rfl ?_
      rw [Nat.add_sub_cancel_left]
      have i3 := Imp.cutRo hs (l := 9) (k := 9 + ofLE (part s.1 8 1)) (m := c) (Γ := []) (by omega) (by omega) (by omega)
      rw [Nat.add_sub_cancel_left] at i3
      refine WPL.imp ((Imp.pk).trans i3) ?_
      refine kall rfl (c_CloneB (p := false) s3 (by omega)) ?_
      rintro _ _ ⟨a', c', rfl, rfl⟩
      refine WPL.bufRo fun hs' => ?_
      iterate 4 refine stp ?_
      refine WPL.nil ?_
      refine WPC.ret ?_
      rw [hp]
      have hpl : (part s.1 9 (ofLE (part s.1 8 1))).length = ofLE (part s.1 8 1) := by
        show ((s.1.drop 9).take _).length = _
        rw [List.length_take, List.length_drop]; omega
      exact endR_r rfl (.tmp rfl (.tmp rfl (.tmp rfl (.tmp rfl .nil)))) Imp.pk ⟨a', c', by simp only [packV]; rw [hpl], by rw [hpl]; exact hs', rfl⟩

end Go.Sl
/- Walks: disks. -/
namespace Go.Sl
open Go Go.RowKit Go.Proofs
set_option linter.unusedSimpArgs false
set_option linter.unusedVariables false
attribute [local irreducible] faB szB ldB zB zL slB mkB arB plB intB cells objc star stars buf slv grp whole Sat WPC WPL WPA WPO WPQ Trip Q1 E1 S1 C1

theorem c_done {b : Nat} {d : DK} {L : DL} (hf : -9223372036854775808 ≤ d.fuse ∧ d.fuse ≤ 9223372036854775807) : Trip Tryd.prog 41 #[.pointer (some ⟨b, 0, none⟩)] [cells true b 0 (diskC d L)] fun r Δ => r = .bool (!d.done.down) ∧ Δ = [cells true b 0 (diskC d.done L)] := by
  obtain ⟨seen, sure, pend, fuse, down⟩ := d
  dsimp only at hf
  dsimp only [diskC, DK.done]
  refine Trip.start 35 [.tmp 2] [(0, .pointer (some ⟨b, 0, none⟩))] Tryd.func41 rfl Tryd.ntmps41 rfl ⟨rfl, trivial⟩ rfl ?_
  refine WPC.seqR ?_
  refine stp ?_
  refine WPL.nil ?_
  refine WPC.seqR ?_
  iterate 6 refine stp ?_
  apply WPL.joinO (e' := [(0, _), (2, _), (3, _)]) 8 14 6 rfl
  · intro g1_5
    try simp only [decide_eq_true_eq, decide_eq_false_iff_not, beq_iff_eq, bne_iff_ne, beq_eq_false_iff_ne, bne_eq_false_iff_eq, Bool.not_eq_true', Bool.not_eq_false', Bool.not_eq_eq_eq_not, Bool.not_true, Bool.not_false, ne_eq, Decidable.not_not, Int.not_lt, Int.not_le, gt_iff_lt, ge_iff_le] at g1_5
    refine L_no rfl rfl rfl rfl ?_
    refine L_no rfl rfl rfl rfl ?_
    refine L_no rfl rfl rfl rfl ?_
    refine L_no rfl rfl rfl rfl ?_
    refine L_no rfl rfl rfl rfl ?_
    refine stp ?_
    first | exact WPL.jn rfl rfl sbb | exact WPL.jnI rfl rfl sbb Imp.pk
  · intro g1_5
    try simp only [decide_eq_true_eq, decide_eq_false_iff_not, beq_iff_eq, bne_iff_ne, beq_eq_false_iff_ne, bne_eq_false_iff_eq, Bool.not_eq_true', Bool.not_eq_false', Bool.not_eq_eq_eq_not, Bool.not_true, Bool.not_false, ne_eq, Decidable.not_not, Int.not_lt, Int.not_le, gt_iff_lt, ge_iff_le] at g1_5
    iterate 5 refine stpY rfl rfl ?_
    refine stp ?_
    first | exact WPL.jn rfl rfl sbb | exact WPL.jnI rfl rfl sbb Imp.pk
  iterate 2 refine stp ?_
  refine sto ?_
  refine WPL.nil ?_
  refine WPC.seqD mixed ?_
  refine atP 0 rfl ?_
  refine atP 1 rfl ?_
  refine atP 2 rfl ?_
  refine atL 3 rfl ?_
  refine atP 4 rfl ?_
  refine atP 5 rfl ?_
  refine atP 6 rfl ?_
  refine atL 7 rfl ?_
  refine atP 8 rfl ?_
  refine atP 9 rfl ?_
  refine atP 10 rfl ?_
  refine atP 11 rfl ?_
  refine atP 12 rfl ?_
  refine WPA.oneE 13 [] (by kernel_rfl) rfl rfl (by repeat (first | exact .nil | refine .anc rfl ?_ | refine .keep mm ?_)) (S1.wpo (s_store1k sz_int rfl rfl rfl rfl uu (by repeat constructor)) rfl ?_)
  refine ⟨(.nil _), ?_⟩
  refine WPA.putN ?_
  refine WPA.done (by kernel_rfl) ?_
  refine WPC.seqR ?_
  iterate 6 refine stp ?_
  refine WPL.nil ?_
  refine WPC.ret ?_
  exact endR_r rfl (.tmp rfl .nil) Imp.pk ⟨rfl, rfl⟩

theorem c_has_ {b : Nat} {d : DK} {L : DL} (i : Int) : Trip Tryd.prog 87 #[.pointer (some ⟨b, 0, none⟩), .int .i64 i] [cells true b 0 (diskC d L)] fun r Δ => r = .bool (decide (0 ≤ i) && decide (i < (d.seen.length : Int))) ∧ Δ = [cells true b 0 (diskC d L)] := by
  refine Trip.start 16 [.tmp 4] [(0, .pointer (some ⟨b, 0, none⟩)), (1, .int .i64 i)] Tryd.func87 rfl Tryd.ntmps87 rfl ⟨rfl, rfl, trivial⟩ rfl ?_
  refine WPC.seqR ?_
  refine stp ?_
  refine WPL.nil ?_
  refine WPC.seqR ?_
  iterate 3 refine stp ?_
  apply WPL.joinA (e' := [(4, _)]) 7 15 8 rfl
  · intro g1_2
    try simp only [decide_eq_true_eq, decide_eq_false_iff_not, beq_iff_eq, bne_iff_ne, beq_eq_false_iff_ne, bne_eq_false_iff_eq, Bool.not_eq_true', Bool.not_eq_false', Bool.not_eq_eq_eq_not, Bool.not_true, Bool.not_false, ne_eq, Decidable.not_not, Int.not_lt, Int.not_le, gt_iff_lt, ge_iff_le] at g1_2
    iterate 7 refine stpY rfl rfl ?_
    refine stp ?_
    first | exact WPL.jn rfl rfl sbb | exact WPL.jnI rfl rfl sbb Imp.pk
  · intro g1_2
    try simp only [decide_eq_true_eq, decide_eq_false_iff_not, beq_iff_eq, bne_iff_ne, beq_eq_false_iff_ne, bne_eq_false_iff_eq, Bool.not_eq_true', Bool.not_eq_false', Bool.not_eq_eq_eq_not, Bool.not_true, Bool.not_false, ne_eq, Decidable.not_not, Int.not_lt, Int.not_le, gt_iff_lt, ge_iff_le] at g1_2
    refine L_no rfl rfl rfl rfl ?_
    refine L_no rfl rfl rfl rfl ?_
    refine L_no rfl rfl rfl rfl ?_
    refine L_no rfl rfl rfl rfl ?_
    refine L_no rfl rfl rfl rfl ?_
    refine L_no rfl rfl rfl rfl ?_
    refine L_no rfl rfl rfl rfl ?_
    refine stp ?_
    first | exact WPL.jn rfl rfl sbb | exact WPL.jnI rfl rfl sbb Imp.pk
  refine stp ?_
  refine WPL.nil ?_
  refine WPC.ret ?_
  exact endR_r rfl (.tmp rfl .nil) Imp.pk ⟨rfl, rfl⟩

theorem c_DLen {b : Nat} {d : DK} {L : DL} : Trip Tryd.prog 60 #[.pointer (some ⟨b, 0, none⟩)] [cells true b 0 (diskC d L)] fun r Δ => r = .int .i64 (d.seen.length : Int) ∧ Δ = [cells true b 0 (diskC d L)] := by
  refine Trip.start 8 [.tmp 2] [(0, .pointer (some ⟨b, 0, none⟩))] Tryd.func60 rfl Tryd.ntmps60 rfl ⟨rfl, trivial⟩ rfl ?_
  refine WPC.seqR ?_
  refine stp ?_
  refine WPL.nil ?_
  refine WPC.seqR ?_
  iterate 6 refine stp ?_
  refine WPL.nil ?_
  refine WPC.ret ?_
  exact endR_r rfl (.tmp rfl .nil) Imp.pk ⟨rfl, rfl⟩

theorem c_Down {b : Nat} {d : DK} {L : DL} : Trip Tryd.prog 33 #[.pointer (some ⟨b, 0, none⟩)] [cells true b 0 (diskC d L)] fun r Δ => r = .bool d.down ∧ Δ = [cells true b 0 (diskC d L)] := by
  refine Trip.start 7 [.tmp 2] [(0, .pointer (some ⟨b, 0, none⟩))] Tryd.func33 rfl Tryd.ntmps33 rfl ⟨rfl, trivial⟩ rfl ?_
  refine WPC.seqR ?_
  refine stp ?_
  refine WPL.nil ?_
  refine WPC.seqR ?_
  iterate 5 refine stp ?_
  refine WPL.nil ?_
  refine WPC.ret ?_
  exact endR_r rfl (.tmp rfl .nil) Imp.pk ⟨rfl, rfl⟩

theorem c_Pending {b : Nat} {d : DK} {L : DL} : Trip Tryd.prog 15 #[.pointer (some ⟨b, 0, none⟩)] [cells true b 0 (diskC d L)] fun r Δ => r = .int .i64 (d.pend.length : Int) ∧ Δ = [cells true b 0 (diskC d L)] := by
  refine Trip.start 8 [.tmp 2] [(0, .pointer (some ⟨b, 0, none⟩))] Tryd.func15 rfl Tryd.ntmps15 rfl ⟨rfl, trivial⟩ rfl ?_
  refine WPC.seqR ?_
  refine stp ?_
  refine WPL.nil ?_
  refine WPC.seqR ?_
  iterate 6 refine stp ?_
  refine WPL.nil ?_
  refine WPC.ret ?_
  exact endR_r rfl (.tmp rfl .nil) Imp.pk ⟨rfl, rfl⟩

theorem c_Fuse {b : Nat} {d : DK} {L : DL} (f : Int) : Trip Tryd.prog 17 #[.pointer (some ⟨b, 0, none⟩), .int .i64 f] [cells true b 0 (diskC d L)] fun r Δ => r = .tuple #[] ∧ Δ = [cells true b 0 (diskC { d with fuse := f } L)] := by
  obtain ⟨seen, sure, pend, fuse, down⟩ := d
  refine Trip.start 8 [] [(0, .pointer (some ⟨b, 0, none⟩)), (1, .int .i64 f)] Tryd.func17 rfl Tryd.ntmps17 rfl ⟨rfl, rfl, trivial⟩ rfl ?_
  refine WPC.region ?_
  iterate 4 refine stp ?_
  refine sto ?_
  refine WPL.nil ?_
  exact endR_n rfl .nil Imp.pk ⟨rfl, rfl⟩

theorem c_CloneS {p : Bool} {a : Option Addr} {n c : Nat} {xs : List Sec} (hs : Sok 64 a n c (xs.flatMap encS)) (hn : n ≤ 512) : Trip Tryd.prog 34 #[.slice a n c] [sl p a (xs.flatMap encS)] fun r Δ => ∃ a' c', r = .slice a' n c' ∧ Δ = [buf 64 a' n c' (xs.flatMap encS), sl p a (xs.flatMap encS)] := by
  refine Trip.start 8 [.tmp 2] [(0, .slice a n c)] Tryd.func34 rfl Tryd.ntmps34 rfl ⟨rfl, trivial⟩ rfl ?_
  refine WPC.seqR ?_
  refine stp ?_
  refine WPL.nil ?_
  refine WPC.seq ?_
  refine WPC.seqR ?_
  iterate 2 refine stp ?_
  refine WPL.nil ?_
  refine WPC.cond rfl (fun h0 => ?_) (fun h0 => ?_)
  · simp only [Option.isNone_iff_eq_none] at h0
    have h1 := hs.none0 (by omega) h0
    subst h0 h1
    have h2 : xs.flatMap encS = [] := List.eq_nil_of_length_eq_zero (by simpa using hs.len)
    rw [h2]
    refine WPC.seqR ?_
    refine stp ?_
    refine WPL.nil ?_
    refine WPC.ret ?_
    refine thenQ_r ?_
    exact endR_r rfl (.tmp rfl .nil) (Imp.bufNil.trans Imp.pk) ⟨none, 0, rfl, rfl⟩
  · skip
    refine WPC.skip ?_
    refine thenQ_n ?_
    refine WPC.seqR ?_
    refine nwb [] fun b1 => ?_
    refine stp ?_
    refine WPL.imp (Imp.bufNew (sz := 64) (n := 0) (cs := []) rfl) ?_
    refine WPL.cons rfl (E1.wpo (e_append (n := 0) (cs := []) mk_sl_disk_sector (by decide) rfl rfl (Pick1.here (c := buf 64 (some ⟨b1, 0, none⟩) 0 0 [])) (Rd.mem hs (hs.none0 (by omega)) (p := p) mm) (flatS_one xs) (by omega) (by omega)) rfl ?_)
    rintro _ _ ⟨a', c', rfl, -, rfl⟩
    simp only [Nat.zero_add, List.nil_append]
    refine WPL.putS ?_
    refine stp ?_
    refine WPL.nil ?_
    refine WPC.ret ?_
    exact endR_r rfl (.tmp rfl .nil) Imp.pk ⟨a', c', rfl, rfl⟩

theorem c_DNewErr {i : Int} (hi : i < 1 ∨ 512 < i) : Trip Tryd.prog 22 #[.int .i64 i] [] fun r Δ => r = .tuple #[.pointer none, .int .i64 1] ∧ Δ = [] := by
  refine Trip.start 16 [.tmp 2, .tmp 3] [(0, .int .i64 i)] Tryd.func22 rfl Tryd.ntmps22 rfl ⟨rfl, trivial⟩ rfl ?_
  refine WPC.seqR ?_
  iterate 2 refine stp ?_
  refine WPL.nil ?_
  refine WPC.seq ?_
  refine WPC.seqR ?_
  iterate 3 refine stp ?_
  apply WPL.joinO (e' := [(0, _), (2, _), (3, _)]) 6 9 3 rfl
  · intro g1_2
    try simp only [decide_eq_true_eq, decide_eq_false_iff_not, beq_iff_eq, bne_iff_ne, beq_eq_false_iff_ne, bne_eq_false_iff_eq, Bool.not_eq_true', Bool.not_eq_false', Bool.not_eq_eq_eq_not, Bool.not_true, Bool.not_false, ne_eq, Decidable.not_not, Int.not_lt, Int.not_le, gt_iff_lt, ge_iff_le] at g1_2
    refine L_no rfl rfl rfl rfl ?_
    refine L_no rfl rfl rfl rfl ?_
    refine stp ?_
    first | exact WPL.jn rfl rfl sbb | exact WPL.jnI rfl rfl sbb Imp.pk
  · intro g1_2
    try simp only [decide_eq_true_eq, decide_eq_false_iff_not, beq_iff_eq, bne_iff_ne, beq_eq_false_iff_ne, bne_eq_false_iff_eq, Bool.not_eq_true', Bool.not_eq_false', Bool.not_eq_eq_eq_not, Bool.not_true, Bool.not_false, ne_eq, Decidable.not_not, Int.not_lt, Int.not_le, gt_iff_lt, ge_iff_le] at g1_2
    iterate 2 refine stpY rfl rfl ?_
    refine stp ?_
    first | exact WPL.jn rfl rfl sbb | exact WPL.jnI rfl rfl sbb Imp.pk
  refine WPL.nil ?_
  refine WPC.cond rfl (fun h0 => ?_) (fun h0 => ?_)
  · skip
    refine WPC.seqR ?_
    iterate 2 refine stp ?_
    refine WPL.nil ?_
    refine WPC.ret ?_
    refine thenQ_r ?_
    exact endR_r rfl (.tmp rfl (.tmp rfl .nil)) Imp.pk ⟨rfl, rfl⟩
  · try simp only [decide_eq_true_eq, decide_eq_false_iff_not, beq_iff_eq, bne_iff_ne, beq_eq_false_iff_ne, bne_eq_false_iff_eq, Bool.not_eq_true', Bool.not_eq_false', Bool.not_eq_eq_eq_not, Bool.not_true, Bool.not_false, ne_eq, Decidable.not_not, Int.not_lt, Int.not_le, gt_iff_lt, ge_iff_le] at h0
    simp only [Bool.or_eq_false_iff, decide_eq_false_iff_not] at h0
    omega

theorem c_DNew {k : Nat} (hk : 1 ≤ k ∧ k ≤ 512) : Trip Tryd.prog 22 #[.int .i64 (k : Int)] [] fun r Δ => ∃ b, r = .tuple #[.pointer (some ⟨b, 0, none⟩), .int .i64 0] ∧ Δ = [disk b (DK.new k)] := by
  refine Trip.start 16 [.tmp 2, .tmp 3] [(0, .int .i64 (k : Int))] Tryd.func22 rfl Tryd.ntmps22 rfl ⟨rfl, trivial⟩ rfl ?_
  refine WPC.seqR ?_
  iterate 2 refine stp ?_
  refine WPL.nil ?_
  refine WPC.seq ?_
  refine WPC.seqR ?_
  iterate 3 refine stp ?_
  apply WPL.joinO (e' := [(0, _), (2, _), (3, _)]) 6 9 3 rfl
  · intro g1_2
    try simp only [decide_eq_true_eq, decide_eq_false_iff_not, beq_iff_eq, bne_iff_ne, beq_eq_false_iff_ne, bne_eq_false_iff_eq, Bool.not_eq_true', Bool.not_eq_false', Bool.not_eq_eq_eq_not, Bool.not_true, Bool.not_false, ne_eq, Decidable.not_not, Int.not_lt, Int.not_le, gt_iff_lt, ge_iff_le] at g1_2
    refine L_no rfl rfl rfl rfl ?_
    refine L_no rfl rfl rfl rfl ?_
    refine stp ?_
    first | exact WPL.jn rfl rfl sbb | exact WPL.jnI rfl rfl sbb Imp.pk
  · intro g1_2
    try simp only [decide_eq_true_eq, decide_eq_false_iff_not, beq_iff_eq, bne_iff_ne, beq_eq_false_iff_ne, bne_eq_false_iff_eq, Bool.not_eq_true', Bool.not_eq_false', Bool.not_eq_eq_eq_not, Bool.not_true, Bool.not_false, ne_eq, Decidable.not_not, Int.not_lt, Int.not_le, gt_iff_lt, ge_iff_le] at g1_2
    iterate 2 refine stpY rfl rfl ?_
    refine stp ?_
    first | exact WPL.jn rfl rfl sbb | exact WPL.jnI rfl rfl sbb Imp.pk
  refine WPL.nil ?_
  refine WPC.cond rfl (fun h0 => ?_) (fun h0 => ?_)
  · try simp only [decide_eq_true_eq, decide_eq_false_iff_not, beq_iff_eq, bne_iff_ne, beq_eq_false_iff_ne, bne_eq_false_iff_eq, Bool.not_eq_true', Bool.not_eq_false', Bool.not_eq_eq_eq_not, Bool.not_true, Bool.not_false, ne_eq, Decidable.not_not, Int.not_lt, Int.not_le, gt_iff_lt, ge_iff_le] at h0
    simp only [Bool.or_eq_true, decide_eq_true_eq] at h0
    omega
  · skip
    refine WPC.skip ?_
    refine thenQ_n ?_
    refine WPC.seqD mixed ?_
    refine atP 0 rfl ?_
    refine atP 2 rfl ?_
    refine WPA.two 1 3 (by kernel_rfl) ?_ ?_
    · refine Eff.mk 1 [] rfl rfl (by repeat (first | exact .nil | refine .anc rfl ?_ | refine .keep mm ?_)) (E1.wpo (e_make (n := (k : Int)) (c := (k : Int)) mk_sl_disk_sector (by decide) rfl rfl (by omega) (by omega) (by omega) (by omega)) rfl ?_)
      rintro _ _ ⟨bs, rfl, rfl⟩
      rw [show ((k : Int)).toNat = k by omega, show repZ (List.replicate 64 (.int .u8 0)) k = (List.replicate k Sec.zero).flatMap encS from zeros_flat k _ rfl]
      refine ⟨(.nil _), ?_⟩
      refine WPA.putS ?_
      refine WPA.oneE 3 [] (by kernel_rfl) rfl rfl (by repeat (first | exact .nil | refine .anc rfl ?_ | refine .keep mm ?_)) (E1.wpo (e_make (n := (k : Int)) (c := (k : Int)) mk_sl_disk_sector (by decide) rfl rfl (by omega) (by omega) (by omega) (by omega)) rfl ?_)
      rintro _ _ ⟨bu, rfl, rfl⟩
      rw [show ((k : Int)).toNat = k by omega, show repZ (List.replicate 64 (.int .u8 0)) k = (List.replicate k Sec.zero).flatMap encS from zeros_flat k _ rfl]
      refine ⟨(.nil _), ?_⟩
      refine WPA.putS ?_
      refine WPA.takeP 4 rfl (q_build (cs := [_, _, _, _, _]) pl_disk_Disk rfl rfl) (by kernel_rfl) (by kernel_rfl) (by kernel_rfl) rfl rfl (.nil _) ?_
      refine WPA.putS ?_
      first | refine WPA.oneE 5 [] (by kernel_rfl) rfl rfl (by repeat (first | exact .nil | refine .anc rfl ?_ | refine .keep mm ?_)) (E1.wpo (e_boxN rfl) rfl ?_) | refine WPA.oneE 5 [] (by kernel_rfl) rfl rfl (by repeat (first | exact .nil | refine .anc rfl ?_ | refine .keep mm ?_)) (E1.wpo (e_box1 rfl rfl) rfl ?_)
      rintro _ _ ⟨bd, rfl, rfl⟩
      refine ⟨(.nil _), ?_⟩
      refine WPA.putS ?_
      refine atP 6 rfl ?_
      refine atP 7 rfl ?_
      refine WPA.done (by kernel_rfl) ?_
      refine WPC.ret ?_
      have hl : ((List.replicate k Sec.zero).flatMap encS).length = k * 64 := by rw [flat_length encS_len]; simp
      have hz : (DK.new k).seen.length = k := by simp [DK.new]
      have hz2 : (DK.new k).sure.length = k := by simp [DK.new]
      have hc := disk_close (b := bd) (d := DK.new k) ⟨some ⟨bs, 0, none⟩, k, some ⟨bu, 0, none⟩, k, none, 0⟩ ⟨by rw [hz]; exact ⟨hl, Nat.le_refl _, .inr (Pl.mk _ _)⟩, by rw [hz2]; exact ⟨hl, Nat.le_refl _, .inr (Pl.mk _ _)⟩⟩ (Γ := [])
      simp only [diskC, hz, hz2] at hc
      exact endR_r rfl (.tmp rfl (.tmp rfl .nil)) (Imp.bufNil.trans ((Imp.pk).trans hc)) ⟨bd, rfl, rfl⟩
    · refine Eff.mk 3 [] rfl rfl (by repeat (first | exact .nil | refine .anc rfl ?_ | refine .keep mm ?_)) (E1.wpo (e_make (n := (k : Int)) (c := (k : Int)) mk_sl_disk_sector (by decide) rfl rfl (by omega) (by omega) (by omega) (by omega)) rfl ?_)
      rintro _ _ ⟨bu, rfl, rfl⟩
      rw [show ((k : Int)).toNat = k by omega, show repZ (List.replicate 64 (.int .u8 0)) k = (List.replicate k Sec.zero).flatMap encS from zeros_flat k _ rfl]
      refine ⟨(.nil _), ?_⟩
      refine WPA.putS ?_
      refine WPA.oneE 1 [] (by kernel_rfl) rfl rfl (by repeat (first | exact .nil | refine .anc rfl ?_ | refine .keep mm ?_)) (E1.wpo (e_make (n := (k : Int)) (c := (k : Int)) mk_sl_disk_sector (by decide) rfl rfl (by omega) (by omega) (by omega) (by omega)) rfl ?_)
      rintro _ _ ⟨bs, rfl, rfl⟩
      rw [show ((k : Int)).toNat = k by omega, show repZ (List.replicate 64 (.int .u8 0)) k = (List.replicate k Sec.zero).flatMap encS from zeros_flat k _ rfl]
      refine ⟨(.nil _), ?_⟩
      refine WPA.putS ?_
      refine WPA.takeP 4 rfl (q_build (cs := [_, _, _, _, _]) pl_disk_Disk rfl rfl) (by kernel_rfl) (by kernel_rfl) (by kernel_rfl) rfl rfl (.nil _) ?_
      refine WPA.putS ?_
      first | refine WPA.oneE 5 [] (by kernel_rfl) rfl rfl (by repeat (first | exact .nil | refine .anc rfl ?_ | refine .keep mm ?_)) (E1.wpo (e_boxN rfl) rfl ?_) | refine WPA.oneE 5 [] (by kernel_rfl) rfl rfl (by repeat (first | exact .nil | refine .anc rfl ?_ | refine .keep mm ?_)) (E1.wpo (e_box1 rfl rfl) rfl ?_)
      rintro _ _ ⟨bd, rfl, rfl⟩
      refine ⟨(.nil _), ?_⟩
      refine WPA.putS ?_
      refine atP 6 rfl ?_
      refine atP 7 rfl ?_
      refine WPA.done (by kernel_rfl) ?_
      refine WPC.ret ?_
      have hl : ((List.replicate k Sec.zero).flatMap encS).length = k * 64 := by rw [flat_length encS_len]; simp
      have hz : (DK.new k).seen.length = k := by simp [DK.new]
      have hz2 : (DK.new k).sure.length = k := by simp [DK.new]
      have hc := disk_close (b := bd) (d := DK.new k) ⟨some ⟨bs, 0, none⟩, k, some ⟨bu, 0, none⟩, k, none, 0⟩ ⟨by rw [hz]; exact ⟨hl, Nat.le_refl _, .inr (Pl.mk _ _)⟩, by rw [hz2]; exact ⟨hl, Nat.le_refl _, .inr (Pl.mk _ _)⟩⟩ (Γ := [])
      simp only [diskC, hz, hz2] at hc
      exact endR_r rfl (.tmp rfl (.tmp rfl .nil)) (Imp.bufNil.trans ((Imp.pk).trans hc)) ⟨bd, rfl, rfl⟩

end Go.Sl
/- Walks: writing, reading, syncing. -/
namespace Go.Sl
open Go Go.RowKit Go.Proofs
set_option linter.unusedSimpArgs false
set_option linter.unusedVariables false
attribute [local irreducible] faB szB ldB zB zL slB mkB arB plB intB cells objc star stars buf slv grp whole Sat WPC WPL WPA WPO WPQ Trip Q1 E1 S1 C1

theorem c_Write {b c : Nat} {d : DK} {a : Option Addr} {i : Int} {xs : List By} (hok : d.ok) (hpl : d.pend.length < 1000000) (hs : Sok 1 a xs.length c (xs.map u8)) : Trip Tryd.prog 64 #[.pointer (some ⟨b, 0, none⟩), .int .i64 i, .slice a xs.length c] [disk b d, sl false a (xs.map u8)] fun r Δ => r = .int .i64 (d.write i xs).2 ∧ Δ = [disk b (d.write i xs).1] := by
  refine disk_open fun L hL => ?_
  obtain ⟨sa, sc, ua, uc, pa, pc⟩ := L
  obtain ⟨hS, hU⟩ := hL
  dsimp only at hS hU
  refine Trip.start 45 [.tmp 6] [(0, .pointer (some ⟨b, 0, none⟩)), (1, .int .i64 i), (2, .slice a xs.length c)] Tryd.func64 rfl Tryd.ntmps64 rfl ⟨rfl, rfl, rfl, trivial⟩ rfl ?_
  refine WPC.seqR ?_
  refine stp ?_
  refine WPL.nil ?_
  refine WPC.seq ?_
  refine WPC.block ?_
  refine WPC.seqR ?_
  iterate 2 refine stp ?_
  refine kall rfl (c_has_ (L := (⟨sa, sc, ua, uc, pa, pc⟩ : DL)) i) ?_
  rintro _ _ ⟨rfl, rfl⟩
  iterate 2 refine stp ?_
  refine WPL.nil ?_
  refine WPC.cond rfl (fun h0 => ?_) (fun h0 => ?_)
  · have ew : d.write i xs = (d, 40) := by unfold DK.write; rw [if_pos (by simp at h0; omega)]
    rw [ew]
    refine WPC.seqR ?_
    refine stp ?_
    refine WPL.nil ?_
    refine WPC.ret ?_
    refine blockQ_r ?_
    refine thenQ_r ?_
    exact endR_r rfl (.tmp rfl .nil) ((Imp.pk).trans (disk_close (b := b) (d := d) (⟨sa, sc, ua, uc, pa, pc⟩ : DL) ⟨hS, hU⟩ (Γ := []))) ⟨rfl, rfl⟩
  · have hin : 0 ≤ i ∧ i < (d.seen.length : Int) := by simpa using h0
    obtain ⟨k, rfl⟩ : ∃ k : Nat, i = (k : Int) := ⟨i.toNat, by omega⟩
    have hk : k < d.seen.length := by omega
    refine WPC.seqR ?_
    iterate 4 refine stp ?_
    refine WPL.nil ?_
    refine WPC.cond rfl (fun h1 => ?_) (fun h1 => ?_)
    · have ew : d.write k xs = (d, 2) := by unfold DK.write; rw [if_neg (by omega), if_pos (by simp at h1; omega)]
      rw [ew]
      refine WPC.seqR ?_
      refine stp ?_
      refine WPL.nil ?_
      refine WPC.ret ?_
      refine blockQ_r ?_
      refine thenQ_r ?_
      exact endR_r rfl (.tmp rfl .nil) ((Imp.pk).trans (disk_close (b := b) (d := d) (⟨sa, sc, ua, uc, pa, pc⟩ : DL) ⟨hS, hU⟩ (Γ := []))) ⟨rfl, rfl⟩
    · have hx64 : xs.length ≤ 64 := by simp at h1; omega
      refine WPC.seqR ?_
      refine stp ?_
      refine kall rfl (c_done (L := (⟨sa, sc, ua, uc, pa, pc⟩ : DL)) hok.fr) ?_
      rintro _ _ ⟨rfl, rfl⟩
      iterate 2 refine stp ?_
      refine WPL.nil ?_
      refine WPC.cond rfl (fun h2 => ?_) (fun h2 => ?_)
      · have ew : d.write k xs = (d.done, 43) := by unfold DK.write; rw [if_neg (by omega), if_neg (by omega), if_pos (by simpa using h2)]
        rw [ew]
        refine WPC.seqR ?_
        refine stp ?_
        refine WPL.nil ?_
        refine WPC.ret ?_
        refine blockQ_r ?_
        refine thenQ_r ?_
        exact endR_r rfl (.tmp rfl .nil) ((Imp.pk).trans (disk_close (b := b) (d := d.done) (⟨sa, sc, ua, uc, pa, pc⟩ : DL) ⟨hS, hU⟩ (Γ := []))) ⟨rfl, rfl⟩
      · have ew : d.write k xs = ((d.done.put k (pad xs)), 0) := by unfold DK.write; rw [if_neg (by omega), if_neg (by omega), if_neg (by simpa using h2), Int.toNat_natCast]
        rw [ew]
        refine WPC.skip ?_
        refine blockQ_n ?_
        refine thenQ_n ?_
        refine WPC.seqR ?_
        refine stp ?_
        refine L_s (show Q1 _ _ _ _ (.agg (encW (k, Sec.zero)).toArray) from q_build (cs := encW (k, Sec.zero)) pl_disk_write rfl rfl) rfl ?_
        refine nw fun bw => ?_
        refine WPL.cons rfl (S1.wpo (s_storeAll (us := encW (k, Sec.zero)) sz_disk_write rfl rfl (encW_one _) (encW_len _) rfl uu) rfl ?_)
        refine WPL.putN ?_
        refine WPL.nil ?_
        refine WPC.seqR ?_
        refine stp ?_
        refine L_s (q_sliceAll ar_disk_sector rfl) rfl ?_
        refine stp ?_
        refine WPL.cons rfl (E1.wpo (e_copyRd (b := bw) (o := 0) (i := 1) (vs := encW (k, Sec.zero)) (news := xs.map u8) sl_sl_uint8 rfl rfl (Rd.mem (p := false) hs (hs.none0 (by omega)) mm) (by omega) (u8_one _) (by rw [encW_len]; omega) uu) rfl ?_)
        rintro _ _ ⟨rfl, rfl⟩
        rw [Nat.mul_one, pad_copy k xs hx64]
        refine WPL.putS ?_
        refine WPL.nil ?_
        refine WPC.seqD mixed ?_
        refine atP 0 rfl ?_
        refine atP 1 rfl ?_
        refine atP 2 rfl ?_
        have hp : Pl sa := hS.at (by omega) (by omega)
        refine atL 3 rfl ?_
        refine atP 4 rfl ?_
        refine atP 5 rfl ?_
        refine WPA.takeL 6 rfl (Ent.mem mm) (q_loadN (b := bw) (o := 0) (i := 1) (us := encS (pad xs)) ld_disk_sector rfl (.head _) rfl (encS_len _) (drop_encW k (pad xs))) (by kernel_rfl) (by kernel_rfl) (by kernel_rfl) rfl rfl (.cons (Ent.mem mm) (.nil _)) ?_
        refine WPA.putS ?_
        refine WPA.takeP 7 rfl (q_idxN (i := k) sl_sl_disk_sector rfl rfl hk hp) (by kernel_rfl) (by kernel_rfl) (by kernel_rfl) rfl rfl (.cons (Ent.mem mm) (.cons (Ent.mem mm) (.nil _))) ?_
        refine WPA.putS ?_
        refine WPA.oneE 8 [] (by kernel_rfl) rfl rfl (by repeat (first | exact .nil | refine .anc rfl ?_ | refine .keep mm ?_)) (S1.wpo (s_storeFlat (xs := d.seen) (enc := encS) (e := pad xs) sz_disk_sector rfl rfl (encS_one _) encS_len hk uu) rfl ?_)
        refine ⟨(.nil _), ?_⟩
        refine WPA.putN ?_
        refine WPA.done (by kernel_rfl) ?_
        refine WPC.seqD mixed ?_
        refine atP 0 rfl ?_
        refine atP 1 rfl ?_
        refine atP 2 rfl ?_
        refine atP 3 rfl ?_
        refine atL 4 rfl ?_
        refine WPA.takeL 5 rfl (Ent.mem mm) (q_loadAll (vs := encW (k, pad xs)) ld_disk_write rfl (.head _) (encW_len _)) (by kernel_rfl) (by kernel_rfl) (by kernel_rfl) rfl rfl (.cons (Ent.mem mm) (.nil _)) ?_
        refine WPA.putS ?_
        refine WPA.oneE 6 [(4, [_])] (by kernel_rfl) rfl rfl (by repeat (first | exact .nil | refine .anc rfl ?_ | refine .keep mm ?_)) (E1.wpo (e_buildOne (cs := encW (k, pad xs)) mk_sl_disk_write (by decide) rfl rfl (encW_len _)) rfl ?_)
        rintro _ _ ⟨bE, rfl, rfl⟩
        refine ⟨(.cons (Ent.mem mm) (.nil _)), ?_⟩
        refine WPA.putS ?_
        refine WPA.oneE 7 [] (by kernel_rfl) rfl rfl (by repeat (first | exact .nil | refine .anc rfl ?_ | refine .keep mm ?_)) (E1.wpo (e_append (m := 1) (news := encW (k, pad xs)) mk_sl_disk_write (by decide) rfl rfl pk1 (Rd.part (i := 0) (b := bE) (o := 0) (vs := encW (k, pad xs)) mm rfl (encW_len _) (by rw [List.drop_zero]; exact List.take_of_length_le (Nat.le_refl _))) (encW_one _) (by show d.pend.length + 1 ≤ _; omega) (by show (d.pend.length + 1) * _ ≤ _; omega)) rfl ?_)
        rintro _ _ ⟨a3, c3, rfl, -, rfl⟩
        refine ⟨(.nil _), ?_⟩
        refine WPA.putS ?_
        refine atP 8 rfl ?_
        refine atP 9 rfl ?_
        refine WPA.oneE 10 [] (by kernel_rfl) rfl rfl (by repeat (first | exact .nil | refine .anc rfl ?_ | refine .keep mm ?_)) (S1.wpo (s_store1k sz_sl_disk_write rfl rfl rfl rfl uu (by repeat constructor)) rfl ?_)
        refine ⟨(.nil _), ?_⟩
        refine WPA.putN ?_
        refine WPA.done (by kernel_rfl) ?_
        refine WPC.seqR ?_
        refine stp ?_
        refine WPL.nil ?_
        refine WPC.prune [(6, _)] sbb ?_
        refine WPC.ret ?_
        have hc := disk_close (b := b) (d := (d.done.put k (pad xs))) ⟨sa, sc, ua, uc, a3, c3⟩ ⟨⟨by rw [flat_length encS_len], by have := hS.cap; simpa [DK.put, DK.done] using this, .inr hp⟩, hU⟩ (Γ := [])
        simp only [diskC, DK.put, List.length_set, List.length_append, List.length_singleton, flat_snoc] at hc
        exact endR_r rfl (.tmp rfl .nil) ((Imp.pk).trans hc) ⟨rfl, rfl⟩

theorem c_DRead {b : Nat} {d : DK} {i : Int} : Trip Tryd.prog 85 #[.pointer (some ⟨b, 0, none⟩), .int .i64 i] [disk b d] fun r Δ => match d.read i with | some s => (∃ a c, r = .tuple #[.slice a 64 c, .int .i64 0] ∧ Sok 1 a 64 c (s.1.map u8) ∧ Δ = [disk b d, sl false a (s.1.map u8)]) | none => r = .tuple #[.slice none 0 0, .int .i64 40] ∧ Δ = [disk b d] := by
  refine disk_open fun L hL => ?_
  obtain ⟨sa, sc, ua, uc, pa, pc⟩ := L
  obtain ⟨hS, hU⟩ := hL
  dsimp only at hS hU
  refine Trip.start 18 [.tmp 4, .tmp 5] [(0, .pointer (some ⟨b, 0, none⟩)), (1, .int .i64 i)] Tryd.func85 rfl Tryd.ntmps85 rfl ⟨rfl, rfl, trivial⟩ rfl ?_
  refine WPC.seqR ?_
  iterate 2 refine stp ?_
  refine WPL.nil ?_
  refine WPC.seq ?_
  refine WPC.seqR ?_
  iterate 2 refine stp ?_
  refine kall rfl (c_has_ (L := (⟨sa, sc, ua, uc, pa, pc⟩ : DL)) i) ?_
  rintro _ _ ⟨rfl, rfl⟩
  refine stp ?_
  refine WPL.nil ?_
  refine WPC.cond rfl (fun h0 => ?_) (fun h0 => ?_)
  · have ew : d.read i = none := by unfold DK.read; rw [if_neg (by simp at h0; omega)]
    rw [ew]
    refine WPC.seqR ?_
    iterate 2 refine stp ?_
    refine WPL.nil ?_
    refine WPC.ret ?_
    refine thenQ_r ?_
    exact endR_r rfl (.tmp rfl (.tmp rfl .nil)) ((Imp.pk).trans (disk_close (b := b) (d := d) (⟨sa, sc, ua, uc, pa, pc⟩ : DL) ⟨hS, hU⟩ (Γ := []))) ⟨rfl, rfl⟩
  · have hin : 0 ≤ i ∧ i < (d.seen.length : Int) := by simpa using h0
    obtain ⟨k, rfl⟩ : ∃ k : Nat, i = (k : Int) := ⟨i.toNat, by omega⟩
    have hk : k < d.seen.length := by omega
    obtain ⟨s, hsx⟩ : ∃ s, d.seen[k]? = some s := ⟨d.seen[k], by simp [hk]⟩
    have ew : d.read k = some s := by unfold DK.read; rw [if_pos hin, Int.toNat_natCast, hsx]
    rw [ew]
    have hp : Pl sa := hS.at (by omega) (by omega)
    refine WPC.skip ?_
    refine thenQ_n ?_
    refine WPC.seqR ?_
    iterate 5 refine stp ?_
    refine L_s (q_idxN (i := k) sl_sl_disk_sector rfl rfl hk hp) rfl ?_
    refine L_s (q_sliceAll ar_disk_sector rfl) rfl ?_
    refine WPL.imp ((Imp.pk (Δ := [sl true sa (d.seen.flatMap encS), cells true b 0 (diskC d (⟨sa, sc, ua, uc, pa, pc⟩ : DL)), sl true ua (d.sure.flatMap encS), buf 65 pa d.pend.length pc (d.pend.flatMap encW)])).trans (flat_focus (i := k) encS_len hsx)) ?_
    refine kall rfl (c_CloneB (p := true) (a := some ⟨blk sa, off sa + k * 64, none⟩) (n := 64) (c := 64) (xs := s.1) ⟨by rw [List.length_map, s.2], Nat.le_refl _, .inr (Pl.mk _ _)⟩ (by omega)) ?_
    rintro _ _ ⟨a', c', rfl, rfl⟩
    refine WPL.bufRo fun hs' => ?_
    iterate 2 refine stp ?_
    refine WPL.nil ?_
    refine WPC.ret ?_
    have hput := flat_put (p := true) (b := blk sa) (o := off sa) (xs := d.seen) (y := s) encS_len hk (Γ := [cells true b 0 (diskC d (⟨sa, sc, ua, uc, pa, pc⟩ : DL)), sl true ua (d.sure.flatMap encS), buf 65 pa d.pend.length pc (d.pend.flatMap encW), sl false a' (s.1.map u8)])
    rw [set_self hsx] at hput
    exact endR_r rfl (.tmp rfl (.tmp rfl .nil)) ((Imp.pk (Δ := [sl true (some ⟨blk sa, off sa + k * 64, none⟩) (s.1.map u8), flatBut true (blk sa) (off sa) k 64 d.seen encS, cells true b 0 (diskC d (⟨sa, sc, ua, uc, pa, pc⟩ : DL)), sl true ua (d.sure.flatMap encS), buf 65 pa d.pend.length pc (d.pend.flatMap encW), sl false a' (s.1.map u8)])).trans (hput.trans ((Imp.pk).trans (disk_close (b := b) (d := d) (⟨sa, sc, ua, uc, pa, pc⟩ : DL) ⟨hS, hU⟩ (Γ := [sl false a' (s.1.map u8)]))))) ⟨a', c', rfl, hs', rfl⟩

theorem c_Sync {b : Nat} {d : DK} (hok : d.ok) (hpl : d.pend.length < 1000000) : Trip Tryd.prog 14 #[.pointer (some ⟨b, 0, none⟩)] [disk b d] fun r Δ => r = .tuple #[] ∧ Δ = [disk b d.sync] := by
  refine disk_open fun L hL => ?_
  obtain ⟨sa, sc, ua, uc, pa, pc⟩ := L
  obtain ⟨hS, hU⟩ := hL
  dsimp only at hS hU
  refine Trip.start 29 [] [(0, .pointer (some ⟨b, 0, none⟩))] Tryd.func14 rfl Tryd.ntmps14 rfl ⟨rfl, trivial⟩ rfl ?_
  refine WPC.seq ?_
  refine WPC.seqR ?_
  refine stp ?_
  refine kall rfl (c_done (L := (⟨sa, sc, ua, uc, pa, pc⟩ : DL)) hok.fr) ?_
  rintro _ _ ⟨rfl, rfl⟩
  refine stp ?_
  refine WPL.nil ?_
  refine WPC.cond rfl (fun h0 => ?_) (fun h0 => ?_)
  · have ew : d.sync = d.done := by unfold DK.sync; rw [if_pos (by simpa using h0)]
    rw [ew]
    refine WPC.ret ?_
    refine thenQ_r ?_
    exact endR_r rfl .nil ((Imp.pk).trans (disk_close (b := b) (d := d.done) (⟨sa, sc, ua, uc, pa, pc⟩ : DL) ⟨hS, hU⟩ (Γ := []))) ⟨rfl, rfl⟩
  · have ew : d.sync = { d.done with sure := flush d.sure d.pend, pend := [] } := by unfold DK.sync; rw [if_neg (by simpa using h0)]
    rw [ew]
    refine WPC.skip ?_
    refine thenQ_n ?_
    refine WPC.seq ?_
    refine WPC.seqR ?_
    iterate 5 refine stp ?_
    refine WPL.imp (Imp.pk (Δ := [buf 65 pa d.pend.length pc (d.pend.flatMap encW), cells true b 0 (diskC d.done (⟨sa, sc, ua, uc, pa, pc⟩ : DL)), sl true sa (d.seen.flatMap encS), sl true ua (d.sure.flatMap encS)])) ?_
    refine WPL.bufSl fun hP => ?_
    refine stp ?_
    refine WPL.nil ?_
    refine WPC.block ?_
    refine WPC.loopS (fun m e Γ => ∃ (k : Nat) (us : List Sec), m = d.pend.length - k ∧ k ≤ d.pend.length ∧ us.length = d.sure.length ∧ flush us (d.pend.drop k) = flush d.sure d.pend ∧ e = [(0, .pointer (some ⟨b, 0, none⟩)), (10, .slice pa d.pend.length pc), (11, .int .i64 (d.pend.length : Int)), (12, .int .i64 (k : Int))] ∧ Γ = [cells true b 0 (diskC d.done (⟨sa, sc, ua, uc, pa, pc⟩ : DL)), sl true sa (d.seen.flatMap encS), sl true ua (us.flatMap encS), sl true pa (d.pend.flatMap encW)]) (d.pend.length) ⟨0, d.sure, rfl, by omega, rfl, rfl, rfl, rfl⟩ sbb Imp.pk ?_
    rintro m e Γ ⟨k, us, rfl, hk, hul, hfl, rfl, rfl⟩
    refine WPC.seqR ?_
    refine stp ?_
    refine WPL.nil ?_
    refine WPC.seq ?_
    refine WPC.cond rfl (fun h1 => ?_) (fun h1 => ?_)
    · simp only [decide_eq_true_eq, Int.ofNat_lt] at h1
      have hp : Pl pa := hP.at (by omega) (by omega)
      obtain ⟨w, hw⟩ : ∃ w, d.pend[k]? = some w := ⟨d.pend[k], by simp [h1]⟩
      have hwi : w.1 < d.sure.length := by rw [hok.same]; exact hok.idx w (List.mem_of_getElem? hw)
      have hpu : Pl ua := hU.at (by omega) (by omega)
      rw [drop_step hw] at hfl
      refine WPC.skip ?_
      refine thenQ_n ?_
      refine WPC.seq ?_
      refine WPC.block ?_
      refine WPC.seqR ?_
      refine L_s (q_idxN (i := k) sl_sl_disk_write rfl rfl h1 hp) rfl ?_
      refine L_s (q_ldFlat ld_disk_write rfl mm encW_len hw) rfl ?_
      refine nw fun bw => ?_
      refine WPL.cons rfl (S1.wpo (s_storeAll (us := encW w) sz_disk_write rfl rfl (encW_one _) (encW_len _) rfl uu) rfl ?_)
      refine WPL.putN ?_
      refine WPL.nil ?_
      refine WPC.draw mixed ?_
      refine atP 0 rfl ?_
      refine atP 1 rfl ?_
      refine atP 2 rfl ?_
      refine atL 3 rfl ?_
      refine atP 4 rfl ?_
      refine atL 5 rfl ?_
      refine atP 6 rfl ?_
      refine WPA.takeL 7 rfl (Ent.mem mm) (q_loadN (b := bw) (o := 0) (i := 1) (us := encS w.2) ld_disk_sector rfl (.head _) rfl (encS_len _) (drop_encW w.1 w.2)) (by kernel_rfl) (by kernel_rfl) (by kernel_rfl) rfl rfl (.cons (Ent.mem mm) (.cons (Ent.mem mm) (.nil _))) ?_
      refine WPA.putS ?_
      refine WPA.takeP 8 rfl (q_idxN (i := w.1) sl_sl_disk_sector rfl rfl (show w.1 < d.done.sure.length from hwi) hpu) (by kernel_rfl) (by kernel_rfl) (by kernel_rfl) rfl rfl (.cons (Ent.mem mm) (.cons (Ent.mem mm) (.cons (Ent.mem mm) (.nil _)))) ?_
      refine WPA.putS ?_
      refine WPA.oneE 9 [] (by kernel_rfl) rfl rfl (by repeat (first | exact .nil | refine .anc rfl ?_ | refine .keep mm ?_)) (S1.wpo (s_storeFlat (xs := us) (enc := encS) (e := w.2) sz_disk_sector rfl rfl (encS_one _) encS_len (by omega) uu) rfl ?_)
      refine ⟨(.nil _), ?_⟩
      refine WPA.putN ?_
      refine WPA.done (by kernel_rfl) ?_
      refine blockQ_n ?_
      refine thenQ_n ?_
      refine WPC.region ?_
      iterate 2 refine stp ?_
      refine WPL.nil ?_
      refine thenQ_n ?_
      exact ⟨rfl, _, _, _, by omega, ⟨k + 1, us.set w.1 w.2, rfl, by omega, by rw [List.length_set]; exact hul, hfl, rfl, rfl⟩, sbb, Imp.pk⟩
    · simp only [decide_eq_false_iff_not, Int.ofNat_lt] at h1
      rw [List.drop_eq_nil_of_le (by omega)] at hfl
      have hfl2 : us = flush d.sure d.pend := hfl
      refine WPC.exit ?_
      refine thenQ_e ?_
      refine thenQ_e ?_
      refine blockQ_here ?_
      refine thenQ_n ?_
      refine WPC.region ?_
      iterate 3 refine stp ?_
      refine sto ?_
      refine WPL.nil ?_
      have hc := disk_close (b := b) (d := { d.done with sure := us, pend := [] }) ⟨sa, sc, ua, uc, none, 0⟩ ⟨hS, ⟨flat_length encS_len _, by rw [hul]; exact hU.cap, by rcases hU.pl with h | h; (left; rw [List.eq_nil_of_length_eq_zero (l := us.flatMap encS) (by rw [flat_length encS_len, hul, ← flat_length encS_len, h]; rfl)]); exact .inr h⟩⟩ (Γ := [])
      simp only [diskC, hul] at hc
      rw [← hfl2]
      exact endR_n rfl .nil (Imp.bufNil.trans ((Imp.pk).trans hc)) ⟨rfl, rfl⟩

end Go.Sl
/- Walks: crashes. -/
namespace Go.Sl
open Go Go.RowKit Go.Proofs
set_option linter.unusedSimpArgs false
set_option linter.unusedVariables false
attribute [local irreducible] faB szB ldB zB zL slB mkB arB plB intB cells objc star stars buf slv grp whole Sat WPC WPL WPA WPO WPQ Trip Q1 E1 S1 C1

theorem c_Crash {b c : Nat} {d : DK} {q : Bool} {a : Option Addr} {ps : List Int} (hok : d.ok) (hpl : d.pend.length < 1000000) (hs : Sok 1 a ps.length c (ps.map (.int .i64))) : Trip Tryd.prog 9 #[.pointer (some ⟨b, 0, none⟩), .slice a ps.length c] [disk b d, sl q a (ps.map (.int .i64))] fun r Δ => r = .tuple #[] ∧ Δ = [disk b (d.crash ps), sl q a (ps.map (.int .i64))] := by
  refine disk_open fun L hL => ?_
  obtain ⟨sa, sc, ua, uc, pa, pc⟩ := L
  obtain ⟨hS, hU⟩ := hL
  dsimp only at hS hU
  refine Trip.start 57 [] [(0, .pointer (some ⟨b, 0, none⟩)), (1, .slice a ps.length c)] Tryd.func9 rfl Tryd.ntmps9 rfl ⟨rfl, rfl, trivial⟩ rfl ?_
  refine WPC.seq ?_
  refine WPC.seqR ?_
  iterate 4 refine stp ?_
  refine WPL.imp (Imp.pk (Δ := [buf 65 pa d.pend.length pc (d.pend.flatMap encW), cells true b 0 (diskC d (⟨sa, sc, ua, uc, pa, pc⟩ : DL)), sl true sa (d.seen.flatMap encS), sl true ua (d.sure.flatMap encS), sl q a (ps.map (.int .i64))])) ?_
  refine WPL.bufSl fun hP => ?_
  iterate 2 refine stp ?_
  refine WPL.nil ?_
  refine WPC.block ?_
  refine WPC.loopS (fun m e Γ => ∃ (k : Nat) (us : List Sec), m = d.pend.length - k ∧ k ≤ d.pend.length ∧ us.length = d.sure.length ∧ crashL us (d.pend.drop k) (ps.drop k) = crashL d.sure d.pend ps ∧ e = [(0, .pointer (some ⟨b, 0, none⟩)), (1, .slice a ps.length c), (10, .slice pa d.pend.length pc), (11, .int .i64 (d.pend.length : Int)), (12, .int .i64 (k : Int))] ∧ Γ = [cells true b 0 (diskC d (⟨sa, sc, ua, uc, pa, pc⟩ : DL)), sl true sa (d.seen.flatMap encS), sl true ua (us.flatMap encS), sl true pa (d.pend.flatMap encW), sl q a (ps.map (.int .i64))]) (d.pend.length) ⟨0, d.sure, rfl, by omega, rfl, rfl, rfl, rfl⟩ sbb Imp.pk ?_
  rintro m e Γ ⟨k, us, rfl, hk, hul, hfl, rfl, rfl⟩
  refine WPC.seqR ?_
  refine stp ?_
  refine WPL.nil ?_
  refine WPC.seq ?_
  refine WPC.cond rfl (fun h0 => ?_) (fun h0 => ?_)
  · simp only [decide_eq_true_eq, Int.ofNat_lt] at h0
    have hp : Pl pa := hP.at (by omega) (by omega)
    obtain ⟨w, hw⟩ : ∃ w, d.pend[k]? = some w := ⟨d.pend[k], by simp [h0]⟩
    have hwi : w.1 < d.sure.length := by rw [hok.same]; exact hok.idx w (List.mem_of_getElem? hw)
    have hpu : Pl ua := hU.at (by omega) (by omega)
    obtain ⟨s, hsu⟩ : ∃ s, us[w.1]? = some s := ⟨us[w.1]'(by omega), by simp⟩
    rw [drop_step hw] at hfl
    simp only [crashL, hsu, Option.getD_some, List.tail_drop] at hfl
    have hpv : (pickOf (ps.drop k)) ≤ 64 := pickOf_le _
    refine WPC.skip ?_
    refine thenQ_n ?_
    refine WPC.seq ?_
    refine WPC.block ?_
    refine WPC.seqR ?_
    refine stp ?_
    refine L_s (q_idxN (i := k) sl_sl_disk_write rfl rfl h0 hp) rfl ?_
    refine L_s (q_ldFlat ld_disk_write rfl mm encW_len hw) rfl ?_
    refine nw fun bw => ?_
    refine stp ?_
    refine WPL.cons rfl (S1.wpo (s_storeAll (us := encW w) sz_disk_write rfl rfl (encW_one _) (encW_len _) rfl uu) rfl ?_)
    refine WPL.putN ?_
    refine WPL.nil ?_
    refine WPC.seqR ?_
    refine stp ?_
    refine WPL.nil ?_
    refine WPC.seq ?_
    refine WPC.seqR ?_
    iterate 4 refine stp ?_
    refine WPL.nil ?_
    refine WPC.midS (fun e Γ => e = [(0, .pointer (some ⟨b, 0, none⟩)), (1, .slice a ps.length c), (5, .pointer (some ⟨bw, 0, none⟩)), (6, .int .i64 ((pickOf (ps.drop k)) : Int)), (10, .slice pa d.pend.length pc), (11, .int .i64 (d.pend.length : Int)), (12, .int .i64 (k : Int))] ∧ Γ = cells true bw 0 (encW w) :: [cells true b 0 (diskC d (⟨sa, sc, ua, uc, pa, pc⟩ : DL)), sl true sa (d.seen.flatMap encS), sl true ua (us.flatMap encS), sl true pa (d.pend.flatMap encW), sl q a (ps.map (.int .i64))]) ?_ ?_
    · refine WPC.cond rfl (fun h1 => ?_) (fun h1 => ?_)
      · simp only [decide_eq_true_eq, Int.ofNat_lt] at h1
        have hpa : Pl a := hs.at (by omega) (by omega)
        obtain ⟨pv, hpx⟩ : ∃ pv, ps[k]? = some pv := ⟨ps[k], by simp [h1]⟩
        have hpe : ((pickOf (ps.drop k)) : Int) = max 0 (min pv 64) := by rw [drop_step hpx]; simp only [pickOf]; omega
        refine WPC.region ?_
        iterate 2 refine stp ?_
        refine L_s (q_idxN (i := k) sl_sl_int rfl rfl h1 hpa) rfl ?_
        refine L_s (q_ldMap ld_int rfl mm hpx) rfl ?_
        iterate 2 refine stp ?_
        rw [← hpe]
        refine stp ?_
        refine WPL.nil ?_
        refine thenQ_n ?_
        exact ⟨rfl, _, _, ⟨rfl, rfl⟩, sbb, Imp.pk⟩
      · simp only [decide_eq_false_iff_not, Int.ofNat_lt] at h1
        have hpe : (pickOf (ps.drop k)) = 0 := by rw [List.drop_eq_nil_of_le (by omega)]; rfl
        rw [hpe]
        refine WPC.skip ?_
        refine thenQ_n ?_
        exact ⟨rfl, _, _, ⟨rfl, rfl⟩, sbb, Imp.pk⟩
    · rintro e Γ ⟨rfl, rfl⟩
      refine WPC.draw mixed ?_
      refine atP 0 rfl ?_
      refine atP 1 rfl ?_
      refine atP 2 rfl ?_
      refine atL 3 rfl ?_
      refine atP 4 rfl ?_
      refine atL 5 rfl ?_
      refine WPA.takeP 6 rfl (q_idxN (i := w.1) sl_sl_disk_sector rfl rfl (show w.1 < d.sure.length from hwi) hpu) (by kernel_rfl) (by kernel_rfl) (by kernel_rfl) rfl rfl (.cons (Ent.mem mm) (.cons (Ent.mem mm) (.nil _))) ?_
      refine WPA.putS ?_
      refine WPA.takeP 7 rfl (q_sliceAll ar_disk_sector rfl) (by kernel_rfl) (by kernel_rfl) (by kernel_rfl) rfl rfl (.cons (Ent.mem mm) (.cons (Ent.mem mm) (.nil _))) ?_
      refine WPA.putS ?_
      refine atP 8 rfl ?_
      refine atP 9 rfl ?_
      refine WPA.takeP 10 rfl (q_sliceAHi (j := (pickOf (ps.drop k))) ar_disk_sector rfl rfl hpv) (by kernel_rfl) (by kernel_rfl) (by kernel_rfl) rfl rfl (.cons (Ent.mem mm) (.cons (Ent.mem mm) (.nil _))) ?_
      refine WPA.putS ?_
      refine WPA.imp ((Imp.pk (Δ := [sl true ua (us.flatMap encS), cells true bw 0 (encW w), cells true b 0 (diskC d (⟨sa, sc, ua, uc, pa, pc⟩ : DL)), sl true sa (d.seen.flatMap encS), sl true pa (d.pend.flatMap encW), sl q a (ps.map (.int .i64))])).trans (flat_focus (i := w.1) encS_len hsu)) ?_
      refine WPA.oneE 11 [] (by kernel_rfl) rfl rfl (by repeat (first | exact .nil | refine .anc rfl ?_ | refine .keep mm ?_)) (E1.wpo (e_copyRd (b := blk ua) (o := off ua + w.1 * 64) (i := 0) (m := (pickOf (ps.drop k))) (vs := encS s) (news := (encS w.2).take (pickOf (ps.drop k))) sl_sl_uint8 rfl rfl (Rd.part (i := 1) (b := bw) (o := 0) (vs := encW w) mm rfl (by rw [List.length_take, encS_len]; omega) (take_part w (pickOf (ps.drop k)))) hpv (take_one _ _ (encS_one _)) (by rw [encS_len]; omega) uu) rfl ?_)
      rintro _ _ ⟨rfl, rfl⟩
      rw [Nat.mul_one, Nat.zero_add, List.take_zero, List.nil_append, torn_enc]
      refine ⟨(.nil _), ?_⟩
      refine WPA.putS ?_
      refine WPA.done (by kernel_rfl) ?_
      refine blockQ_n ?_
      refine thenQ_n ?_
      refine WPC.region ?_
      refine WPL.imp ((Imp.pk (Δ := [cells true (blk ua) (off ua + w.1 * 64) (encS (torn (pickOf (ps.drop k)) w.2 s)), flatBut true (blk ua) (off ua) w.1 64 us encS, cells true b 0 (diskC d (⟨sa, sc, ua, uc, pa, pc⟩ : DL)), sl true sa (d.seen.flatMap encS), sl true pa (d.pend.flatMap encW), sl q a (ps.map (.int .i64))])).trans (flat_put (i := w.1) (xs := us) (y := torn (pickOf (ps.drop k)) w.2 s) encS_len (by omega))) ?_
      iterate 2 refine stp ?_
      refine WPL.nil ?_
      refine thenQ_n ?_
      exact ⟨rfl, _, _, _, by omega, ⟨k + 1, us.set w.1 (torn (pickOf (ps.drop k)) w.2 s), rfl, by omega, by rw [List.length_set]; exact hul, hfl, rfl, rfl⟩, sbb, Imp.pk⟩
  · simp only [decide_eq_false_iff_not, Int.ofNat_lt] at h0
    rw [List.drop_eq_nil_of_le (by omega)] at hfl
    have hfl2 : us = crashL d.sure d.pend ps := hfl
    refine WPC.exit ?_
    refine thenQ_e ?_
    refine thenQ_e ?_
    refine blockQ_here ?_
    refine thenQ_n ?_
    refine WPC.seqR ?_
    iterate 5 refine stp ?_
    refine sto ?_
    iterate 2 refine stp ?_
    refine sto ?_
    iterate 2 refine stp ?_
    refine sto ?_
    refine WPL.nil ?_
    refine WPC.region ?_
    iterate 5 refine stp ?_
    refine kall rfl (c_CloneS (p := true) (xs := us) (n := d.sure.length) (c := uc) ⟨by rw [flat_length encS_len, hul], hU.cap, by rcases hU.pl with h | h; (left; exact List.eq_nil_of_length_eq_zero (by rw [flat_length encS_len, hul, ← flat_length encS_len, h]; rfl)); exact .inr h⟩ (by rw [hok.same]; exact hok.n)) ?_
    rintro _ _ ⟨a', c', rfl, rfl⟩
    refine WPL.bufSl fun hs' => ?_
    iterate 2 refine stp ?_
    refine sto ?_
    refine WPL.nil ?_
    have hU2 : Sok 64 ua us.length uc (us.flatMap encS) := ⟨flat_length encS_len _, by rw [hul]; exact hU.cap, by rcases hU.pl with h | h; (left; exact List.eq_nil_of_length_eq_zero (by rw [flat_length encS_len, hul, ← flat_length encS_len, h]; rfl)); exact .inr h⟩
    have hc := disk_close (b := b) (d := ⟨us, us, [], -1, false⟩) ⟨a', c', ua, uc, none, 0⟩ ⟨by rw [← hul] at hs'; exact hs', hU2⟩ (Γ := [sl q a (ps.map (.int .i64))])
    simp only [diskC, hul] at hc
    unfold DK.crash
    rw [← hfl2]
    exact endR_n rfl .nil (Imp.bufNil.trans ((Imp.pk).trans hc)) ⟨rfl, rfl⟩

end Go.Sl
/- Walks: slots. -/
namespace Go.Sl
open Go Go.RowKit Go.Proofs
set_option linter.unusedSimpArgs false
set_option linter.unusedVariables false
attribute [local irreducible] faB szB ldB zB zL slB mkB arB plB intB cells objc star stars buf slv grp whole Sat WPC WPL WPA WPO WPQ Trip Q1 E1 S1 C1

theorem c_ParseU {a : Option Addr} {c : Nat} (s : Sec) (hs : Sok 1 a 64 c (s.1.map u8)) : Trip Tryd.prog 86 #[.slice a 64 c] [sl false a (s.1.map u8), tblA] fun r Δ => ∃ a' c', r = .tuple #[.int .u32 (pS s.1 : Int), .int .u32 (pE s.1 : Int), .slice a' (pB s.1).length c', .bool (pOk s.1)] ∧ Sok 1 a' (pB s.1).length c' ((pB s.1).map u8) ∧ Δ = [sl false a' ((pB s.1).map u8)] := by
  have h := c_Parse s hs
  unfold pS pE pB pOk
  cases hp : parse s.1 with
  | some t =>
    obtain ⟨x, y, z⟩ := t
    rw [hp] at h
    exact h
  | none =>
    rw [hp] at h
    unfold Trip at h ⊢
    intro F w t
    refine (h F w t).mono ?_
    rintro e w' ⟨v, Δ, rfl, ⟨rfl, rfl⟩, t', ad⟩
    exact ⟨_, _, rfl, ⟨none, 0, rfl, ⟨rfl, Nat.le_refl _, .inl rfl⟩, rfl⟩, Imp.slEmpty _ _ t', ad⟩
theorem c_DReadOk {b : Nat} {d : DK} {i : Int} {s : Sec} (hr : d.read i = some s) : Trip Tryd.prog 85 #[.pointer (some ⟨b, 0, none⟩), .int .i64 i] [disk b d] fun r Δ => ∃ a c, r = .tuple #[.slice a 64 c, .int .i64 0] ∧ Sok 1 a 64 c (s.1.map u8) ∧ Δ = [disk b d, sl false a (s.1.map u8)] := by
  have h := c_DRead (b := b) (d := d) (i := i)
  rw [hr] at h
  exact h

theorem c_right {b : Nat} {d : DK} {i : Int} (hi : i < 9223372036854775807) (hd : d.ok) : Trip Tryd.prog 83 #[.pointer (some ⟨b, 0, none⟩), .int .i64 i] [disk b d] fun r Δ => r = .bool (right_ d i) ∧ Δ = [disk b d] := by
  refine disk_open fun L hL => ?_
  have hdn := hd.n
  refine Trip.start 14 [.tmp 4] [(0, .pointer (some ⟨b, 0, none⟩)), (1, .int .i64 i)] Tryd.func83 rfl Tryd.ntmps83 rfl ⟨rfl, rfl, trivial⟩ rfl ?_
  refine WPC.seqR ?_
  refine stp ?_
  refine WPL.nil ?_
  refine WPC.seqR ?_
  iterate 3 refine stp ?_
  apply WPL.joinA (e' := [(4, _)]) 7 13 6 rfl
  · intro g1_2
    try simp only [decide_eq_true_eq, decide_eq_false_iff_not, beq_iff_eq, bne_iff_ne, beq_eq_false_iff_ne, bne_eq_false_iff_eq, Bool.not_eq_true', Bool.not_eq_false', Bool.not_eq_eq_eq_not, Bool.not_true, Bool.not_false, ne_eq, Decidable.not_not, Int.not_lt, Int.not_le, gt_iff_lt, ge_iff_le] at g1_2
    iterate 2 refine stpY rfl rfl ?_
    refine L_eyes rfl rfl rfl (C1.call (c_call Tryd.func60 rfl rfl rfl) (c_DLen (d := d) (L := L)) pkk rfl ?_)
    rintro _ _ ⟨rfl, rfl⟩
    refine WPL.putS ?_
    iterate 2 refine stpY rfl rfl ?_
    refine stp ?_
    first | exact WPL.jn rfl rfl sbb | exact WPL.jnI rfl rfl sbb Imp.pk
  · intro g1_2
    try simp only [decide_eq_true_eq, decide_eq_false_iff_not, beq_iff_eq, bne_iff_ne, beq_eq_false_iff_ne, bne_eq_false_iff_eq, Bool.not_eq_true', Bool.not_eq_false', Bool.not_eq_eq_eq_not, Bool.not_true, Bool.not_false, ne_eq, Decidable.not_not, Int.not_lt, Int.not_le, gt_iff_lt, ge_iff_le] at g1_2
    refine L_no rfl rfl rfl rfl ?_
    refine L_no rfl rfl rfl rfl ?_
    refine L_no rfl rfl rfl rfl ?_
    refine L_no rfl rfl rfl rfl ?_
    refine L_no rfl rfl rfl rfl ?_
    refine stp ?_
    first | exact WPL.jn rfl rfl sbb | exact WPL.jnI rfl rfl sbb Imp.pk
  refine stp ?_
  refine WPL.nil ?_
  refine WPC.ret ?_
  exact endR_r rfl (.tmp rfl .nil) ((Imp.pk).trans (disk_close L hL (Γ := []))) ⟨by simp only [packV, right_], rfl⟩

theorem c_records1 {l bo b1 b2 db : Nat} {rec : Loop} {p1 p2 : Bool} {d : DK} {i : Int} {out : SR} (hi : 0 ≤ i ∧ i + 1 < (d.seen.length : Int)) (hd : d.ok) (hY : ∀ (x : SR) (a : Option Addr) (c : Nat) (out : SR), Sok 1 a x.b.length c (x.b.map u8) → YTrip Tryd.prog l #[(.agg #[.int .i64 x.at_, .int .u32 (x.seq : Int), .slice a x.b.length c])] [objc true l (.loop rec), outA bo out, sl false a (x.b.map u8)] (fun v Δ => v = .bool true ∧ Δ = [objc true l (.loop rec), outA bo (if out.seq < x.seq then x else out)])) : Trip Tryd.prog 94 #[.func (.yield l) #[] #[], .pointer (some ⟨b1, 0, none⟩), .pointer (some ⟨b2, 0, none⟩)] [objc true l (.loop rec), outA bo (lastK d i out 0), cells p1 b1 0 [.int .i64 i], cells p2 b2 0 [.pointer (some ⟨db, 0, none⟩)], disk db d, tblA] fun r Δ => r = .tuple #[] ∧ Δ = [objc true l (.loop rec), outA bo (lastK d i out 2), disk db d] := by
  have hdn := hd.n
  refine Trip.start 45 [] [(0, .func (.yield l) #[] #[]), (1, .pointer (some ⟨b1, 0, none⟩)), (2, .pointer (some ⟨b2, 0, none⟩))] Tryd.func94 rfl Tryd.ntmps94 rfl ⟨rfl, rfl, rfl, trivial⟩ rfl ?_
  refine WPC.seqR ?_
  iterate 2 refine stp ?_
  refine WPL.nil ?_
  refine WPC.block ?_
  refine WPC.loopS (fun m e Γ => ∃ (k : Nat) (v : Int), m = 3 - k ∧ k ≤ 2 ∧ v = i + (k : Int) ∧ e = [(0, .func (.yield l) #[] #[]), (1, .pointer (some ⟨b1, 0, none⟩)), (2, .pointer (some ⟨b2, 0, none⟩)), (4, .int .i64 v)] ∧ Γ = [objc true l (.loop rec), outA bo (lastK d i out k), cells p1 b1 0 [.int .i64 i], cells p2 b2 0 [.pointer (some ⟨db, 0, none⟩)], disk db d, tblA]) (3) ⟨0, i, rfl, by omega, by simp, rfl, rfl⟩ sbb Imp.pk ?_
  rintro m e Γ ⟨k, v, rfl, hk, hv, rfl, rfl⟩
  refine WPC.seq ?_
  refine WPC.seqR ?_
  iterate 4 refine stp ?_
  refine WPL.nil ?_
  refine WPC.cond rfl (fun h0 => ?_) (fun h0 => ?_)
  · simp only [decide_eq_true_eq] at h0
    have hk2 : k < 2 := by omega
    obtain ⟨s, hr⟩ := read_in (d := d) (i := v) (by omega)
    have hst := lastStep_of (out := lastK d i out k) hr
    refine WPC.skip ?_
    refine thenQ_n ?_
    refine WPC.seq ?_
    refine WPC.block ?_
    refine WPC.seqR ?_
    iterate 2 refine stp ?_
    refine kall rfl (c_DReadOk hr) ?_
    rintro _ _ ⟨a, c, rfl, hs, rfl⟩
    iterate 5 refine stp ?_
    refine WPL.nil ?_
    refine WPC.seqR ?_
    refine stp ?_
    refine kall rfl (c_ParseU s hs) ?_
    rintro _ _ ⟨a', c', rfl, hb, rfl⟩
    iterate 9 refine stp ?_
    refine WPL.nil ?_
    refine WPC.prune [(0, _), (1, _), (2, _), (4, _), (5, _), (7, _), (8, _), (9, _), (10, _), (12, _), (13, _), (14, _), (15, _), (18, _), (19, _), (20, _), (21, _), (22, _), (23, _), (24, _), (25, _), (26, _), (27, _), (28, _), (29, _), (30, _)] sbb ?_
    refine WPC.seqCutS (fun e Γ => e = [(0, .func (.yield l) #[] #[]), (1, .pointer (some ⟨b1, 0, none⟩)), (2, .pointer (some ⟨b2, 0, none⟩)), (4, .int .i64 v), (44, .bool false)] ∧ Γ = [objc true l (.loop rec), outA bo (lastK d i out (k + 1)), cells p1 b1 0 [.int .i64 i], cells p2 b2 0 [.pointer (some ⟨db, 0, none⟩)], disk db d, tblA]) ?_ ?_
    · rcases pcase s.1 with hc | hc | hc
      · rw [hc.1, hc.2]
        have hl : lastK d i out (k + 1) = if (lastK d i out k).seq < (⟨v, pS s.1, pB s.1⟩ : SR).seq then (⟨v, pS s.1, pB s.1⟩ : SR) else lastK d i out k := by
          show lastStep d (i + k) (lastK d i out k) = _
          rw [← hv, hst]; simp [hc.1, hc.2]
        rw [hl]
        refine WPC.regionI ?_
        refine WPI.take 11 ?_
        iterate 2 refine stp ?_
        refine stpY rfl rfl ?_
        refine L_yes rfl rfl (show Q1 _ _ _ _ (.bool true) from q_int rfl rfl rfl) rfl ?_
        iterate 2 refine stp ?_
        iterate 4 refine stpY rfl rfl ?_
        refine L_yes rfl rfl (q_build (cs := [_, _, _]) pl_slot_record rfl rfl) rfl ?_
        refine WPL.nil ?_
        refine WPI.yield (wanted_yes rfl rfl rfl) rfl rfl (hY (⟨v, pS s.1, pB s.1⟩ : SR) a' c' (lastK d i out k) hb) pkk rfl ?_
        rintro _ _ ⟨rfl, rfl⟩
        refine WPI.all ?_
        refine WPL.putS ?_
        refine stpY rfl rfl ?_
        refine stp ?_
        refine WPL.nil ?_
        refine thenQ_n ?_
        exact ⟨rfl, _, _, ⟨rfl, rfl⟩, sbb, Imp.pk⟩
      · rw [hc.1]
        have hE : (((pE s.1 : Nat) : Int) == 0) = false := by simp; exact hc.2
        have hl : lastK d i out (k + 1) = lastK d i out k := by
          show lastStep d (i + k) (lastK d i out k) = _
          rw [← hv, hst]; simp [hc.2]
        rw [hl]
        refine WPC.region ?_
        iterate 2 refine stp ?_
        iterate 2 refine stpY rfl rfl ?_
        rw [hE]
        iterate 2 refine stp ?_
        refine L_no rfl rfl rfl rfl ?_
        refine L_no rfl rfl rfl rfl ?_
        refine L_no rfl rfl rfl rfl ?_
        refine L_no rfl rfl rfl rfl ?_
        refine L_no rfl rfl rfl rfl ?_
        refine L_no rfl rfl rfl rfl ?_
        refine L_no rfl rfl rfl rfl ?_
        refine stp ?_
        refine WPL.nil ?_
        refine thenQ_n ?_
        exact ⟨rfl, _, _, ⟨rfl, rfl⟩, sbb, Imp.pk⟩
      · rw [hc]
        have hl : lastK d i out (k + 1) = lastK d i out k := by
          show lastStep d (i + k) (lastK d i out k) = _
          rw [← hv, hst]; simp [hc]
        rw [hl]
        refine WPC.region ?_
        iterate 2 refine stp ?_
        refine L_no rfl rfl rfl rfl ?_
        refine L_no rfl rfl rfl rfl ?_
        iterate 2 refine stp ?_
        refine L_no rfl rfl rfl rfl ?_
        refine L_no rfl rfl rfl rfl ?_
        refine L_no rfl rfl rfl rfl ?_
        refine L_no rfl rfl rfl rfl ?_
        refine L_no rfl rfl rfl rfl ?_
        refine L_no rfl rfl rfl rfl ?_
        refine L_no rfl rfl rfl rfl ?_
        refine stp ?_
        refine WPL.nil ?_
        refine thenQ_n ?_
        exact ⟨rfl, _, _, ⟨rfl, rfl⟩, sbb, Imp.pk⟩
    · rintro e Γ ⟨rfl, rfl⟩
      refine WPC.cond rfl (fun h1 => ?_) (fun h1 => ?_)
      · try simp only [decide_eq_true_eq, decide_eq_false_iff_not, beq_iff_eq, bne_iff_ne, beq_eq_false_iff_ne, bne_eq_false_iff_eq, Bool.not_eq_true', Bool.not_eq_false', Bool.not_eq_eq_eq_not, Bool.not_true, Bool.not_false, ne_eq, Decidable.not_not, Int.not_lt, Int.not_le, gt_iff_lt, ge_iff_le] at h1
        simp at h1
      · skip
        refine WPC.skip ?_
        refine blockQ_n ?_
        refine thenQ_n ?_
        refine WPC.region ?_
        iterate 3 refine stp ?_
        refine WPL.nil ?_
        refine thenQ_n ?_
        exact ⟨rfl, _, _, _, by omega, ⟨k + 1, v + 1, rfl, by omega, by omega, rfl, rfl⟩, sbb, Imp.pk⟩
  · simp only [decide_eq_false_iff_not] at h0
    have hk2 : k = 2 := by omega
    subst hk2
    refine WPC.exit ?_
    refine thenQ_e ?_
    refine thenQ_e ?_
    refine blockQ_here ?_
    exact endR_n rfl .nil Imp.pk ⟨rfl, rfl⟩

theorem c_records {db : Nat} {i : Int} : Trip Tryd.prog 92 #[.pointer (some ⟨db, 0, none⟩), .int .i64 i] [] fun r Δ => ∃ b1 b2, r = .func (.func 94) #[] #[.pointer (some ⟨b1, 0, none⟩), .pointer (some ⟨b2, 0, none⟩)] ∧ Δ = [cells true b1 0 [.int .i64 i], cells true b2 0 [.pointer (some ⟨db, 0, none⟩)]] := by
  refine Trip.start 6 [.tmp 4] [(0, .pointer (some ⟨db, 0, none⟩)), (1, .int .i64 i)] Tryd.func92 rfl Tryd.ntmps92 rfl ⟨rfl, rfl, trivial⟩ rfl ?_
  refine WPC.seqR ?_
  refine nw fun b1 => ?_
  refine nw fun b2 => ?_
  refine stp ?_
  refine WPL.nil ?_
  refine WPC.seqR ?_
  iterate 2 refine stp ?_
  refine WPL.nil ?_
  refine WPC.ret ?_
  exact endR_r rfl (.tmp rfl .nil) Imp.pk ⟨b2, b1, rfl, rfl⟩

theorem c_last {db : Nat} {d : DK} {i : Int} (hi : 0 ≤ i ∧ i + 1 < (d.seen.length : Int)) (hd : d.ok) : Trip Tryd.prog 84 #[.pointer (some ⟨db, 0, none⟩), .int .i64 i] [disk db d, tblA] fun r Δ => ∃ a c, r = .agg #[.int .i64 (last d i).at_, .int .u32 ((last d i).seq : Int), .slice a (last d i).b.length c] ∧ Sok 1 a (last d i).b.length c ((last d i).b.map u8) ∧ Δ = [disk db d, sl false a ((last d i).b.map u8)] := by
  have hdn := hd.n
  refine Trip.startM 21 [.cell 4 133] [(0, .pointer (some ⟨db, 0, none⟩)), (1, .int .i64 i)] Tryd.func84 rfl Tryd.ntmps84 rfl ⟨rfl, rfl, trivial⟩ rfl ?_
  refine WPC.seqR ?_
  refine nw fun br => ?_
  refine WPL.nil ?_
  refine WPC.seqR ?_
  iterate 2 refine stp ?_
  refine L_s (q_build (cs := [_, _, _]) pl_slot_record rfl rfl) rfl ?_
  refine nw fun bo => ?_
  refine sto ?_
  refine WPL.nil ?_
  refine WPC.seq ?_
  refine WPC.seqR ?_
  iterate 2 refine stp ?_
  refine kall rfl c_records ?_
  rintro _ _ ⟨b1, b2, rfl, rfl⟩
  refine WPL.nil ?_
  refine WPC.block ?_
  refine WPC.rangeFunc rfl Tryd.func94 rfl rfl (fun l D rec hst hpd hps has hbo hokk => ?_)
  have hY : ∀ (x : SR) (a : Option Addr) (c : Nat) (out : SR), Sok 1 a x.b.length c (x.b.map u8) → YTrip Tryd.prog l #[(.agg #[.int .i64 x.at_, .int .u32 (x.seq : Int), .slice a x.b.length c])] [objc true l (.loop rec), outA bo out, sl false a (x.b.map u8)] (fun v Δ => v = .bool true ∧ Δ = [objc true l (.loop rec), outA bo (if out.seq < x.seq then x else out)]) := by
    intro x a c out hsx
    refine YTrip.round hst hpd hps rfl hokk ?_
    rw [has]
    refine WPR.region rfl ?_
    refine WPL.imp (Imp.pk (Δ := [outA bo out, objc true l (.loop rec), sl false a (x.b.map u8)])) ?_
    refine WPL.exg (L := fun L => outL bo out L) fun L => WPL.pure fun hL => ?_
    refine nw fun bx => ?_
    refine sto ?_
    refine WPL.nil ?_
    refine assignQ_n [cells true bx 0 [.int .i64 x.at_, .int .u32 (x.seq : Int), .slice a x.b.length c], cells true bo 0 [.int .i64 out.at_, .int .u32 (out.seq : Int), .slice L.1 out.b.length L.2], sl false L.1 (out.b.map u8), sl false a (x.b.map u8)] Imp.pk hbo ?_
    refine WPR.block ?_
    refine WPR.seq ?_
    refine WPR.region rfl ?_
    iterate 5 refine stp ?_
    refine WPL.nil ?_
    refine thenQ_n ?_
    refine WPR.cond rfl (fun h0 => ?_) (fun h0 => ?_)
    · simp only [decide_eq_true_eq] at h0
      refine WPR.region rfl ?_
      refine stp ?_
      refine sto ?_
      refine WPL.nil ?_
      refine blockQ_n ?_
      refine roundQ_n [outA bo x] ((Imp.pk (Δ := [cells true bo 0 [.int .i64 x.at_, .int .u32 (x.seq : Int), .slice a x.b.length c], sl false a (x.b.map u8), objc true l (.loop { rec with state := .busy })])).trans ((outA_close a c hsx).trans (Imp.perm (.swap _ _ _)))) ⟨rfl, by rw [if_pos (by omega)]⟩
    · simp only [decide_eq_false_iff_not] at h0
      refine WPR.skip ?_
      refine blockQ_n ?_
      refine roundQ_n [outA bo out] ((Imp.pk (Δ := [cells true bo 0 [.int .i64 out.at_, .int .u32 (out.seq : Int), .slice L.1 out.b.length L.2], sl false L.1 (out.b.map u8), objc true l (.loop { rec with state := .busy })])).trans ((outA_close L.1 L.2 hL).trans (Imp.perm (.swap _ _ _)))) ⟨rfl, by rw [if_neg (by omega)]⟩
  refine Trip.mono (Trip.imp ((Imp.slEmpty (p := false) (a := none)).trans ((Imp.pk (Δ := [cells true bo 0 [.int .i64 (⟨i + 1, 0, []⟩ : SR).at_, .int .u32 ((⟨i + 1, 0, []⟩ : SR).seq : Int), .slice none (⟨i + 1, 0, []⟩ : SR).b.length 0], sl false none (([] : List By).map u8), objc true l (.loop rec), cells true b1 0 [.int .i64 i], cells true b2 0 [.pointer (some ⟨db, 0, none⟩)], disk db d, tblA, cells true br 0 [.int .i64 0, .int .u32 0, .slice none 0 0]])).trans ((outA_close (bo := bo) (r := (⟨i + 1, 0, []⟩ : SR)) none 0 ⟨rfl, Nat.le_refl _, .inl rfl⟩).trans (Imp.perm (.swap _ _ _))))) ((c_records1 (p1 := true) (p2 := true) (out := (⟨i + 1, 0, []⟩ : SR)) hi hd hY).frame [cells true br 0 [.int .i64 0, .int .u32 0, .slice none 0 0]])) ?_
  rintro _ _ ⟨Δ', ⟨rfl, rfl⟩, rfl⟩
  refine ⟨_, rfl, ?_⟩
  refine blockQ_n ?_
  refine thenQ_n ?_
  refine WPC.seqR ?_
  rw [show lastK d i (⟨i + 1, 0, []⟩ : SR) 2 = last d i from last_eq d i]
  refine WPL.imp (Imp.pk (Δ := [outA bo (last d i), objc true D (.deferred (some [])), disk db d, cells true br 0 [.int .i64 0, .int .u32 0, .slice none 0 0]])) ?_
  refine WPL.exg (L := fun L => outL bo (last d i) L) fun L => WPL.pure fun hL => ?_
  refine stp ?_
  refine sto ?_
  refine WPL.nil ?_
  refine WPC.ret ?_
  exact endRM_r rfl (Imp.pk (Δ := [objc true D (.deferred (some [])), cells true br 0 [.int .i64 (last d i).at_, .int .u32 ((last d i).seq : Int), .slice L.1 (last d i).b.length L.2], disk db d, sl false L.1 ((last d i).b.map u8)])) (.cellN (us := [_, _, _]) rfl ld_slot_record mm rfl rfl .nil) Imp.pk ⟨L.1, L.2, rfl, hL, rfl⟩

end Go.Sl
/- Walks: loading and saving. -/
namespace Go.Sl
open Go Go.RowKit Go.Proofs
set_option linter.unusedSimpArgs false
set_option linter.unusedVariables false
attribute [local irreducible] faB szB ldB zB zL slB mkB arB plB intB cells objc star stars buf slv grp whole Sat WPC WPL WPA WPO WPQ Trip Q1 E1 S1 C1

theorem c_Write64 {b c : Nat} {d : DK} {a : Option Addr} {i : Int} {xs : List By} (hok : d.ok) (hpl : d.pend.length < 1000000) (h64 : xs.length = 64) (hs : Sok 1 a 64 c (xs.map u8)) : Trip Tryd.prog 64 #[.pointer (some ⟨b, 0, none⟩), .int .i64 i, .slice a 64 c] [disk b d, sl false a (xs.map u8)] fun r Δ => r = .int .i64 (d.write i xs).2 ∧ Δ = [disk b (d.write i xs).1] := by
  have h := c_Write (b := b) (c := c) (d := d) (a := a) (i := i) (xs := xs) hok hpl (by rw [h64]; exact hs)
  rw [h64] at h
  exact h
theorem c_WriteNil {b : Nat} {d : DK} {i : Int} (hok : d.ok) (hpl : d.pend.length < 1000000) : Trip Tryd.prog 64 #[.pointer (some ⟨b, 0, none⟩), .int .i64 i, .slice none 0 0] [disk b d] fun r Δ => r = .int .i64 (d.write i []).2 ∧ Δ = [disk b (d.write i []).1] :=
  Trip.imp ((Imp.slEmpty (p := false) (a := none)).trans (Imp.perm (.swap _ _ _))) (c_Write (xs := []) (c := 0) hok hpl ⟨rfl, Nat.le_refl _, .inl rfl⟩)

theorem c_DownD {b : Nat} {d : DK} : Trip Tryd.prog 33 #[.pointer (some ⟨b, 0, none⟩)] [disk b d] fun r Δ => r = .bool d.down ∧ Δ = [disk b d] := by
  refine disk_open fun L hL => ?_
  refine Trip.start 7 [.tmp 2] [(0, .pointer (some ⟨b, 0, none⟩))] Tryd.func33 rfl Tryd.ntmps33 rfl ⟨rfl, trivial⟩ rfl ?_
  refine WPC.seqR ?_
  refine stp ?_
  refine WPL.nil ?_
  refine WPC.seqR ?_
  iterate 5 refine stp ?_
  refine WPL.nil ?_
  refine WPC.ret ?_
  exact endR_r rfl (.tmp rfl .nil) ((Imp.pk).trans (disk_close L hL (Γ := []))) ⟨rfl, rfl⟩

theorem c_Load {b : Nat} {d : DK} {i : Int} (hi : 0 ≤ i ∧ i + 1 < (d.seen.length : Int)) (hd : d.ok) : Trip Tryd.prog 61 #[.pointer (some ⟨b, 0, none⟩), .int .i64 i] [disk b d, tblA] fun r Δ => ∃ a c, r = .tuple #[.slice a (if (last d i).seq = 0 then [] else (last d i).b).length c, .int .u32 ((last d i).seq : Int), .int .i64 (if (last d i).seq = 0 then 41 else 0)] ∧ Sok 1 a (if (last d i).seq = 0 then [] else (last d i).b).length c ((if (last d i).seq = 0 then [] else (last d i).b).map u8) ∧ Δ = [disk b d, sl false a ((if (last d i).seq = 0 then [] else (last d i).b).map u8)] := by
  have hdn := hd.n
  have hr := right_in hi
  refine Trip.start 22 [.tmp 4, .tmp 5, .tmp 6] [(0, .pointer (some ⟨b, 0, none⟩)), (1, .int .i64 i)] Tryd.func61 rfl Tryd.ntmps61 rfl ⟨rfl, rfl, trivial⟩ rfl ?_
  refine WPC.seqR ?_
  iterate 3 refine stp ?_
  refine WPL.nil ?_
  refine WPC.seq ?_
  refine WPC.seqR ?_
  iterate 2 refine stp ?_
  refine kall rfl (c_right (by omega) hd) ?_
  rintro _ _ ⟨rfl, rfl⟩
  refine stp ?_
  refine WPL.nil ?_
  refine WPC.cond rfl (fun h0 => ?_) (fun h0 => ?_)
  · try simp only [decide_eq_true_eq, decide_eq_false_iff_not, beq_iff_eq, bne_iff_ne, beq_eq_false_iff_ne, bne_eq_false_iff_eq, Bool.not_eq_true', Bool.not_eq_false', Bool.not_eq_eq_eq_not, Bool.not_true, Bool.not_false, ne_eq, Decidable.not_not, Int.not_lt, Int.not_le, gt_iff_lt, ge_iff_le] at h0
    simp [hr] at h0
  · skip
    refine WPC.skip ?_
    refine thenQ_n ?_
    refine WPC.seqR ?_
    iterate 2 refine stp ?_
    refine kall rfl (c_last hi hd) ?_
    rintro _ _ ⟨a, c, rfl, hb, rfl⟩
    refine nw fun bL => ?_
    refine sto ?_
    refine WPL.nil ?_
    refine WPC.seq ?_
    refine WPC.seqR ?_
    iterate 3 refine stp ?_
    refine WPL.nil ?_
    refine WPC.cond rfl (fun h1 => ?_) (fun h1 => ?_)
    · have h1 : (last d i).seq = 0 := by simpa using h1
      rw [h1]
      simp only [if_true]
      refine WPC.seqR ?_
      iterate 3 refine stp ?_
      refine WPL.nil ?_
      refine WPC.ret ?_
      refine thenQ_r ?_
      exact endR_r rfl (.tmp rfl (.tmp rfl (.tmp rfl .nil))) ((Imp.slEmpty (p := false) (a := none)).trans Imp.pk) ⟨none, 0, rfl, ⟨rfl, Nat.le_refl _, .inl rfl⟩, rfl⟩
    · have h1 : (last d i).seq ≠ 0 := by simpa using h1
      simp only [if_neg h1]
      refine WPC.skip ?_
      refine thenQ_n ?_
      refine WPC.seqQ mixed (by kernel_rfl) ?_
      iterate 7 refine stq ?_
      refine WPQ.nil ?_
      refine WPC.ret ?_
      exact endR_r rfl (.tmp rfl (.tmp rfl (.tmp rfl .nil))) Imp.pk ⟨a, c, rfl, hb, rfl⟩

theorem c_Put {b c : Nat} {d : DK} {a : Option Addr} {i : Int} {xs : List By} (hi : 0 ≤ i ∧ i + 1 < (d.seen.length : Int)) (hd : d.ok) (hpl : d.pend.length < 900000) (hx : xs.length ≤ 43) (hs : Sok 1 a xs.length c (xs.map u8)) : Trip Tryd.prog 77 #[.pointer (some ⟨b, 0, none⟩), .int .i64 i, .slice a xs.length c] [disk b d, sl false a (xs.map u8), tblA] fun r Δ => r = .int .i64 (put d i xs).2 ∧ Δ = [disk b (put d i xs).1] := by
  have hdn := hd.n
  have hr := right_in hi
  have hlt := (last_lt d i).1
  have hat := last_at d i
  have hsp := sync_pend d
  refine Trip.start 44 [.tmp 6] [(0, .pointer (some ⟨b, 0, none⟩)), (1, .int .i64 i), (2, .slice a xs.length c)] Tryd.func77 rfl Tryd.ntmps77 rfl ⟨rfl, rfl, rfl, trivial⟩ rfl ?_
  refine WPC.seqR ?_
  refine stp ?_
  refine WPL.nil ?_
  refine WPC.seq ?_
  refine WPC.seqR ?_
  iterate 2 refine stp ?_
  refine kall rfl (c_right (by omega) hd) ?_
  rintro _ _ ⟨rfl, rfl⟩
  refine stp ?_
  refine WPL.nil ?_
  refine WPC.cond rfl (fun h0 => ?_) (fun h0 => ?_)
  · try simp only [decide_eq_true_eq, decide_eq_false_iff_not, beq_iff_eq, bne_iff_ne, beq_eq_false_iff_ne, bne_eq_false_iff_eq, Bool.not_eq_true', Bool.not_eq_false', Bool.not_eq_eq_eq_not, Bool.not_true, Bool.not_false, ne_eq, Decidable.not_not, Int.not_lt, Int.not_le, gt_iff_lt, ge_iff_le] at h0
    simp [hr] at h0
  · skip
    refine WPC.skip ?_
    refine thenQ_n ?_
    refine WPC.seqR ?_
    iterate 2 refine stp ?_
    refine kall rfl (c_last hi hd) ?_
    rintro _ _ ⟨al, cl, rfl, hb, rfl⟩
    refine nw fun bL => ?_
    refine sto ?_
    refine WPL.nil ?_
    refine WPC.seqR ?_
    iterate 2 refine stp ?_
    refine L_s (q_add32 (a := (last d i).seq) (b := 1) rfl rfl) rfl ?_
    refine stp ?_
    refine kall rfl (c_Stamp (seq := ((last d i).seq + 1) % 4294967296) (epoch := 0) hs (Nat.mod_lt _ (by omega)) (by omega) hx) ?_
    rintro _ _ ⟨a2, c2, rfl, hs2, rfl⟩
    iterate 5 refine stp ?_
    refine WPL.nil ?_
    refine WPC.seq ?_
    refine WPC.block ?_
    refine WPC.seqR ?_
    iterate 3 refine stp ?_
    refine WPL.nil ?_
    refine WPC.prune [(0, _), (1, _), (6, _), (7, _), (8, _), (9, _), (25, _)] sbb ?_
    refine WPC.cond rfl (fun h1 => ?_) (fun h1 => ?_)
    · try simp only [decide_eq_true_eq, decide_eq_false_iff_not, beq_iff_eq, bne_iff_ne, beq_eq_false_iff_ne, bne_eq_false_iff_eq, Bool.not_eq_true', Bool.not_eq_false', Bool.not_eq_eq_eq_not, Bool.not_true, Bool.not_false, ne_eq, Decidable.not_not, Int.not_lt, Int.not_le, gt_iff_lt, ge_iff_le] at h1
      simp at h1
    · skip
      refine WPC.seqR ?_
      iterate 4 refine stp ?_
      refine WPL.nil ?_
      refine WPC.cond rfl (fun h2 => ?_) (fun h2 => ?_)
      · have h2 : (last d i).seq = 4294967295 := by simp at h2; omega
        have ep : put d i xs = (d, 42) := by unfold put; rw [if_neg (by rw [hr]; simp), if_neg (by omega), if_pos h2]
        rw [ep]
        refine WPC.seqR ?_
        refine stp ?_
        refine WPL.nil ?_
        refine WPC.ret ?_
        refine blockQ_r ?_
        refine thenQ_r ?_
        exact endR_r rfl (.tmp rfl .nil) Imp.pk ⟨rfl, rfl⟩
      · have h2 : (last d i).seq ≠ 4294967295 := by simp at h2; omega
        have hse : ((last d i).seq + 1) % 4294967296 = (last d i).seq + 1 := Nat.mod_eq_of_lt (by omega)
        rw [hse] at hs2 ⊢
        have ep : put d i xs = d.sync.write (2 * i + 1 - (last d i).at_) (stamp ((last d i).seq + 1) 0 xs) := by unfold put; rw [if_neg (by rw [hr]; simp), if_neg (by omega), if_neg h2]
        rw [ep]
        refine WPC.skip ?_
        refine blockQ_n ?_
        refine thenQ_n ?_
        refine WPC.seqR ?_
        refine stp ?_
        refine kall rfl (c_Sync hd (by omega)) ?_
        rintro _ _ ⟨rfl, rfl⟩
        refine WPL.nil ?_
        refine WPC.seqR ?_
        iterate 8 refine stp ?_
        refine kall rfl (c_Write64 hd.sync (by omega) (stamp_length hx) hs2) ?_
        rintro _ _ ⟨rfl, rfl⟩
        refine stp ?_
        refine WPL.nil ?_
        refine WPC.ret ?_
        exact endR_r rfl (.tmp rfl .nil) Imp.pk ⟨rfl, rfl⟩

theorem c_Save {b c : Nat} {d : DK} {a : Option Addr} {i : Int} {xs : List By} (hi : 0 ≤ i ∧ i + 1 < (d.seen.length : Int)) (hd : d.ok) (hpl : d.pend.length < 900000) (hx : xs.length ≤ 43) (hs : Sok 1 a xs.length c (xs.map u8)) : Trip Tryd.prog 50 #[.pointer (some ⟨b, 0, none⟩), .int .i64 i, .slice a xs.length c] [disk b d, sl false a (xs.map u8), tblA] fun r Δ => r = .int .i64 (save d i xs).2 ∧ Δ = [disk b (save d i xs).1] := by
  have hpp := put_pend d i xs
  refine Trip.start 23 [.tmp 6] [(0, .pointer (some ⟨b, 0, none⟩)), (1, .int .i64 i), (2, .slice a xs.length c)] Tryd.func50 rfl Tryd.ntmps50 rfl ⟨rfl, rfl, rfl, trivial⟩ rfl ?_
  refine WPC.seqR ?_
  refine stp ?_
  refine WPL.nil ?_
  refine WPC.seqR ?_
  iterate 3 refine stp ?_
  refine kall rfl (c_Put hi hd hpl hx hs) ?_
  rintro _ _ ⟨rfl, rfl⟩
  refine stp ?_
  refine WPL.nil ?_
  refine WPC.seq ?_
  refine WPC.seqR ?_
  iterate 2 refine stp ?_
  refine WPL.nil ?_
  refine WPC.cond rfl (fun h0 => ?_) (fun h0 => ?_)
  · have h0 : (put d i xs).2 = 0 := by simpa using h0
    have ep : save d i xs = ((put d i xs).1.sync, if (put d i xs).1.sync.down then 43 else 0) := by unfold save; rw [if_pos h0]
    rw [ep]
    refine WPC.region ?_
    refine stp ?_
    refine kall rfl (c_Sync (put_ok hd i xs) (by omega)) ?_
    rintro _ _ ⟨rfl, rfl⟩
    refine WPL.nil ?_
    refine thenQ_n ?_
    refine WPC.seq ?_
    refine WPC.seqR ?_
    iterate 3 refine stp ?_
    apply WPL.joinA (e' := [(6, _), (7, _)]) 18 21 3 rfl
    · intro g4_2
      try simp only [decide_eq_true_eq, decide_eq_false_iff_not, beq_iff_eq, bne_iff_ne, beq_eq_false_iff_ne, bne_eq_false_iff_eq, Bool.not_eq_true', Bool.not_eq_false', Bool.not_eq_eq_eq_not, Bool.not_true, Bool.not_false, ne_eq, Decidable.not_not, Int.not_lt, Int.not_le, gt_iff_lt, ge_iff_le] at g4_2
      refine stpY rfl rfl ?_
      refine L_eyes rfl rfl rfl (C1.call (c_call Tryd.func33 rfl rfl rfl) c_DownD pkk rfl ?_)
      rintro _ _ ⟨rfl, rfl⟩
      refine WPL.putS ?_
      refine stp ?_
      first | exact WPL.jn rfl rfl sbb | exact WPL.jnI rfl rfl sbb Imp.pk
    · intro g4_2
      try simp only [decide_eq_true_eq, decide_eq_false_iff_not, beq_iff_eq, bne_iff_ne, beq_eq_false_iff_ne, bne_eq_false_iff_eq, Bool.not_eq_true', Bool.not_eq_false', Bool.not_eq_eq_eq_not, Bool.not_true, Bool.not_false, ne_eq, Decidable.not_not, Int.not_lt, Int.not_le, gt_iff_lt, ge_iff_le] at g4_2
      refine L_no rfl rfl rfl rfl ?_
      refine L_no rfl rfl rfl rfl ?_
      refine stp ?_
      first | exact WPL.jn rfl rfl sbb | exact WPL.jnI rfl rfl sbb Imp.pk
    refine WPL.nil ?_
    refine WPC.cond rfl (fun h1 => ?_) (fun h1 => ?_)
    · have h1 : (put d i xs).1.sync.down = true := by simp at h1; exact h1.2
      rw [h1]
      refine WPC.seqR ?_
      refine stp ?_
      refine WPL.nil ?_
      refine WPC.ret ?_
      refine thenQ_r ?_
      exact endR_r rfl (.tmp rfl .nil) Imp.pk ⟨rfl, rfl⟩
    · have h1 : (put d i xs).1.sync.down = false := by simp at h1; exact h1 h0
      rw [h1, h0]
      refine WPC.skip ?_
      refine thenQ_n ?_
      refine WPC.seqR ?_
      iterate 2 refine stp ?_
      refine WPL.nil ?_
      refine WPC.ret ?_
      exact endR_r rfl (.tmp rfl .nil) Imp.pk ⟨rfl, rfl⟩
  · have h0 : (put d i xs).2 ≠ 0 := by simpa using h0
    have ep : save d i xs = put d i xs := by unfold save; rw [if_neg h0]
    rw [ep]
    refine WPC.skip ?_
    refine thenQ_n ?_
    refine WPC.seq ?_
    refine WPC.seqR ?_
    iterate 3 refine stp ?_
    apply WPL.joinA (e' := [(6, _), (7, _)]) 18 21 3 rfl
    · intro g4_2
      try simp only [decide_eq_true_eq, decide_eq_false_iff_not, beq_iff_eq, bne_iff_ne, beq_eq_false_iff_ne, bne_eq_false_iff_eq, Bool.not_eq_true', Bool.not_eq_false', Bool.not_eq_eq_eq_not, Bool.not_true, Bool.not_false, ne_eq, Decidable.not_not, Int.not_lt, Int.not_le, gt_iff_lt, ge_iff_le] at g4_2
      refine stpY rfl rfl ?_
      refine L_eyes rfl rfl rfl (C1.call (c_call Tryd.func33 rfl rfl rfl) c_DownD pkk rfl ?_)
      rintro _ _ ⟨rfl, rfl⟩
      refine WPL.putS ?_
      refine stp ?_
      first | exact WPL.jn rfl rfl sbb | exact WPL.jnI rfl rfl sbb Imp.pk
    · intro g4_2
      try simp only [decide_eq_true_eq, decide_eq_false_iff_not, beq_iff_eq, bne_iff_ne, beq_eq_false_iff_ne, bne_eq_false_iff_eq, Bool.not_eq_true', Bool.not_eq_false', Bool.not_eq_eq_eq_not, Bool.not_true, Bool.not_false, ne_eq, Decidable.not_not, Int.not_lt, Int.not_le, gt_iff_lt, ge_iff_le] at g4_2
      refine L_no rfl rfl rfl rfl ?_
      refine L_no rfl rfl rfl rfl ?_
      refine stp ?_
      first | exact WPL.jn rfl rfl sbb | exact WPL.jnI rfl rfl sbb Imp.pk
    refine WPL.nil ?_
    refine WPC.cond rfl (fun h1 => ?_) (fun h1 => ?_)
    · skip
      simp at h1; exact absurd h1.1 h0
    · skip
      refine WPC.skip ?_
      refine thenQ_n ?_
      refine WPC.seqR ?_
      iterate 2 refine stp ?_
      refine WPL.nil ?_
      refine WPC.ret ?_
      exact endR_r rfl (.tmp rfl .nil) Imp.pk ⟨rfl, rfl⟩

end Go.Sl
/- Walks: journals. -/
namespace Go.Sl
open Go Go.RowKit Go.Proofs
set_option linter.unusedSimpArgs false
set_option linter.unusedVariables false
attribute [local irreducible] faB szB ldB zB zL slB mkB arB plB intB cells objc star stars buf slv grp whole Sat WPC WPL WPA WPO WPQ Trip Q1 E1 S1 C1

theorem c_next {b db : Nat} {j : JN} {L : JL} (hl : L.rs.length = j.held.length) (h1 : j.first < 4294967296) (h2 : j.held.length ≤ 1000) : Trip Tryd.prog 65 #[.pointer (some ⟨b, 0, none⟩)] [cells true b 0 (jourC db j L)] fun r Δ => r = .int .u64 (j.next : Int) ∧ Δ = [cells true b 0 (jourC db j L)] := by
  refine Trip.start 15 [.tmp 2] [(0, .pointer (some ⟨b, 0, none⟩))] Tryd.func65 rfl Tryd.ntmps65 rfl ⟨rfl, trivial⟩ rfl ?_
  refine WPC.seqR ?_
  refine stp ?_
  refine WPL.nil ?_
  refine WPC.seqQ mixed (by kernel_rfl) ?_
  iterate 11 refine stq ?_
  refine WPQ.cons (q_addUN (a := j.first) (b := L.rs.length) rfl rfl (by omega)) rfl ?_
  refine stq ?_
  refine WPQ.nil ?_
  refine WPC.ret ?_
  exact endR_r rfl (.tmp rfl .nil) Imp.pk ⟨by simp only [packV, JN.next, hl], rfl⟩

theorem c_sector {b db : Nat} {j : JN} {L : JL} {seq : Nat} (hs : seq < 4294967296) (hn : 1 ≤ j.n ∧ j.n ≤ 100) (ha : j.at_ ≤ 1000) : Trip Tryd.prog 79 #[.pointer (some ⟨b, 0, none⟩), .int .u32 (seq : Int)] [cells true b 0 (jourC db j L)] fun r Δ => r = .int .i64 (j.place seq : Int) ∧ Δ = [cells true b 0 (jourC db j L)] := by
  have hm := Nat.mod_lt seq (show 0 < j.n by omega)
  refine Trip.start 19 [.tmp 4] [(0, .pointer (some ⟨b, 0, none⟩)), (1, .int .u32 (seq : Int))] Tryd.func79 rfl Tryd.ntmps79 rfl ⟨rfl, rfl, trivial⟩ rfl ?_
  refine WPC.seqR ?_
  refine stp ?_
  refine WPL.nil ?_
  refine WPC.seqQ mixed (by kernel_rfl) ?_
  iterate 11 refine stq ?_
  refine WPQ.cons (q_remNN (a := seq) (b := j.n) rfl rfl (by omega)) rfl ?_
  iterate 3 refine stq ?_
  refine WPQ.nil ?_
  refine WPC.ret ?_
  exact endR_r rfl (.tmp rfl .nil) Imp.pk ⟨by simp [packV, JN.place], rfl⟩

theorem c_meta {b db : Nat} {j : JN} {L : JL} {a : Option Addr} {c : Nat} {xs : List By} (hs : Sok 1 a xs.length c (xs.map u8)) (hx : xs.length < 1000) : Trip Tryd.prog 62 #[.pointer (some ⟨b, 0, none⟩), .slice a xs.length c] [cells true b 0 (jourC db j L), sl false a (xs.map u8)] fun r Δ => ∃ v : Bool, r = .bool v ∧ (v = true ↔ xs.length = 12 ∧ 0 < num xs 0 4 ∧ num xs 8 4 ≤ num xs 4 4) ∧ Δ = [cells true b 0 (jourC db (j.withMeta xs) L)] := by
  have hT := T_len xs
  have hb1 := rnum_lt xs false
  have hb2 := rnum_lt (T1 xs).2.1 (T1 xs).2.2
  have hb3 := rnum_lt (T2 xs).2.1 (T2 xs).2.2
  change ofLE (T1 xs).1 < _ at hb1
  change ofLE (T2 xs).1 < _ at hb2
  change ofLE (T3 xs).1 < _ at hb3
  refine Trip.start 47 [.tmp 4] [(0, .pointer (some ⟨b, 0, none⟩)), (1, .slice a xs.length c)] Tryd.func62 rfl Tryd.ntmps62 rfl ⟨rfl, rfl, trivial⟩ rfl ?_
  refine WPC.seqR ?_
  refine stp ?_
  refine WPL.nil ?_
  refine WPC.seqR ?_
  refine stp ?_
  refine kall rfl (c_Read hs) ?_
  rintro _ _ ⟨br, rfl, rfl⟩
  refine stp ?_
  refine WPL.nil ?_
  refine WPC.seqR ?_
  iterate 4 refine stp ?_
  refine kall rfl (show Trip _ _ _ [rd br 0 xs false] (fun r Δ => r = .int .u64 ((ofLE (T1 xs).1 : Nat) : Int) ∧ Δ = [rd br 0 (T1 xs).2.1 (T1 xs).2.2]) from c_RNumber (k := 4) (by omega) (by omega)) ?_
  rintro _ _ ⟨rfl, rfl⟩
  iterate 2 refine stp ?_
  refine kall rfl (show Trip _ _ _ [rd br 0 (T1 xs).2.1 (T1 xs).2.2] (fun r Δ => r = .int .u64 ((ofLE (T2 xs).1 : Nat) : Int) ∧ Δ = [rd br 0 (T2 xs).2.1 (T2 xs).2.2]) from c_RNumber (k := 4) (by omega) (by omega)) ?_
  rintro _ _ ⟨rfl, rfl⟩
  iterate 2 refine stp ?_
  refine kall rfl (show Trip _ _ _ [rd br 0 (T2 xs).2.1 (T2 xs).2.2] (fun r Δ => r = .int .u64 ((ofLE (T3 xs).1 : Nat) : Int) ∧ Δ = [rd br 0 (T3 xs).2.1 (T3 xs).2.2]) from c_RNumber (k := 4) (by omega) (by omega)) ?_
  rintro _ _ ⟨rfl, rfl⟩
  iterate 3 refine stp ?_
  refine sto ?_
  iterate 2 refine stp ?_
  refine sto ?_
  iterate 2 refine stp ?_
  refine sto ?_
  refine WPL.nil ?_
  refine WPC.seqD mixed ?_
  refine atP 0 rfl ?_
  refine WPA.oneE 1 [] (by kernel_rfl) rfl rfl (by repeat (first | exact .nil | refine .anc rfl ?_ | refine .keep mm ?_)) (C1.call (c_call Tryd.func70 rfl rfl rfl) (c_REnd (b := br) (o := 0) (xs := (T3 xs).2.1) (sh := (T3 xs).2.2)) pkk rfl ?_)
  rintro _ _ ⟨v, rfl, hv, rfl⟩
  refine ⟨(.nil _), ?_⟩
  refine WPA.putS ?_
  refine atP 2 rfl ?_
  refine atP 3 rfl ?_
  refine WPA.split 29 _ rfl (fun g3_3 => ?_) (fun g3_3 => ?_)
  · have h0 : v = 0 := by simpa using g3_3
    have h12 := T3_only (hv.1 h0).1 (hv.1 h0).2
    obtain ⟨-, -, e1, e2, e3⟩ := T3_twelve h12
    refine atPY 4 rfl rfl rfl ?_
    refine atPY 5 rfl rfl rfl ?_
    refine atPY 6 rfl rfl rfl ?_
    refine atLY 7 rfl rfl rfl ?_
    refine atPY 8 rfl rfl rfl ?_
    refine atP 9 rfl ?_
    refine atP 10 rfl ?_
    refine WPA.split 36 _ rfl (fun g3_10 => ?_) (fun g3_10 => ?_)
    · skip
      refine atPY 11 rfl rfl rfl ?_
      refine atPY 12 rfl rfl rfl ?_
      refine atPY 13 rfl rfl rfl ?_
      refine atLY 14 rfl rfl rfl ?_
      refine atPY 15 rfl rfl rfl ?_
      refine atPY 16 rfl rfl rfl ?_
      refine atPY 17 rfl rfl rfl ?_
      refine atLY 18 rfl rfl rfl ?_
      refine atPY 19 rfl rfl rfl ?_
      refine atP 20 rfl ?_
      refine atP 21 rfl ?_
      refine WPA.done (by kernel_rfl) ?_
      refine WPC.ret ?_
      exact endR_r rfl (.tmp rfl .nil) Imp.pk ⟨_, rfl, by simp only [decide_eq_true_eq]; rw [e2, e3]; rw [e1] at g3_10; simp at g3_10; omega, rfl⟩
    · skip
      refine WPA.takeN 11 rfl rfl rfl rfl rfl (by kernel_rfl) (by kernel_rfl) (by kernel_rfl) rfl (.cons (Ent.mem mm) (.nil _)) ?_
      refine WPA.putS ?_
      refine WPA.takeN 12 rfl rfl rfl rfl rfl (by kernel_rfl) (by kernel_rfl) (by kernel_rfl) rfl (.cons (Ent.mem mm) (.nil _)) ?_
      refine WPA.putS ?_
      refine WPA.takeN 13 rfl rfl rfl rfl rfl (by kernel_rfl) (by kernel_rfl) (by kernel_rfl) rfl (.cons (Ent.mem mm) (.nil _)) ?_
      refine WPA.putS ?_
      refine WPA.takeN 14 rfl rfl rfl rfl rfl (by kernel_rfl) (by kernel_rfl) (by kernel_rfl) rfl (.cons (Ent.mem mm) (.nil _)) ?_
      refine WPA.putS ?_
      refine WPA.takeN 15 rfl rfl rfl rfl rfl (by kernel_rfl) (by kernel_rfl) (by kernel_rfl) rfl (.cons (Ent.mem mm) (.nil _)) ?_
      refine WPA.putS ?_
      refine WPA.takeN 16 rfl rfl rfl rfl rfl (by kernel_rfl) (by kernel_rfl) (by kernel_rfl) rfl (.cons (Ent.mem mm) (.nil _)) ?_
      refine WPA.putS ?_
      refine WPA.takeN 17 rfl rfl rfl rfl rfl (by kernel_rfl) (by kernel_rfl) (by kernel_rfl) rfl (.cons (Ent.mem mm) (.nil _)) ?_
      refine WPA.putS ?_
      refine WPA.takeN 18 rfl rfl rfl rfl rfl (by kernel_rfl) (by kernel_rfl) (by kernel_rfl) rfl (.cons (Ent.mem mm) (.nil _)) ?_
      refine WPA.putS ?_
      refine WPA.takeN 19 rfl rfl rfl rfl rfl (by kernel_rfl) (by kernel_rfl) (by kernel_rfl) rfl (.cons (Ent.mem mm) (.nil _)) ?_
      refine WPA.putS ?_
      refine atP 20 rfl ?_
      refine atP 21 rfl ?_
      refine WPA.done (by kernel_rfl) ?_
      refine WPC.ret ?_
      exact endR_r rfl (.tmp rfl .nil) Imp.pk ⟨_, rfl, by rw [e1] at g3_10; simp at g3_10 ⊢; omega, rfl⟩
  · have h0 : v ≠ 0 := by simpa using g3_3
    have h12 : xs.length ≠ 12 := fun h => h0 (hv.2 ⟨(T3_twelve h).1, (T3_twelve h).2.1⟩)
    refine WPA.takeN 4 rfl rfl rfl rfl rfl (by kernel_rfl) (by kernel_rfl) (by kernel_rfl) rfl (.nil _) ?_
    refine WPA.putS ?_
    refine WPA.takeN 5 rfl rfl rfl rfl rfl (by kernel_rfl) (by kernel_rfl) (by kernel_rfl) rfl (.nil _) ?_
    refine WPA.putS ?_
    refine WPA.takeN 6 rfl rfl rfl rfl rfl (by kernel_rfl) (by kernel_rfl) (by kernel_rfl) rfl (.nil _) ?_
    refine WPA.putS ?_
    refine WPA.takeN 7 rfl rfl rfl rfl rfl (by kernel_rfl) (by kernel_rfl) (by kernel_rfl) rfl (.nil _) ?_
    refine WPA.putS ?_
    refine WPA.takeN 8 rfl rfl rfl rfl rfl (by kernel_rfl) (by kernel_rfl) (by kernel_rfl) rfl (.nil _) ?_
    refine WPA.putS ?_
    refine atP 9 rfl ?_
    refine atP 10 rfl ?_
    refine WPA.split 36 _ rfl (fun g3_10 => ?_) (fun g3_10 => ?_)
    · skip
      simp at g3_10
    · skip
      refine WPA.takeN 11 rfl rfl rfl rfl rfl (by kernel_rfl) (by kernel_rfl) (by kernel_rfl) rfl (.nil _) ?_
      refine WPA.putS ?_
      refine WPA.takeN 12 rfl rfl rfl rfl rfl (by kernel_rfl) (by kernel_rfl) (by kernel_rfl) rfl (.nil _) ?_
      refine WPA.putS ?_
      refine WPA.takeN 13 rfl rfl rfl rfl rfl (by kernel_rfl) (by kernel_rfl) (by kernel_rfl) rfl (.nil _) ?_
      refine WPA.putS ?_
      refine WPA.takeN 14 rfl rfl rfl rfl rfl (by kernel_rfl) (by kernel_rfl) (by kernel_rfl) rfl (.nil _) ?_
      refine WPA.putS ?_
      refine WPA.takeN 15 rfl rfl rfl rfl rfl (by kernel_rfl) (by kernel_rfl) (by kernel_rfl) rfl (.nil _) ?_
      refine WPA.putS ?_
      refine WPA.takeN 16 rfl rfl rfl rfl rfl (by kernel_rfl) (by kernel_rfl) (by kernel_rfl) rfl (.nil _) ?_
      refine WPA.putS ?_
      refine WPA.takeN 17 rfl rfl rfl rfl rfl (by kernel_rfl) (by kernel_rfl) (by kernel_rfl) rfl (.nil _) ?_
      refine WPA.putS ?_
      refine WPA.takeN 18 rfl rfl rfl rfl rfl (by kernel_rfl) (by kernel_rfl) (by kernel_rfl) rfl (.nil _) ?_
      refine WPA.putS ?_
      refine WPA.takeN 19 rfl rfl rfl rfl rfl (by kernel_rfl) (by kernel_rfl) (by kernel_rfl) rfl (.nil _) ?_
      refine WPA.putS ?_
      refine atP 20 rfl ?_
      refine atP 21 rfl ?_
      refine WPA.done (by kernel_rfl) ?_
      refine WPC.ret ?_
      exact endR_r rfl (.tmp rfl .nil) Imp.pk ⟨_, rfl, by simp [h12], rfl⟩

theorem c_jsave {b db : Nat} {j : JN} {L : JL} {d : DK} (hj : j.ok d) (hd : d.ok) (hpl : d.pend.length < 900000) : Trip Tryd.prog 66 #[.pointer (some ⟨b, 0, none⟩)] [cells true b 0 (jourC db j L), disk db d, tblA] fun r Δ => r = .int .i64 (jsave d j).2 ∧ Δ = [cells true b 0 (jourC db j L), disk db (jsave d j).1] := by
  have h1 := hj.first
  have h2 := hj.epoch
  have h3 := hj.low
  have h4 := hj.at_
  have h5 := hd.n
  have hml : j.metaB.length = 12 := by simp [JN.metaB, le_length]
  refine Trip.start 32 [.tmp 2] [(0, .pointer (some ⟨b, 0, none⟩))] Tryd.func66 rfl Tryd.ntmps66 rfl ⟨rfl, trivial⟩ rfl ?_
  refine WPC.seqR ?_
  refine stp ?_
  refine WPL.nil ?_
  refine WPC.seqR ?_
  refine nw fun bW => ?_
  refine WPL.nil ?_
  refine WPC.imp (Imp.bufNil (sz := 1)) ?_
  refine WPC.imp ((Imp.pk (Δ := [cells true bW 0 [.slice none 0 0], buf 1 none 0 0 (([] : List By).map u8), cells true b 0 (jourC db j L), disk db d, tblA])).trans (wr_close (b := bW) (o := 0) (xs := []) none 0 0 (Γ := [cells true b 0 (jourC db j L), disk db d, tblA]))) ?_
  refine WPC.seqR ?_
  iterate 5 refine stp ?_
  refine kall rfl (c_WNumber (xs := []) (v := j.first) (k := 4) (by omega) (by simp)) ?_
  rintro _ _ ⟨rfl, rfl⟩
  rw [List.nil_append]
  refine WPL.nil ?_
  refine WPC.seqR ?_
  iterate 5 refine stp ?_
  refine kall rfl (c_WNumber (xs := le j.first 4) (v := j.epoch) (k := 4) (by omega) (by simp [le_length])) ?_
  rintro _ _ ⟨rfl, rfl⟩
  refine WPL.nil ?_
  refine WPC.seqR ?_
  iterate 5 refine stp ?_
  refine kall rfl (c_WNumber (xs := le j.first 4 ++ le j.epoch 4) (v := j.low) (k := 4) (by omega) (by simp [le_length])) ?_
  rintro _ _ ⟨rfl, rfl⟩
  refine WPL.nil ?_
  refine WPC.seqD mixed ?_
  refine atP 0 rfl ?_
  refine atP 1 rfl ?_
  refine atP 2 rfl ?_
  refine atL 3 rfl ?_
  refine atP 4 rfl ?_
  refine atP 5 rfl ?_
  refine atP 6 rfl ?_
  refine atL 7 rfl ?_
  refine WPA.oneE 8 [(7, [_]), (3, [_])] (by kernel_rfl) rfl rfl (by repeat (first | exact .nil | refine .anc rfl ?_ | refine .keep mm ?_)) (C1.call (c_call Tryd.func76 rfl rfl rfl) (show Trip _ _ _ [wr bW 0 (le j.first 4 ++ le j.epoch 4 ++ le j.low 4)] (fun r Δ => ∃ a c, r = .slice a j.metaB.length c ∧ Sok 1 a j.metaB.length c (j.metaB.map u8) ∧ Δ = [sl false a (j.metaB.map u8), wr bW 0 j.metaB]) from c_WOut (xs := j.metaB) (by omega)) pkk rfl ?_)
  rintro _ _ ⟨a, c, rfl, hs, rfl⟩
  refine ⟨(.cons (Ent.mem mm) (.cons (Ent.mem mm) (.nil _))), ?_⟩
  refine WPA.putS ?_
  refine WPA.oneE 9 [] (by kernel_rfl) rfl rfl (by repeat (first | exact .nil | refine .anc rfl ?_ | refine .keep mm ?_)) (C1.call (c_call Tryd.func50 rfl rfl rfl) (show Trip _ _ _ [disk db d, sl false a (j.metaB.map u8), tblA] (fun r Δ => r = .int .i64 (jsave d j).2 ∧ Δ = [disk db (jsave d j).1]) from c_Save (i := (j.at_ : Int)) (by omega) hd hpl (by omega) hs) pkk rfl ?_)
  rintro _ _ ⟨rfl, rfl⟩
  refine ⟨(.nil _), ?_⟩
  refine WPA.putS ?_
  refine atP 10 rfl ?_
  refine WPA.done (by kernel_rfl) ?_
  refine WPC.ret ?_
  exact endR_r rfl (.tmp rfl .nil) Imp.pk ⟨rfl, rfl⟩

theorem c_All_ {b db : Nat} {j : JN} {L : JL} (hL : JOk j L) (hn : L.rs.length ≤ 1000) (hb : ∀ r ∈ L.rs, r.x.bs.length ≤ 1000) (hs : Sok 2 L.a L.rs.length L.c (L.rs.flatMap encR)) : Trip Tryd.prog 67 #[.pointer (some ⟨b, 0, none⟩)] [cells true b 0 (jourC db j L), sl true L.a (L.rs.flatMap encR), bytes (L.rs.map (·.x))] fun r Δ => ∃ (a c : _) (ys : List BS), r = .slice a ys.length c ∧ Sok 1 a ys.length c (ys.map bsV) ∧ ys.map BS.bs = j.held.map (·.2) ∧ (∀ y ∈ ys, y.ok) ∧ Δ = [cells true b 0 (jourC db j L), sl true L.a (L.rs.flatMap encR), buf 1 a ys.length c (ys.map bsV), bytes ys] := by
  refine Trip.start 23 [.tmp 2] [(0, .pointer (some ⟨b, 0, none⟩))] Tryd.func67 rfl Tryd.ntmps67 rfl ⟨rfl, trivial⟩ rfl ?_
  refine WPC.seqR ?_
  refine stp ?_
  refine WPL.nil ?_
  refine WPC.seqR ?_
  refine stp ?_
  refine WPL.nil ?_
  refine WPC.imp ((Imp.bufNil (sz := 1)).trans bytes_nil) ?_
  refine WPC.seq ?_
  refine WPC.seqR ?_
  iterate 6 refine stp ?_
  refine WPL.nil ?_
  refine WPC.block ?_
  refine WPC.loopS (fun m e Γ => ∃ (k : Nat) (a2 : Option Addr) (c2 : Nat) (ys : List BS), m = L.rs.length - k ∧ k ≤ L.rs.length ∧ ys.length = k ∧ ys.map BS.bs = (L.rs.take k).map (·.x.bs) ∧ (∀ y ∈ ys, y.ok) ∧ e = [(0, .pointer (some ⟨b, 0, none⟩)), (3, .slice a2 k c2), (9, .slice L.a L.rs.length L.c), (10, .int .i64 (L.rs.length : Int)), (11, .int .i64 (k : Int))] ∧ Γ = [cells true b 0 (jourC db j L), sl true L.a (L.rs.flatMap encR), bytes (L.rs.map (·.x)), buf 1 a2 k c2 (ys.map bsV), bytes ys]) (L.rs.length) ⟨0, none, 0, [], rfl, by omega, rfl, rfl, by simp, rfl, rfl⟩ sbb Imp.pk ?_
  rintro m e Γ ⟨k, a2, c2, ys, rfl, hk, hyl, hye, hyo, rfl, rfl⟩
  refine WPC.seqR ?_
  refine stp ?_
  refine WPL.nil ?_
  refine WPC.seq ?_
  refine WPC.cond rfl (fun h0 => ?_) (fun h0 => ?_)
  · simp only [decide_eq_true_eq, Int.ofNat_lt] at h0
    have hp : Pl L.a := hs.at (by omega) (by omega)
    obtain ⟨r, hr⟩ : ∃ r, L.rs[k]? = some r := ⟨L.rs[k], by simp [h0]⟩
    have hrm := List.mem_of_getElem? hr
    have hro := hL.ok r hrm
    have hrn := hro.n
    have hrl := hb r hrm
    refine WPC.skip ?_
    refine thenQ_n ?_
    refine WPC.seq ?_
    refine WPC.block ?_
    refine WPC.seqR ?_
    refine L_s (q_idxN (i := k) sl_sl_journal_record rfl rfl h0 hp) rfl ?_
    refine L_s (q_ldFlat ld_journal_record rfl mm encR_len hr) rfl ?_
    refine nw fun bw => ?_
    refine sto ?_
    refine WPL.nil ?_
    refine WPC.region ?_
    iterate 3 refine stp ?_
    refine WPL.imp ((Imp.pk (Δ := [bytes (L.rs.map (·.x)), cells true bw 0 (encR r), cells true b 0 (jourC db j L), sl true L.a (L.rs.flatMap encR), buf 1 a2 k c2 (ys.map bsV), bytes ys])).trans (bytes_one (List.mem_map.2 ⟨r, hrm, rfl⟩))) ?_
    refine kall rfl (c_CloneB (p := false) hro (by omega)) ?_
    rintro _ _ ⟨a3, c3, rfl, rfl⟩
    refine WPL.bufRo fun hs3 => ?_
    refine nwb [_] fun bE => ?_
    refine WPL.cons rfl (E1.wpo (e_append (m := 1) (news := [bsV ⟨r.x.bs, a3, r.x.n, c3⟩]) mk_sl_sl_uint8 (by decide) rfl rfl pk1 (Rd.part (i := 0) (b := bE) (o := 0) (vs := [bsV ⟨r.x.bs, a3, r.x.n, c3⟩]) mm rfl rfl rfl) (by simp [Value.oneCell']) (by omega) (by omega)) rfl ?_)
    rintro _ _ ⟨a4, c4, rfl, -, rfl⟩
    rw [show ys.map bsV ++ [bsV ⟨r.x.bs, a3, r.x.n, c3⟩] = (ys ++ [(⟨r.x.bs, a3, r.x.n, c3⟩ : BS)]).map bsV by simp]
    refine WPL.putS ?_
    refine stp ?_
    refine WPL.nil ?_
    refine blockQ_n ?_
    refine thenQ_n ?_
    refine WPC.region ?_
    refine WPL.imp ((Imp.pk (Δ := [BS.at_ ⟨r.x.bs, a3, r.x.n, c3⟩, bytes ys, cells true b 0 (jourC db j L), sl true L.a (L.rs.flatMap encR), bytes (L.rs.map (·.x)), buf 1 a4 (k + 1) c4 ((ys ++ [(⟨r.x.bs, a3, r.x.n, c3⟩ : BS)]).map bsV)])).trans bytes_snoc) ?_
    iterate 2 refine stp ?_
    refine WPL.nil ?_
    refine thenQ_n ?_
    exact ⟨rfl, _, _, _, by omega, ⟨k + 1, a4, c4, ys ++ [⟨r.x.bs, a3, r.x.n, c3⟩], rfl, by omega, by simp [hyl], by rw [take_succ hr]; simp [hye], by intro y hy; rcases List.mem_append.1 hy with hy | hy; exact hyo y hy; rw [List.mem_singleton.1 hy]; exact hs3, rfl, rfl⟩, sbb, Imp.pk⟩
  · simp only [decide_eq_false_iff_not, Int.ofNat_lt] at h0
    have hk2 : k = L.rs.length := by omega
    refine WPC.exit ?_
    refine thenQ_e ?_
    refine thenQ_e ?_
    refine blockQ_here ?_
    refine thenQ_n ?_
    refine WPC.seqR ?_
    iterate 2 refine stp ?_
    refine WPL.nil ?_
    refine WPC.bufFact mm fun hsb => ?_
    refine WPC.ret ?_
    rw [List.take_of_length_le (by omega)] at hye
    have hye2 : ys.map BS.bs = j.held.map (·.2) := by rw [hye, ← hL.held]; simp
    subst hyl
    exact endR_r rfl (.tmp rfl .nil) Imp.pk ⟨a2, c2, ys, rfl, hsb, hye2, hyo, rfl⟩

end Go.Sl
/- Walks: journals that change. -/
namespace Go.Sl
open Go Go.RowKit Go.Proofs
set_option linter.unusedSimpArgs false
set_option linter.unusedVariables false
attribute [local irreducible] faB szB ldB zB zL slB mkB arB plB intB cells objc star stars buf slv grp whole Sat WPC WPL WPA WPO WPQ Trip Q1 E1 S1 C1

theorem c_Delete {a : Option Addr} {n c k : Nat} {rs : List JR} {sp : List Value} (hs : Sok 2 a n c (rs.flatMap encR)) (hn : rs.length = n) (hk : k ≤ n) (hn2 : n ≤ 1000) (hsp : sp.length = (c - n) * 2) : Trip Tryd.prog 78 #[.slice a n c, .int .i64 0, .int .i64 (k : Int)] [cells true (blk a) (off a) (rs.flatMap encR ++ sp)] fun r Δ => ∃ sp', r = .slice a (n - k) c ∧ sp'.length = (c - (n - k)) * 2 ∧ Δ = [cells true (blk a) (off a) (((rs.drop k).flatMap encR) ++ sp')] := by
  have hcap := hs.cap
  refine Trip.start 33 [.tmp 6] [(0, .slice a n c), (1, .int .i64 0), (2, .int .i64 (k : Int))] Tryd.func78 rfl Tryd.ntmps78 rfl ⟨rfl, rfl, rfl, trivial⟩ rfl ?_
  refine WPC.seqR ?_
  refine stp ?_
  refine WPL.nil ?_
  refine WPC.seqR ?_
  iterate 6 refine stp ?_
  refine WPL.nil ?_
  refine WPC.seq ?_
  refine WPC.seqR ?_
  iterate 3 refine stp ?_
  refine WPL.nil ?_
  refine WPC.cond rfl (fun h0 => ?_) (fun h0 => ?_)
  · have hk0 : k = 0 := by simp at h0; omega
    subst hk0
    refine WPC.seqR ?_
    iterate 2 refine stp ?_
    refine WPL.nil ?_
    refine WPC.ret ?_
    refine thenQ_r ?_
    exact endR_r rfl (.tmp rfl .nil) Imp.pk ⟨sp, rfl, hsp, rfl⟩
  · have hk0 : 0 < k := by simp at h0; omega
    have hp : Pl a := hs.at (by omega) (by omega)
    obtain ⟨ab, ao, rfl⟩ : ∃ ab ao, a = some ⟨ab, ao, none⟩ := ⟨blk a, off a, hp⟩
    dsimp only [blk, off]
    refine WPC.skip ?_
    refine thenQ_n ?_
    refine WPC.seqR ?_
    iterate 3 refine stp ?_
    refine WPL.nil ?_
    refine WPC.seqD mixed ?_
    refine atP 0 rfl ?_
    refine atP 1 rfl ?_
    refine WPA.takeP 2 rfl (q_sliceHi (j := 0) sl_sl_journal_record rfl rfl (by omega)) (by kernel_rfl) (by kernel_rfl) (by kernel_rfl) rfl rfl (.nil _) ?_
    refine WPA.putS ?_
    refine atP 3 rfl ?_
    refine atP 4 rfl ?_
    refine WPA.takeP 5 rfl (q_sliceLoC (l := k) sl_sl_journal_record rfl rfl hk hcap) (by kernel_rfl) (by kernel_rfl) (by kernel_rfl) rfl rfl (.nil _) ?_
    refine WPA.putS ?_
    refine WPA.oneE 6 [] (by kernel_rfl) rfl rfl (by repeat (first | exact .nil | refine .anc rfl ?_ | refine .keep mm ?_)) (E1.wpo (e_appendRoom (b := ab) (o := ao) (i := 0) (n := 0) (c := c) (m := n - k) (vs := (rs.flatMap encR ++ sp)) (news := ((rs.drop k).flatMap encR)) mk_sl_journal_record rfl rfl (rd_cut mm hk hn hcap) (encR_one _) (by omega) (by show 0 + (0 + (n - k)) * 2 ≤ _; rw [List.length_append, flat_length encR_len, hn, hsp]; omega) uu) rfl ?_)
    rintro _ _ ⟨rfl, rfl⟩
    rw [show ao + 0 = ao from rfl, show 0 + (n - k) = n - k by omega, show ((rs.flatMap encR ++ sp).take (0 + 0 * [Value.int .u32 0, Value.slice none 0 0].length) ++ ((rs.drop k).flatMap encR) ++ (rs.flatMap encR ++ sp).drop (0 + (n - k) * [Value.int .u32 0, Value.slice none 0 0].length)) = (((rs.drop k).flatMap encR) ++ (rs.flatMap encR ++ sp).drop ((n - k) * 2)) by simp]
    refine ⟨(.nil _), ?_⟩
    refine WPA.putS ?_
    refine atP 7 rfl ?_
    refine WPA.done (by kernel_rfl) ?_
    refine WPC.seqR ?_
    iterate 4 refine stp ?_
    refine L_s (q_sliceLH (l := n - k) (j := n) sl_sl_journal_record rfl rfl rfl (by omega) hcap) rfl ?_
    rw [cut_pl (Pl.mk ab ao) (show c ≠ n - k by omega)]
    simp only [blk_some, off_some]
    refine WPL.cons rfl (E1.wpo (e_clear (b := ab) (o := ao) (i := (n - k) * 2) (m := n - (n - k)) (vs := (((rs.drop k).flatMap encR) ++ (rs.flatMap encR ++ sp).drop ((n - k) * 2))) mk_sl_journal_record (by decide) (by simp [Value.oneCell']) rfl (by omega) (by show (n - k) * 2 + (n - (n - k)) * 2 ≤ _; rw [List.length_append, List.length_drop, List.length_append, flat_length encR_len, flat_length encR_len, List.length_drop, hn, hsp]; omega) uu) rfl ?_)
    rintro _ _ ⟨rfl, rfl⟩
    rw [show n - (n - k) = k by omega, show ((((rs.drop k).flatMap encR) ++ (rs.flatMap encR ++ sp).drop ((n - k) * 2)).take ((n - k) * 2) ++ repZ [Value.int .u32 0, Value.slice none 0 0] k ++ (((rs.drop k).flatMap encR) ++ (rs.flatMap encR ++ sp).drop ((n - k) * 2)).drop ((n - k) * 2 + k * [Value.int .u32 0, Value.slice none 0 0].length)) = ((rs.drop k).flatMap encR) ++ (repZ [Value.int .u32 0, Value.slice none 0 0] k ++ sp) from del_list hk hn]
    refine WPL.putN ?_
    refine WPL.nil ?_
    refine WPC.prune [(0, _), (6, _)] sbb ?_
    refine WPC.seqR ?_
    iterate 2 refine stp ?_
    refine WPL.nil ?_
    refine WPC.ret ?_
    exact endR_r rfl (.tmp rfl .nil) Imp.pk ⟨repZ [Value.int .u32 0, Value.slice none 0 0] k ++ sp, rfl, by rw [List.length_append, repZ_length, hsp]; show k * 2 + _ = _; omega, rfl⟩

theorem c_JAppend {b db : Nat} {j : JN} {d : DK} (hj : j.ok d) (hd : d.ok) (hpl : d.pend.length < 800000) {a : Option Addr} {c : Nat} {xs : List By} (hs : Sok 1 a xs.length c (xs.map u8)) : Trip Tryd.prog 57 #[.pointer (some ⟨b, 0, none⟩), .slice a xs.length c] [jour b db j, disk db d, tblA, sl false a (xs.map u8)] fun r Δ => r = .int .i64 (jappend d j xs).2.2 ∧ Δ = [jour b db (jappend d j xs).2.1, disk db (jappend d j xs).1] := by
  refine jour_open fun L hL => ?_
  obtain ⟨rs, la, lc⟩ := L
  obtain ⟨hheld, hrok⟩ := hL
  dsimp only at hheld hrok
  have hlen : rs.length = j.held.length := by rw [← hheld, List.length_map]
  have q1 := hj.first
  have q2 := hj.epoch
  have q3 := hj.low
  have q4 := hj.at_
  have q5 := hj.n
  have q6 := hj.held
  have q7 := hd.n
  refine Trip.start 66 [.tmp 4] [(0, .pointer (some ⟨b, 0, none⟩)), (1, .slice a xs.length c)] Tryd.func57 rfl Tryd.ntmps57 rfl ⟨rfl, rfl, trivial⟩ rfl ?_
  refine WPC.seqR ?_
  refine stp ?_
  refine WPL.nil ?_
  refine WPC.seq ?_
  refine WPC.block ?_
  refine WPC.seqR ?_
  iterate 4 refine stp ?_
  refine WPL.nil ?_
  refine WPC.cond rfl (fun h0 => ?_) (fun h0 => ?_)
  · have ea : jappend d j xs = (d, j, 2) := by unfold jappend; rw [if_pos (by simp at h0; omega)]
    rw [ea]
    refine WPC.seqR ?_
    refine stp ?_
    refine WPL.nil ?_
    refine WPC.ret ?_
    refine blockQ_r ?_
    refine thenQ_r ?_
    exact endR_r rfl (.tmp rfl .nil) ((Imp.pk).trans (jour_close (b := b) (db := db) (j := j) ⟨rs, la, lc⟩ ⟨hheld, hrok⟩ (Γ := [disk db d]))) ⟨rfl, rfl⟩
  · have hx43 : xs.length ≤ 43 := by simp at h0; omega
    refine WPC.seqD mixed ?_
    refine atP 0 rfl ?_
    refine atP 1 rfl ?_
    refine atP 2 rfl ?_
    refine atL 3 rfl ?_
    refine atP 4 rfl ?_
    refine atP 5 rfl ?_
    refine atP 6 rfl ?_
    refine atP 7 rfl ?_
    refine atL 8 rfl ?_
    refine atP 9 rfl ?_
    refine atP 10 rfl ?_
    refine WPA.split 23 _ rfl (fun g3_10 => ?_) (fun g3_10 => ?_)
    · skip
      refine WPA.takeN 11 rfl rfl rfl rfl rfl (by kernel_rfl) (by kernel_rfl) (by kernel_rfl) rfl (.cons (Ent.mem mm) (.cons (Ent.mem mm) (.nil _))) ?_
      refine WPA.putS ?_
      refine WPA.takeN 12 rfl rfl rfl rfl rfl (by kernel_rfl) (by kernel_rfl) (by kernel_rfl) rfl (.cons (Ent.mem mm) (.cons (Ent.mem mm) (.nil _))) ?_
      refine WPA.putS ?_
      refine WPA.takeN 13 rfl rfl rfl rfl rfl (by kernel_rfl) (by kernel_rfl) (by kernel_rfl) rfl (.cons (Ent.mem mm) (.cons (Ent.mem mm) (.nil _))) ?_
      refine WPA.putS ?_
      refine atP 14 rfl ?_
      refine atP 15 rfl ?_
      refine WPA.done (by kernel_rfl) ?_
      refine WPC.cond rfl (fun h1 => ?_) (fun h1 => ?_)
      · have ea : jappend d j xs = (d, j, 42) := by unfold jappend; rw [if_neg (by omega), if_pos (by simp at g3_10; omega)]
        rw [ea]
        refine WPC.seqR ?_
        refine stp ?_
        refine WPL.nil ?_
        refine WPC.ret ?_
        refine blockQ_r ?_
        refine thenQ_r ?_
        exact endR_r rfl (.tmp rfl .nil) ((Imp.pk).trans (jour_close (b := b) (db := db) (j := j) ⟨rs, la, lc⟩ ⟨hheld, hrok⟩ (Γ := [disk db d]))) ⟨rfl, rfl⟩
      · skip
        simp at h1
    · skip
      refine atPY 11 rfl rfl rfl ?_
      refine WPA.oneY 12 [] (by kernel_rfl) rfl rfl rfl rfl (by repeat (first | exact .nil | refine .anc rfl ?_ | refine .keep mm ?_)) (C1.call (c_call Tryd.func65 rfl rfl rfl) (c_next (L := ⟨rs, la, lc⟩) hlen q1 (by omega)) pkk rfl ?_)
      rintro _ _ ⟨rfl, rfl⟩
      refine ⟨(.nil _), ?_⟩
      refine WPA.putS ?_
      refine atPY 13 rfl rfl rfl ?_
      refine atP 14 rfl ?_
      refine atP 15 rfl ?_
      refine WPA.done (by kernel_rfl) ?_
      refine WPC.cond rfl (fun h1 => ?_) (fun h1 => ?_)
      · have ea : jappend d j xs = (d, j, 42) := by unfold jappend; rw [if_neg (by omega), if_pos (by simp at h1; omega)]
        rw [ea]
        refine WPC.seqR ?_
        refine stp ?_
        refine WPL.nil ?_
        refine WPC.ret ?_
        refine blockQ_r ?_
        refine thenQ_r ?_
        exact endR_r rfl (.tmp rfl .nil) ((Imp.pk).trans (jour_close (b := b) (db := db) (j := j) ⟨rs, la, lc⟩ ⟨hheld, hrok⟩ (Γ := [disk db d]))) ⟨rfl, rfl⟩
      · have hnm : j.next ≤ 4294967295 := by simp at h1; omega
        have hnn : j.held.length ≠ j.n := by simp at g3_10; omega
        have ea : jappend d j xs = ((d.write (j.place j.next) (stamp j.next j.epoch xs)).1, ({ j with held := j.held ++ [(j.epoch, xs)] } : JN), (d.write (j.place j.next) (stamp j.next j.epoch xs)).2) := by unfold jappend; rw [if_neg (by omega), if_neg (by omega)]
        rw [ea]
        refine WPC.skip ?_
        refine blockQ_n ?_
        refine thenQ_n ?_
        refine WPC.seqR ?_
        refine stp ?_
        refine kall rfl (c_next (L := ⟨rs, la, lc⟩) hlen q1 (by omega)) ?_
        rintro _ _ ⟨rfl, rfl⟩
        iterate 2 refine stp ?_
        refine WPL.nil ?_
        refine WPC.prune [(0, _), (1, _), (4, _), (5, _)] sbb ?_
        refine WPC.seqR ?_
        iterate 6 refine stp ?_
        refine kall rfl (c_Stamp (seq := j.next) (epoch := j.epoch) hs (by omega) q2 hx43) ?_
        rintro _ _ ⟨a2, c2, rfl, hs2, rfl⟩
        iterate 5 refine stp ?_
        refine WPL.nil ?_
        refine WPC.seqD mixed ?_
        refine atP 0 rfl ?_
        refine atP 1 rfl ?_
        refine atP 2 rfl ?_
        refine atP 3 rfl ?_
        refine atL 4 rfl ?_
        refine atP 5 rfl ?_
        refine atP 6 rfl ?_
        refine atP 7 rfl ?_
        refine atL 8 rfl ?_
        refine atP 9 rfl ?_
        refine WPA.oneE 10 [(8, [_]), (4, [_])] (by kernel_rfl) rfl rfl (by repeat (first | exact .nil | refine .anc rfl ?_ | refine .keep mm ?_)) (C1.call (c_call Tryd.func81 rfl rfl rfl) (c_CloneB (p := false) hs (by omega)) pkk rfl ?_)
        rintro _ _ ⟨a3, c3, rfl, rfl⟩
        refine ⟨(.cons (Ent.mem mm) (.cons (Ent.mem mm) (.nil _))), ?_⟩
        refine WPA.putS ?_
        refine WPA.bufRo fun hs3 => ?_
        refine WPA.takeP 11 rfl (q_build (cs := [_, _]) pl_journal_record rfl rfl) (by kernel_rfl) (by kernel_rfl) (by kernel_rfl) rfl rfl (.cons (Ent.mem mm) (.cons (Ent.mem mm) (.nil _))) ?_
        refine WPA.putS ?_
        refine WPA.oneE 12 [(4, [_])] (by kernel_rfl) rfl rfl (by repeat (first | exact .nil | refine .anc rfl ?_ | refine .keep mm ?_)) (E1.wpo (e_buildSlice (cs := [_, _]) mk_sl_journal_record (by decide) rfl rfl rfl) rfl ?_)
        rintro _ _ ⟨bE, rfl, rfl⟩
        refine ⟨(.cons (Ent.mem mm) (.nil _)), ?_⟩
        refine WPA.putS ?_
        refine WPA.oneE 13 [] (by kernel_rfl) rfl rfl (by repeat (first | exact .nil | refine .anc rfl ?_ | refine .keep mm ?_)) (E1.wpo (e_append (m := 1) (news := encR (⟨j.epoch, ⟨xs, a3, xs.length, c3⟩⟩ : JR)) mk_sl_journal_record (by decide) rfl rfl pk1 (Rd.part (i := 0) (b := bE) (o := 0) (vs := encR (⟨j.epoch, ⟨xs, a3, xs.length, c3⟩⟩ : JR)) mm rfl rfl rfl) (by simp [Value.oneCell']) (by show rs.length + 1 ≤ _; omega) (by show (rs.length + 1) * _ ≤ _; omega)) rfl ?_)
        rintro _ _ ⟨a4, c4, rfl, -, rfl⟩
        refine ⟨(.nil _), ?_⟩
        refine WPA.putS ?_
        refine atP 14 rfl ?_
        refine atP 15 rfl ?_
        refine WPA.oneE 16 [] (by kernel_rfl) rfl rfl (by repeat (first | exact .nil | refine .anc rfl ?_ | refine .keep mm ?_)) (S1.wpo (s_store1k sz_sl_journal_record rfl rfl rfl rfl uu (by repeat constructor)) rfl ?_)
        refine ⟨(.nil _), ?_⟩
        refine WPA.putN ?_
        refine WPA.done (by kernel_rfl) ?_
        have eb : rs.map (·.x) ++ [(⟨xs, a3, xs.length, c3⟩ : BS)] = (rs ++ [(⟨j.epoch, ⟨xs, a3, xs.length, c3⟩⟩ : JR)]).map (·.x) := by simp
        have el : rs.length + 1 = (rs ++ [(⟨j.epoch, ⟨xs, a3, xs.length, c3⟩⟩ : JR)]).length := by simp
        rw [el]
        refine WPC.imp ((Imp.pk (Δ := [BS.at_ ⟨xs, a3, xs.length, c3⟩, bytes (rs.map (·.x)), cells true b 0 (jourC db ({ j with held := j.held ++ [(j.epoch, xs)] } : JN) ⟨(rs ++ [(⟨j.epoch, ⟨xs, a3, xs.length, c3⟩⟩ : JR)]), a4, c4⟩), buf 2 a4 (rs ++ [(⟨j.epoch, ⟨xs, a3, xs.length, c3⟩⟩ : JR)]).length c4 (rs.flatMap encR ++ encR (⟨j.epoch, ⟨xs, a3, xs.length, c3⟩⟩ : JR)), disk db d, tblA, sl false a2 ((stamp j.next j.epoch xs).map u8)])).trans bytes_snoc) ?_
        rw [eb]
        refine WPC.seqD mixed ?_
        refine atP 0 rfl ?_
        refine atP 1 rfl ?_
        refine atP 2 rfl ?_
        refine atL 3 rfl ?_
        refine atP 4 rfl ?_
        refine atP 5 rfl ?_
        refine atP 7 rfl ?_
        refine WPA.oneE 6 [(3, [_])] (by kernel_rfl) rfl rfl (by repeat (first | exact .nil | refine .anc rfl ?_ | refine .keep mm ?_)) (C1.call (c_call Tryd.func79 rfl rfl rfl) (c_sector (j := ({ j with held := j.held ++ [(j.epoch, xs)] } : JN)) (L := ⟨rs ++ [(⟨j.epoch, ⟨xs, a3, xs.length, c3⟩⟩ : JR)], a4, c4⟩) (seq := j.next) (by omega) q5 (show j.at_ ≤ 1000 by omega)) pkk rfl ?_)
        rintro _ _ ⟨rfl, rfl⟩
        refine ⟨(.cons (Ent.mem mm) (.nil _)), ?_⟩
        refine WPA.putS ?_
        refine WPA.oneE 8 [] (by kernel_rfl) rfl rfl (by repeat (first | exact .nil | refine .anc rfl ?_ | refine .keep mm ?_)) (C1.call (c_call Tryd.func64 rfl rfl rfl) (c_Write64 hd (by omega) (stamp_length hx43) hs2) pkk rfl ?_)
        rintro _ _ ⟨rfl, rfl⟩
        refine ⟨(.nil _), ?_⟩
        refine WPA.putS ?_
        refine atP 9 rfl ?_
        refine WPA.done (by kernel_rfl) ?_
        refine WPC.ret ?_
        rw [← flat_snoc]
        exact endR_r rfl (.tmp rfl .nil) ((Imp.pk).trans (jour_close (b := b) (db := db) (j := ({ j with held := j.held ++ [(j.epoch, xs)] } : JN)) ⟨rs ++ [(⟨j.epoch, ⟨xs, a3, xs.length, c3⟩⟩ : JR)], a4, c4⟩ ⟨by simp [hheld], by intro r hr; rcases List.mem_append.1 hr with hr | hr; exact hrok r hr; rw [List.mem_singleton.1 hr]; exact hs3⟩ (Γ := [disk db (d.write (j.place j.next) (stamp j.next j.epoch xs)).1]))) ⟨rfl, rfl⟩

theorem c_JTrim {b db : Nat} {j : JN} {d : DK} (hj : j.ok d) (hd : d.ok) (hpl : d.pend.length < 800000) {i : Int} (hnx : j.next < 4294967296) : Trip Tryd.prog 54 #[.pointer (some ⟨b, 0, none⟩), .int .i64 i] [jour b db j, disk db d, tblA] fun r Δ => r = .int .i64 (jtrim d j i).2.2 ∧ Δ = [jour b db (jtrim d j i).2.1, disk db (jtrim d j i).1] := by
  refine jour_open fun L hL => ?_
  obtain ⟨rs, la, lc⟩ := L
  obtain ⟨hheld, hrok⟩ := hL
  dsimp only at hheld hrok
  have hlen : rs.length = j.held.length := by rw [← hheld, List.length_map]
  have q1 := hj.first
  have q2 := hj.epoch
  have q3 := hj.low
  have q4 := hj.at_
  have q5 := hj.n
  have q6 := hj.held
  have q7 := hd.n
  have q8 := hj.eps
  unfold JN.next at hnx
  refine Trip.start 50 [.tmp 4] [(0, .pointer (some ⟨b, 0, none⟩)), (1, .int .i64 i)] Tryd.func54 rfl Tryd.ntmps54 rfl ⟨rfl, rfl, trivial⟩ rfl ?_
  refine WPC.seqR ?_
  refine stp ?_
  refine WPL.nil ?_
  refine WPC.seq ?_
  refine WPC.seqR ?_
  iterate 3 refine stp ?_
  apply WPL.joinO (e' := [(0, _), (1, _), (4, _)]) 7 15 8 rfl
  · intro g1_2
    try simp only [decide_eq_true_eq, decide_eq_false_iff_not, beq_iff_eq, bne_iff_ne, beq_eq_false_iff_ne, bne_eq_false_iff_eq, Bool.not_eq_true', Bool.not_eq_false', Bool.not_eq_eq_eq_not, Bool.not_true, Bool.not_false, ne_eq, Decidable.not_not, Int.not_lt, Int.not_le, gt_iff_lt, ge_iff_le] at g1_2
    refine L_no rfl rfl rfl rfl ?_
    refine L_no rfl rfl rfl rfl ?_
    refine L_no rfl rfl rfl rfl ?_
    refine L_no rfl rfl rfl rfl ?_
    refine L_no rfl rfl rfl rfl ?_
    refine L_no rfl rfl rfl rfl ?_
    refine L_no rfl rfl rfl rfl ?_
    refine stp ?_
    first | exact WPL.jn rfl rfl sbb | exact WPL.jnI rfl rfl sbb Imp.pk
  · intro g1_2
    try simp only [decide_eq_true_eq, decide_eq_false_iff_not, beq_iff_eq, bne_iff_ne, beq_eq_false_iff_ne, bne_eq_false_iff_eq, Bool.not_eq_true', Bool.not_eq_false', Bool.not_eq_eq_eq_not, Bool.not_true, Bool.not_false, ne_eq, Decidable.not_not, Int.not_lt, Int.not_le, gt_iff_lt, ge_iff_le] at g1_2
    iterate 7 refine stpY rfl rfl ?_
    refine stp ?_
    first | exact WPL.jn rfl rfl sbb | exact WPL.jnI rfl rfl sbb Imp.pk
  refine WPL.nil ?_
  refine WPC.cond rfl (fun h0 => ?_) (fun h0 => ?_)
  · have et : jtrim d j i = (d, j, 1) := by unfold jtrim; rw [if_pos (by simp at h0; omega)]
    rw [et]
    refine WPC.seqR ?_
    refine stp ?_
    refine WPL.nil ?_
    refine WPC.ret ?_
    refine thenQ_r ?_
    exact endR_r rfl (.tmp rfl .nil) ((Imp.pk).trans (jour_close (b := b) (db := db) (j := j) ⟨rs, la, lc⟩ ⟨hheld, hrok⟩ (Γ := [disk db d]))) ⟨rfl, rfl⟩
  · obtain ⟨k, rfl⟩ : ∃ k : Nat, i = (k : Int) := ⟨i.toNat, by simp at h0; omega⟩
    have hk : k ≤ rs.length := by simp at h0; omega
    obtain ⟨low', hlow⟩ : ∃ l, l = (if 0 < (k : Int) then ((j.held[k - 1]?).getD (0, [])).1 else j.low) := ⟨_, rfl⟩
    have hlowlt : low' < 4294967296 := by rw [hlow]; split; exact getD_lt q8 _; exact q3
    have et : jtrim d j k = ((jsave d ({ j with low := low', first := j.first + k, held := j.held.drop k } : JN)).1, ({ j with low := low', first := j.first + k, held := j.held.drop k } : JN), (jsave d ({ j with low := low', first := j.first + k, held := j.held.drop k } : JN)).2) := by unfold jtrim; rw [if_neg (by omega)]; simp only [Int.toNat_natCast, ← hlow]
    rw [et]
    refine WPC.skip ?_
    refine thenQ_n ?_
    refine WPC.seq ?_
    refine WPC.seqR ?_
    refine WPL.imp (Imp.pk (Δ := [buf 2 la rs.length lc (rs.flatMap encR), cells true b 0 (jourC db j ⟨rs, la, lc⟩), bytes (rs.map (·.x)), disk db d, tblA])) ?_
    refine WPL.bufAll fun sp hs hsp hpc => ?_
    iterate 2 refine stp ?_
    refine WPL.nil ?_
    refine WPC.midS (fun e Γ => e = [(0, .pointer (some ⟨b, 0, none⟩)), (1, .int .i64 (k : Int))] ∧ Γ = [cells true b 0 (jourC db { j with low := low' } ⟨rs, la, lc⟩), cells true (blk la) (off la) (rs.flatMap encR ++ sp), bytes (rs.map (·.x)), disk db d, tblA]) ?_ ?_
    · refine WPC.cond rfl (fun h1 => ?_) (fun h1 => ?_)
      · have hk0 : 0 < k := by simp at h1; omega
        have hp : Pl la := hs.at (by omega) (by omega)
        obtain ⟨r, hr⟩ : ∃ r, rs[k - 1]? = some r := ⟨rs[k - 1]'(by omega), by simp⟩
        have hl2 : low' = r.ep := by rw [hlow, if_pos (by omega), ← hheld]; simp [hr]
        have hget : (rs.flatMap encR ++ sp)[(k - 1) * 2]? = some (.int .u32 (r.ep : Int)) := by rw [List.getElem?_append_left (by rw [flat_length encR_len]; omega)]; exact flat_get encR_len rs (k - 1) 0 hr (by omega)
        refine WPC.region ?_
        iterate 6 refine stp ?_
        refine L_s (q_decN rfl rfl hk0 (by omega)) rfl ?_
        refine L_s (q_idxN (i := k - 1) sl_sl_journal_record rfl rfl (show k - 1 < rs.length by omega) hp) rfl ?_
        refine stp ?_
        refine L_s (q_load1 (i := (k - 1) * 2) ld_uint32 rfl mm rfl hget) rfl ?_
        rw [← hl2]
        iterate 2 refine stp ?_
        refine sto ?_
        refine WPL.nil ?_
        refine thenQ_n ?_
        exact ⟨rfl, _, _, ⟨rfl, rfl⟩, sbb, Imp.pk⟩
      · have hk0 : k = 0 := by simp at h1; omega
        have hl2 : low' = j.low := by rw [hlow, if_neg (by omega)]
        dsimp only [jourC]
        rw [← hl2]
        refine WPC.skip ?_
        refine thenQ_n ?_
        exact ⟨rfl, _, _, ⟨rfl, rfl⟩, sbb, Imp.pk⟩
    · rintro e Γ ⟨rfl, rfl⟩
      refine WPC.seqR ?_
      iterate 6 refine stp ?_
      refine L_s (q_add32 (a := j.first) (b := k) rfl rfl) rfl ?_
      rw [Nat.mod_eq_of_lt (show j.first + k < 4294967296 by omega)]
      iterate 2 refine stp ?_
      refine sto ?_
      refine WPL.nil ?_
      refine WPC.seqR ?_
      iterate 6 refine stp ?_
      refine kall rfl (c_Delete (n := rs.length) (c := lc) (k := k) hs rfl hk (by omega) hsp) ?_
      rintro _ _ ⟨sp', rfl, hsp', rfl⟩
      rw [show rs.length - k = (rs.drop k).length by simp]
      iterate 2 refine stp ?_
      refine sto ?_
      refine WPL.nil ?_
      refine WPC.seqR ?_
      refine stp ?_
      refine kall rfl (c_jsave (j := ({ j with low := low', first := j.first + k, held := j.held.drop k } : JN)) (L := ⟨rs.drop k, la, lc⟩) (d := d) ⟨q5, q4, by show j.first + k < _; omega, q2, hlowlt, by show (j.held.drop k).length ≤ _; rw [List.length_drop]; exact Nat.le_trans (Nat.sub_le _ _) q6, fun x hx => q8 x (List.mem_of_mem_drop hx)⟩ hd (by omega)) ?_
      rintro _ _ ⟨rfl, rfl⟩
      refine stp ?_
      refine WPL.nil ?_
      refine WPC.ret ?_
      rw [show rs.length - k = (rs.drop k).length by simp] at hsp'
      have hs4 : Sok 2 la (rs.drop k).length lc ((rs.drop k).flatMap encR) := ⟨flat_length encR_len _, by rw [List.length_drop]; exact Nat.le_trans (Nat.sub_le _ _) hs.cap, by rcases hs.pl with h | h; (left; exact List.eq_nil_of_length_eq_zero (by have := congrArg List.length h; rw [flat_length encR_len] at this; rw [flat_length encR_len, List.length_drop]; simp only [List.length_nil] at this; omega)); exact .inr h⟩
      exact endR_r rfl (.tmp rfl .nil) ((Imp.pk (Δ := [cells true (blk la) (off la) ((rs.drop k).flatMap encR ++ sp'), cells true b 0 (jourC db ({ j with low := low', first := j.first + k, held := j.held.drop k } : JN) ⟨(rs.drop k), la, lc⟩), bytes (rs.map (·.x)), disk db (jsave d ({ j with low := low', first := j.first + k, held := j.held.drop k } : JN)).1])).trans ((Imp.bufI hs4 hpc hsp').trans ((Imp.pk (Δ := [bytes (rs.map (·.x)), buf 2 la (rs.drop k).length lc ((rs.drop k).flatMap encR), cells true b 0 (jourC db ({ j with low := low', first := j.first + k, held := j.held.drop k } : JN) ⟨(rs.drop k), la, lc⟩), disk db (jsave d ({ j with low := low', first := j.first + k, held := j.held.drop k } : JN)).1])).trans ((bytes_sub (ys := (rs.drop k).map (·.x)) (fun y hy => by obtain ⟨r, hr, rfl⟩ := List.mem_map.1 hy; exact List.mem_map.2 ⟨r, List.mem_of_mem_drop hr, rfl⟩)).trans ((Imp.pk).trans (jour_close (b := b) (db := db) (j := ({ j with low := low', first := j.first + k, held := j.held.drop k } : JN)) ⟨rs.drop k, la, lc⟩ ⟨by rw [← hheld, List.map_drop], fun r hr => hrok r (List.mem_of_mem_drop hr)⟩ (Γ := [disk db (jsave d ({ j with low := low', first := j.first + k, held := j.held.drop k } : JN)).1]))))))) ⟨rfl, rfl⟩

end Go.Sl
