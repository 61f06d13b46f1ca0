/- Walks: references, comparing. -/
import Derived.Test.YtpipmojaonialaaWF
namespace Go.Sl
open Go Go.RowKit Go.Proofs
set_option linter.unusedSimpArgs false
set_option linter.unusedVariables false
attribute [local irreducible] faB szB ldB zB zL slB mkB arB plB intB cells objc star stars buf slv grp whole Sat WPC WPL WPA WPO Trip

theorem c_Entries {p q : Bool} {a a' : Option Addr} {n c c' : Nat} {es : List RE} {D : A} (hs : Sok 3 a n c (es.flatMap encE)) (hs' : Sok 3 a' n c' (es.flatMap encE)) (hn : n < 1073741824) (hd : ∀ x ∈ es, EData D x) : Trip Try.prog 56 #[.slice a n c, .slice a' n c'] [sl p a (es.flatMap encE), sl q a' (es.flatMap encE), D] fun r Δ => r = .bool true ∧ Δ = [sl p a (es.flatMap encE), sl q a' (es.flatMap encE), D] := by
  have hl : es.length = n := by have := hs.len; rw [flat_length encE_len] at this; omega
  refine Trip.start 55 [.tmp 4] [(0, .slice a n c), (1, .slice a' n c')] Try.func56 rfl Try.ntmps56 rfl ⟨rfl, rfl, trivial⟩ rfl ?_
  refine WPC.seqR ?_
  refine L_s (q_assign rfl) rfl ?_
  refine WPL.nil ?_
  refine WPC.seq ?_
  refine WPC.seqR ?_
  refine L_s (q_move rfl) rfl ?_
  refine L_s (q_len rfl un_sl_api_Entry rfl) rfl ?_
  refine L_s (q_move rfl) rfl ?_
  refine L_s (q_len rfl un_sl_api_Entry rfl) rfl ?_
  refine L_s (q_int rfl rfl rfl) rfl ?_
  refine WPL.nil ?_
  refine WPC.cond rfl (fun h0 => ?_) (fun h0 => ?_)
  · try simp only [decide_eq_true_eq, decide_eq_false_iff_not, beq_iff_eq, bne_iff_ne, beq_eq_false_iff_ne, bne_eq_false_iff_eq, Bool.not_eq_true', Bool.not_eq_false', Bool.not_eq_eq_eq_not, Bool.not_true, Bool.not_false, ne_eq, Decidable.not_not, Int.not_lt, Int.not_le, gt_iff_lt, ge_iff_le] at h0
    simp at h0
  · try simp only [decide_eq_true_eq, decide_eq_false_iff_not, beq_iff_eq, bne_iff_ne, beq_eq_false_iff_ne, bne_eq_false_iff_eq, Bool.not_eq_true', Bool.not_eq_false', Bool.not_eq_eq_eq_not, Bool.not_true, Bool.not_false, ne_eq, Decidable.not_not, Int.not_lt, Int.not_le, gt_iff_lt, ge_iff_le] at h0
    refine WPC.skip ?_
    refine thenQ_n ?_
    refine WPC.seq ?_
    refine WPC.seqR ?_
    refine L_s (q_assign rfl) rfl ?_
    refine WPL.nil ?_
    refine WPC.block ?_
    refine WPC.loopS (fun m e Γ => ∃ k : Nat, m = n - k ∧ k ≤ n ∧ e = [(0, .slice a n c), (1, .slice a' n c'), (5, .int .i64 (k : Int))] ∧ Γ = [sl p a (es.flatMap encE), sl q a' (es.flatMap encE), D]) (n) ⟨0, rfl, by omega, rfl, rfl⟩ (by repeat (first | exact trivial | refine ⟨rfl, ?_⟩)) (Imp.pick (by repeat (first | exact Pick.nil | apply Pick.keep (by repeat (first | exact List.Mem.head _ | apply List.Mem.tail)) (by first | exact Pers.cells _ _ _ | exact Pers.slv _ _ _) | apply Pick.cons (by repeat (first | exact Pick1.here | apply Pick1.there))))) ?_
    rintro m e Γ ⟨k, rfl, hk, rfl, rfl⟩
    refine WPC.seq ?_
    refine WPC.seqR ?_
    refine L_s (q_move rfl) rfl ?_
    refine L_s (q_move rfl) rfl ?_
    refine L_s (q_len rfl un_sl_api_Entry rfl) rfl ?_
    refine L_s (q_int rfl rfl rfl) rfl ?_
    refine WPL.nil ?_
    refine WPC.cond rfl (fun h1 => ?_) (fun h1 => ?_)
    · simp only [decide_eq_true_eq] at h1
      have hk' : k < n := by omega
      have hp : Pl a := hs.at (by omega) (by omega)
      have hp' : Pl a' := hs'.at (by omega) (by omega)
      obtain ⟨x, hx⟩ : ∃ x, es[k]? = some x := ⟨es[k]'(by omega), by simp⟩
      obtain ⟨bs, hb, hbn, hbd⟩ := hd x (List.mem_of_getElem? hx)
      refine WPC.skip ?_
      refine thenQ_n ?_
      refine WPC.seq ?_
      refine WPC.block ?_
      refine WPC.seqD mixed ?_
      refine WPA.takeP 0 rfl (q_move rfl) (by kernel_rfl) (by kernel_rfl) (by kernel_rfl) rfl rfl (.nil _) ?_
      refine WPA.putS ?_
      refine WPA.takeP 1 rfl (q_move rfl) (by kernel_rfl) (by kernel_rfl) (by kernel_rfl) rfl rfl (.nil _) ?_
      refine WPA.putS ?_
      first | refine WPA.takeP 2 rfl (q_idxN sl_sl_api_Entry rfl rfl (by omega) (by assumption)) (by kernel_rfl) (by kernel_rfl) (by kernel_rfl) rfl rfl (.nil _) ?_ | refine WPA.takeP 2 rfl (q_idx sl_sl_api_Entry rfl rfl (by omega) (by omega) (by assumption)) (by kernel_rfl) (by kernel_rfl) (by kernel_rfl) rfl rfl (.nil _) ?_
      refine WPA.putS ?_
      first | refine WPA.takeP 3 rfl (q_faK fa_api_Entry_Term rfl) (by kernel_rfl) (by kernel_rfl) (by kernel_rfl) rfl rfl (.nil _) ?_ | refine WPA.takeP 3 rfl (q_fa fa_api_Entry_Term rfl) (by kernel_rfl) (by kernel_rfl) (by kernel_rfl) rfl rfl (.nil _) ?_
      refine WPA.putS ?_
      refine WPA.takeL 4 rfl (Ent.mem (by repeat (first | exact List.Mem.head _ | apply List.Mem.tail))) (q_ldFlat1 (k := 3) (i := k) (j := 0) (e := x) ld_uint64 rfl (.head _) encE_len hx (by omega) rfl) (by kernel_rfl) (by kernel_rfl) (by kernel_rfl) rfl rfl (.nil _) ?_
      refine WPA.putS ?_
      refine WPA.takeP 5 rfl (q_move rfl) (by kernel_rfl) (by kernel_rfl) (by kernel_rfl) rfl rfl (.cons (Ent.mem (by repeat (first | exact List.Mem.head _ | apply List.Mem.tail))) (.nil _)) ?_
      refine WPA.putS ?_
      refine WPA.takeP 6 rfl (q_move rfl) (by kernel_rfl) (by kernel_rfl) (by kernel_rfl) rfl rfl (.cons (Ent.mem (by repeat (first | exact List.Mem.head _ | apply List.Mem.tail))) (.nil _)) ?_
      refine WPA.putS ?_
      first | refine WPA.takeP 7 rfl (q_idxN sl_sl_api_Entry rfl rfl (by omega) (by assumption)) (by kernel_rfl) (by kernel_rfl) (by kernel_rfl) rfl rfl (.cons (Ent.mem (by repeat (first | exact List.Mem.head _ | apply List.Mem.tail))) (.nil _)) ?_ | refine WPA.takeP 7 rfl (q_idx sl_sl_api_Entry rfl rfl (by omega) (by omega) (by assumption)) (by kernel_rfl) (by kernel_rfl) (by kernel_rfl) rfl rfl (.cons (Ent.mem (by repeat (first | exact List.Mem.head _ | apply List.Mem.tail))) (.nil _)) ?_
      refine WPA.putS ?_
      first | refine WPA.takeP 8 rfl (q_faK fa_api_Entry_Term rfl) (by kernel_rfl) (by kernel_rfl) (by kernel_rfl) rfl rfl (.cons (Ent.mem (by repeat (first | exact List.Mem.head _ | apply List.Mem.tail))) (.nil _)) ?_ | refine WPA.takeP 8 rfl (q_fa fa_api_Entry_Term rfl) (by kernel_rfl) (by kernel_rfl) (by kernel_rfl) rfl rfl (.cons (Ent.mem (by repeat (first | exact List.Mem.head _ | apply List.Mem.tail))) (.nil _)) ?_
      refine WPA.putS ?_
      refine WPA.takeL 9 rfl (Ent.mem (by repeat (first | exact List.Mem.head _ | apply List.Mem.tail))) (q_ldFlat1 (k := 3) (i := k) (j := 0) (e := x) ld_uint64 rfl (.head _) encE_len hx (by omega) rfl) (by kernel_rfl) (by kernel_rfl) (by kernel_rfl) rfl rfl (.cons (Ent.mem (by repeat (first | exact List.Mem.head _ | apply List.Mem.tail))) (.nil _)) ?_
      refine WPA.putS ?_
      refine WPA.takeP 10 rfl (q_int rfl rfl rfl) (by kernel_rfl) (by kernel_rfl) (by kernel_rfl) rfl rfl (.cons (Ent.mem (by repeat (first | exact List.Mem.head _ | apply List.Mem.tail))) (.cons (Ent.mem (by repeat (first | exact List.Mem.head _ | apply List.Mem.tail))) (.nil _))) ?_
      refine WPA.putS ?_
      refine WPA.takeP 11 rfl (q_move rfl) (by kernel_rfl) (by kernel_rfl) (by kernel_rfl) rfl rfl (.cons (Ent.mem (by repeat (first | exact List.Mem.head _ | apply List.Mem.tail))) (.cons (Ent.mem (by repeat (first | exact List.Mem.head _ | apply List.Mem.tail))) (.nil _))) ?_
      refine WPA.putS ?_
      refine WPA.split 28 _ rfl (fun g6_11 => ?_) (fun g6_11 => ?_)
      · try simp only [decide_eq_true_eq, decide_eq_false_iff_not, beq_iff_eq, bne_iff_ne, beq_eq_false_iff_ne, bne_eq_false_iff_eq, Bool.not_eq_true', Bool.not_eq_false', Bool.not_eq_eq_eq_not, Bool.not_true, Bool.not_false, ne_eq, Decidable.not_not, Int.not_lt, Int.not_le, gt_iff_lt, ge_iff_le] at g6_11
        simp at g6_11
      · try simp only [decide_eq_true_eq, decide_eq_false_iff_not, beq_iff_eq, bne_iff_ne, beq_eq_false_iff_ne, bne_eq_false_iff_eq, Bool.not_eq_true', Bool.not_eq_false', Bool.not_eq_eq_eq_not, Bool.not_true, Bool.not_false, ne_eq, Decidable.not_not, Int.not_lt, Int.not_le, gt_iff_lt, ge_iff_le] at g6_11
        refine WPA.takePY 12 rfl rfl rfl rfl (q_move rfl) (by kernel_rfl) (by kernel_rfl) (by kernel_rfl) rfl (.cons (Ent.mem (by repeat (first | exact List.Mem.head _ | apply List.Mem.tail))) (.cons (Ent.mem (by repeat (first | exact List.Mem.head _ | apply List.Mem.tail))) (.nil _))) ?_
        refine WPA.putS ?_
        refine WPA.takePY 13 rfl rfl rfl rfl (q_move rfl) (by kernel_rfl) (by kernel_rfl) (by kernel_rfl) rfl (.cons (Ent.mem (by repeat (first | exact List.Mem.head _ | apply List.Mem.tail))) (.cons (Ent.mem (by repeat (first | exact List.Mem.head _ | apply List.Mem.tail))) (.nil _))) ?_
        refine WPA.putS ?_
        first | refine WPA.takePY 14 rfl rfl rfl rfl (q_idxN sl_sl_api_Entry rfl rfl (by omega) (by assumption)) (by kernel_rfl) (by kernel_rfl) (by kernel_rfl) rfl (.cons (Ent.mem (by repeat (first | exact List.Mem.head _ | apply List.Mem.tail))) (.cons (Ent.mem (by repeat (first | exact List.Mem.head _ | apply List.Mem.tail))) (.nil _))) ?_ | refine WPA.takePY 14 rfl rfl rfl rfl (q_idx sl_sl_api_Entry rfl rfl (by omega) (by omega) (by assumption)) (by kernel_rfl) (by kernel_rfl) (by kernel_rfl) rfl (.cons (Ent.mem (by repeat (first | exact List.Mem.head _ | apply List.Mem.tail))) (.cons (Ent.mem (by repeat (first | exact List.Mem.head _ | apply List.Mem.tail))) (.nil _))) ?_
        refine WPA.putS ?_
        first | refine WPA.takePY 15 rfl rfl rfl rfl (q_faK fa_api_Entry_Kind rfl) (by kernel_rfl) (by kernel_rfl) (by kernel_rfl) rfl (.cons (Ent.mem (by repeat (first | exact List.Mem.head _ | apply List.Mem.tail))) (.cons (Ent.mem (by repeat (first | exact List.Mem.head _ | apply List.Mem.tail))) (.nil _))) ?_ | refine WPA.takePY 15 rfl rfl rfl rfl (q_fa fa_api_Entry_Kind rfl) (by kernel_rfl) (by kernel_rfl) (by kernel_rfl) rfl (.cons (Ent.mem (by repeat (first | exact List.Mem.head _ | apply List.Mem.tail))) (.cons (Ent.mem (by repeat (first | exact List.Mem.head _ | apply List.Mem.tail))) (.nil _))) ?_
        refine WPA.putS ?_
        refine WPA.takeLY 16 rfl (Ent.mem (by repeat (first | exact List.Mem.head _ | apply List.Mem.tail))) rfl rfl rfl (q_ldFlat1 (k := 3) (i := k) (j := 1) (e := x) ld_int rfl (.head _) encE_len hx (by omega) rfl) (by kernel_rfl) (by kernel_rfl) (by kernel_rfl) rfl (.cons (Ent.mem (by repeat (first | exact List.Mem.head _ | apply List.Mem.tail))) (.cons (Ent.mem (by repeat (first | exact List.Mem.head _ | apply List.Mem.tail))) (.nil _))) ?_
        refine WPA.putS ?_
        refine WPA.takePY 17 rfl rfl rfl rfl (q_move rfl) (by kernel_rfl) (by kernel_rfl) (by kernel_rfl) rfl (.cons (Ent.mem (by repeat (first | exact List.Mem.head _ | apply List.Mem.tail))) (.cons (Ent.mem (by repeat (first | exact List.Mem.head _ | apply List.Mem.tail))) (.cons (Ent.mem (by repeat (first | exact List.Mem.head _ | apply List.Mem.tail))) (.nil _)))) ?_
        refine WPA.putS ?_
        refine WPA.takePY 18 rfl rfl rfl rfl (q_move rfl) (by kernel_rfl) (by kernel_rfl) (by kernel_rfl) rfl (.cons (Ent.mem (by repeat (first | exact List.Mem.head _ | apply List.Mem.tail))) (.cons (Ent.mem (by repeat (first | exact List.Mem.head _ | apply List.Mem.tail))) (.cons (Ent.mem (by repeat (first | exact List.Mem.head _ | apply List.Mem.tail))) (.nil _)))) ?_
        refine WPA.putS ?_
        first | refine WPA.takePY 19 rfl rfl rfl rfl (q_idxN sl_sl_api_Entry rfl rfl (by omega) (by assumption)) (by kernel_rfl) (by kernel_rfl) (by kernel_rfl) rfl (.cons (Ent.mem (by repeat (first | exact List.Mem.head _ | apply List.Mem.tail))) (.cons (Ent.mem (by repeat (first | exact List.Mem.head _ | apply List.Mem.tail))) (.cons (Ent.mem (by repeat (first | exact List.Mem.head _ | apply List.Mem.tail))) (.nil _)))) ?_ | refine WPA.takePY 19 rfl rfl rfl rfl (q_idx sl_sl_api_Entry rfl rfl (by omega) (by omega) (by assumption)) (by kernel_rfl) (by kernel_rfl) (by kernel_rfl) rfl (.cons (Ent.mem (by repeat (first | exact List.Mem.head _ | apply List.Mem.tail))) (.cons (Ent.mem (by repeat (first | exact List.Mem.head _ | apply List.Mem.tail))) (.cons (Ent.mem (by repeat (first | exact List.Mem.head _ | apply List.Mem.tail))) (.nil _)))) ?_
        refine WPA.putS ?_
        first | refine WPA.takePY 20 rfl rfl rfl rfl (q_faK fa_api_Entry_Kind rfl) (by kernel_rfl) (by kernel_rfl) (by kernel_rfl) rfl (.cons (Ent.mem (by repeat (first | exact List.Mem.head _ | apply List.Mem.tail))) (.cons (Ent.mem (by repeat (first | exact List.Mem.head _ | apply List.Mem.tail))) (.cons (Ent.mem (by repeat (first | exact List.Mem.head _ | apply List.Mem.tail))) (.nil _)))) ?_ | refine WPA.takePY 20 rfl rfl rfl rfl (q_fa fa_api_Entry_Kind rfl) (by kernel_rfl) (by kernel_rfl) (by kernel_rfl) rfl (.cons (Ent.mem (by repeat (first | exact List.Mem.head _ | apply List.Mem.tail))) (.cons (Ent.mem (by repeat (first | exact List.Mem.head _ | apply List.Mem.tail))) (.cons (Ent.mem (by repeat (first | exact List.Mem.head _ | apply List.Mem.tail))) (.nil _)))) ?_
        refine WPA.putS ?_
        refine WPA.takeLY 21 rfl (Ent.mem (by repeat (first | exact List.Mem.head _ | apply List.Mem.tail))) rfl rfl rfl (q_ldFlat1 (k := 3) (i := k) (j := 1) (e := x) ld_int rfl (.head _) encE_len hx (by omega) rfl) (by kernel_rfl) (by kernel_rfl) (by kernel_rfl) rfl (.cons (Ent.mem (by repeat (first | exact List.Mem.head _ | apply List.Mem.tail))) (.cons (Ent.mem (by repeat (first | exact List.Mem.head _ | apply List.Mem.tail))) (.cons (Ent.mem (by repeat (first | exact List.Mem.head _ | apply List.Mem.tail))) (.nil _)))) ?_
        refine WPA.putS ?_
        refine WPA.takePY 22 rfl rfl rfl rfl (q_int rfl rfl rfl) (by kernel_rfl) (by kernel_rfl) (by kernel_rfl) rfl (.cons (Ent.mem (by repeat (first | exact List.Mem.head _ | apply List.Mem.tail))) (.cons (Ent.mem (by repeat (first | exact List.Mem.head _ | apply List.Mem.tail))) (.cons (Ent.mem (by repeat (first | exact List.Mem.head _ | apply List.Mem.tail))) (.cons (Ent.mem (by repeat (first | exact List.Mem.head _ | apply List.Mem.tail))) (.nil _))))) ?_
        refine WPA.putS ?_
        first | refine WPA.takeP 23 rfl (q_pickT rfl rfl) (by kernel_rfl) (by kernel_rfl) (by kernel_rfl) rfl rfl (.cons (Ent.mem (by repeat (first | exact List.Mem.head _ | apply List.Mem.tail))) (.cons (Ent.mem (by repeat (first | exact List.Mem.head _ | apply List.Mem.tail))) (.cons (Ent.mem (by repeat (first | exact List.Mem.head _ | apply List.Mem.tail))) (.cons (Ent.mem (by repeat (first | exact List.Mem.head _ | apply List.Mem.tail))) (.nil _))))) ?_ | refine WPA.takeP 23 rfl (q_pickF rfl rfl) (by kernel_rfl) (by kernel_rfl) (by kernel_rfl) rfl rfl (.cons (Ent.mem (by repeat (first | exact List.Mem.head _ | apply List.Mem.tail))) (.cons (Ent.mem (by repeat (first | exact List.Mem.head _ | apply List.Mem.tail))) (.cons (Ent.mem (by repeat (first | exact List.Mem.head _ | apply List.Mem.tail))) (.cons (Ent.mem (by repeat (first | exact List.Mem.head _ | apply List.Mem.tail))) (.nil _))))) ?_
        refine WPA.putS ?_
        refine WPA.takeP 24 rfl (q_move rfl) (by kernel_rfl) (by kernel_rfl) (by kernel_rfl) rfl rfl (.cons (Ent.mem (by repeat (first | exact List.Mem.head _ | apply List.Mem.tail))) (.cons (Ent.mem (by repeat (first | exact List.Mem.head _ | apply List.Mem.tail))) (.cons (Ent.mem (by repeat (first | exact List.Mem.head _ | apply List.Mem.tail))) (.cons (Ent.mem (by repeat (first | exact List.Mem.head _ | apply List.Mem.tail))) (.nil _))))) ?_
        refine WPA.putS ?_
        refine WPA.split 41 _ rfl (fun g6_24 => ?_) (fun g6_24 => ?_)
        · try simp only [decide_eq_true_eq, decide_eq_false_iff_not, beq_iff_eq, bne_iff_ne, beq_eq_false_iff_ne, bne_eq_false_iff_eq, Bool.not_eq_true', Bool.not_eq_false', Bool.not_eq_eq_eq_not, Bool.not_true, Bool.not_false, ne_eq, Decidable.not_not, Int.not_lt, Int.not_le, gt_iff_lt, ge_iff_le] at g6_24
          simp at g6_24
        · try simp only [decide_eq_true_eq, decide_eq_false_iff_not, beq_iff_eq, bne_iff_ne, beq_eq_false_iff_ne, bne_eq_false_iff_eq, Bool.not_eq_true', Bool.not_eq_false', Bool.not_eq_eq_eq_not, Bool.not_true, Bool.not_false, ne_eq, Decidable.not_not, Int.not_lt, Int.not_le, gt_iff_lt, ge_iff_le] at g6_24
          refine WPA.takePY 25 rfl rfl rfl rfl (q_move rfl) (by kernel_rfl) (by kernel_rfl) (by kernel_rfl) rfl (.cons (Ent.mem (by repeat (first | exact List.Mem.head _ | apply List.Mem.tail))) (.cons (Ent.mem (by repeat (first | exact List.Mem.head _ | apply List.Mem.tail))) (.cons (Ent.mem (by repeat (first | exact List.Mem.head _ | apply List.Mem.tail))) (.cons (Ent.mem (by repeat (first | exact List.Mem.head _ | apply List.Mem.tail))) (.nil _))))) ?_
          refine WPA.putS ?_
          refine WPA.takePY 26 rfl rfl rfl rfl (q_move rfl) (by kernel_rfl) (by kernel_rfl) (by kernel_rfl) rfl (.cons (Ent.mem (by repeat (first | exact List.Mem.head _ | apply List.Mem.tail))) (.cons (Ent.mem (by repeat (first | exact List.Mem.head _ | apply List.Mem.tail))) (.cons (Ent.mem (by repeat (first | exact List.Mem.head _ | apply List.Mem.tail))) (.cons (Ent.mem (by repeat (first | exact List.Mem.head _ | apply List.Mem.tail))) (.nil _))))) ?_
          refine WPA.putS ?_
          first | refine WPA.takePY 27 rfl rfl rfl rfl (q_idxN sl_sl_api_Entry rfl rfl (by omega) (by assumption)) (by kernel_rfl) (by kernel_rfl) (by kernel_rfl) rfl (.cons (Ent.mem (by repeat (first | exact List.Mem.head _ | apply List.Mem.tail))) (.cons (Ent.mem (by repeat (first | exact List.Mem.head _ | apply List.Mem.tail))) (.cons (Ent.mem (by repeat (first | exact List.Mem.head _ | apply List.Mem.tail))) (.cons (Ent.mem (by repeat (first | exact List.Mem.head _ | apply List.Mem.tail))) (.nil _))))) ?_ | refine WPA.takePY 27 rfl rfl rfl rfl (q_idx sl_sl_api_Entry rfl rfl (by omega) (by omega) (by assumption)) (by kernel_rfl) (by kernel_rfl) (by kernel_rfl) rfl (.cons (Ent.mem (by repeat (first | exact List.Mem.head _ | apply List.Mem.tail))) (.cons (Ent.mem (by repeat (first | exact List.Mem.head _ | apply List.Mem.tail))) (.cons (Ent.mem (by repeat (first | exact List.Mem.head _ | apply List.Mem.tail))) (.cons (Ent.mem (by repeat (first | exact List.Mem.head _ | apply List.Mem.tail))) (.nil _))))) ?_
          refine WPA.putS ?_
          first | refine WPA.takePY 28 rfl rfl rfl rfl (q_faK fa_api_Entry_Data rfl) (by kernel_rfl) (by kernel_rfl) (by kernel_rfl) rfl (.cons (Ent.mem (by repeat (first | exact List.Mem.head _ | apply List.Mem.tail))) (.cons (Ent.mem (by repeat (first | exact List.Mem.head _ | apply List.Mem.tail))) (.cons (Ent.mem (by repeat (first | exact List.Mem.head _ | apply List.Mem.tail))) (.cons (Ent.mem (by repeat (first | exact List.Mem.head _ | apply List.Mem.tail))) (.nil _))))) ?_ | refine WPA.takePY 28 rfl rfl rfl rfl (q_fa fa_api_Entry_Data rfl) (by kernel_rfl) (by kernel_rfl) (by kernel_rfl) rfl (.cons (Ent.mem (by repeat (first | exact List.Mem.head _ | apply List.Mem.tail))) (.cons (Ent.mem (by repeat (first | exact List.Mem.head _ | apply List.Mem.tail))) (.cons (Ent.mem (by repeat (first | exact List.Mem.head _ | apply List.Mem.tail))) (.cons (Ent.mem (by repeat (first | exact List.Mem.head _ | apply List.Mem.tail))) (.nil _))))) ?_
          refine WPA.putS ?_
          refine WPA.takeLY 29 rfl (Ent.mem (by repeat (first | exact List.Mem.head _ | apply List.Mem.tail))) rfl rfl rfl (q_ldFlat1 (k := 3) (i := k) (j := 2) (e := x) ld_sl_uint8 rfl (.head _) encE_len hx (by omega) rfl) (by kernel_rfl) (by kernel_rfl) (by kernel_rfl) rfl (.cons (Ent.mem (by repeat (first | exact List.Mem.head _ | apply List.Mem.tail))) (.cons (Ent.mem (by repeat (first | exact List.Mem.head _ | apply List.Mem.tail))) (.cons (Ent.mem (by repeat (first | exact List.Mem.head _ | apply List.Mem.tail))) (.cons (Ent.mem (by repeat (first | exact List.Mem.head _ | apply List.Mem.tail))) (.nil _))))) ?_
          refine WPA.putS ?_
          refine WPA.takePY 30 rfl rfl rfl rfl (q_move rfl) (by kernel_rfl) (by kernel_rfl) (by kernel_rfl) rfl (.cons (Ent.mem (by repeat (first | exact List.Mem.head _ | apply List.Mem.tail))) (.cons (Ent.mem (by repeat (first | exact List.Mem.head _ | apply List.Mem.tail))) (.cons (Ent.mem (by repeat (first | exact List.Mem.head _ | apply List.Mem.tail))) (.cons (Ent.mem (by repeat (first | exact List.Mem.head _ | apply List.Mem.tail))) (.cons (Ent.mem (by repeat (first | exact List.Mem.head _ | apply List.Mem.tail))) (.nil _)))))) ?_
          refine WPA.putS ?_
          refine WPA.takePY 31 rfl rfl rfl rfl (q_move rfl) (by kernel_rfl) (by kernel_rfl) (by kernel_rfl) rfl (.cons (Ent.mem (by repeat (first | exact List.Mem.head _ | apply List.Mem.tail))) (.cons (Ent.mem (by repeat (first | exact List.Mem.head _ | apply List.Mem.tail))) (.cons (Ent.mem (by repeat (first | exact List.Mem.head _ | apply List.Mem.tail))) (.cons (Ent.mem (by repeat (first | exact List.Mem.head _ | apply List.Mem.tail))) (.cons (Ent.mem (by repeat (first | exact List.Mem.head _ | apply List.Mem.tail))) (.nil _)))))) ?_
          refine WPA.putS ?_
          first | refine WPA.takePY 32 rfl rfl rfl rfl (q_idxN sl_sl_api_Entry rfl rfl (by omega) (by assumption)) (by kernel_rfl) (by kernel_rfl) (by kernel_rfl) rfl (.cons (Ent.mem (by repeat (first | exact List.Mem.head _ | apply List.Mem.tail))) (.cons (Ent.mem (by repeat (first | exact List.Mem.head _ | apply List.Mem.tail))) (.cons (Ent.mem (by repeat (first | exact List.Mem.head _ | apply List.Mem.tail))) (.cons (Ent.mem (by repeat (first | exact List.Mem.head _ | apply List.Mem.tail))) (.cons (Ent.mem (by repeat (first | exact List.Mem.head _ | apply List.Mem.tail))) (.nil _)))))) ?_ | refine WPA.takePY 32 rfl rfl rfl rfl (q_idx sl_sl_api_Entry rfl rfl (by omega) (by omega) (by assumption)) (by kernel_rfl) (by kernel_rfl) (by kernel_rfl) rfl (.cons (Ent.mem (by repeat (first | exact List.Mem.head _ | apply List.Mem.tail))) (.cons (Ent.mem (by repeat (first | exact List.Mem.head _ | apply List.Mem.tail))) (.cons (Ent.mem (by repeat (first | exact List.Mem.head _ | apply List.Mem.tail))) (.cons (Ent.mem (by repeat (first | exact List.Mem.head _ | apply List.Mem.tail))) (.cons (Ent.mem (by repeat (first | exact List.Mem.head _ | apply List.Mem.tail))) (.nil _)))))) ?_
          refine WPA.putS ?_
          first | refine WPA.takePY 33 rfl rfl rfl rfl (q_faK fa_api_Entry_Data rfl) (by kernel_rfl) (by kernel_rfl) (by kernel_rfl) rfl (.cons (Ent.mem (by repeat (first | exact List.Mem.head _ | apply List.Mem.tail))) (.cons (Ent.mem (by repeat (first | exact List.Mem.head _ | apply List.Mem.tail))) (.cons (Ent.mem (by repeat (first | exact List.Mem.head _ | apply List.Mem.tail))) (.cons (Ent.mem (by repeat (first | exact List.Mem.head _ | apply List.Mem.tail))) (.cons (Ent.mem (by repeat (first | exact List.Mem.head _ | apply List.Mem.tail))) (.nil _)))))) ?_ | refine WPA.takePY 33 rfl rfl rfl rfl (q_fa fa_api_Entry_Data rfl) (by kernel_rfl) (by kernel_rfl) (by kernel_rfl) rfl (.cons (Ent.mem (by repeat (first | exact List.Mem.head _ | apply List.Mem.tail))) (.cons (Ent.mem (by repeat (first | exact List.Mem.head _ | apply List.Mem.tail))) (.cons (Ent.mem (by repeat (first | exact List.Mem.head _ | apply List.Mem.tail))) (.cons (Ent.mem (by repeat (first | exact List.Mem.head _ | apply List.Mem.tail))) (.cons (Ent.mem (by repeat (first | exact List.Mem.head _ | apply List.Mem.tail))) (.nil _)))))) ?_
          refine WPA.putS ?_
          refine WPA.takeLY 34 rfl (Ent.mem (by repeat (first | exact List.Mem.head _ | apply List.Mem.tail))) rfl rfl rfl (q_ldFlat1 (k := 3) (i := k) (j := 2) (e := x) ld_sl_uint8 rfl (.head _) encE_len hx (by omega) rfl) (by kernel_rfl) (by kernel_rfl) (by kernel_rfl) rfl (.cons (Ent.mem (by repeat (first | exact List.Mem.head _ | apply List.Mem.tail))) (.cons (Ent.mem (by repeat (first | exact List.Mem.head _ | apply List.Mem.tail))) (.cons (Ent.mem (by repeat (first | exact List.Mem.head _ | apply List.Mem.tail))) (.cons (Ent.mem (by repeat (first | exact List.Mem.head _ | apply List.Mem.tail))) (.cons (Ent.mem (by repeat (first | exact List.Mem.head _ | apply List.Mem.tail))) (.nil _)))))) ?_
          refine WPA.putS ?_
          refine WPA.imp ((Imp.pick (Δ := [D, sl p a (es.flatMap encE), sl q a' (es.flatMap encE)]) (by repeat (first | exact Pick.nil | apply Pick.keep (by repeat (first | exact List.Mem.head _ | apply List.Mem.tail)) (by first | exact Pers.cells _ _ _ | exact Pers.slv _ _ _) | apply Pick.cons (by repeat (first | exact Pick1.here | apply Pick1.there))))).trans ((hbd _).trans (Imp.cons _ (hbd _)))) ?_
          refine WPA.oneY 35 [] (by kernel_rfl) rfl rfl rfl rfl (by repeat (first | exact .nil | refine .anc rfl ?_ | refine .keep (by repeat (first | exact List.Mem.head _ | apply List.Mem.tail)) ?_)) (C1.call (c_call Try.func57 rfl rfl rfl) (c_Same01 (p := false) (q := false) hb hb hbn) (by repeat (first | exact Pick.nil | apply Pick.keep (by repeat (first | exact List.Mem.head _ | apply List.Mem.tail)) (by first | exact Pers.cells _ _ _ | exact Pers.slv _ _ _) | apply Pick.cons (by repeat (first | exact Pick1.here | apply Pick1.there)))) rfl ?_)
          rintro _ _ ⟨rfl, rfl⟩
          refine ⟨(.nil _), ?_⟩
          refine WPA.putS ?_
          refine WPA.takePY 36 rfl rfl rfl rfl (q_not rfl) (by kernel_rfl) (by kernel_rfl) (by kernel_rfl) rfl (.nil _) ?_
          refine WPA.putS ?_
          first | refine WPA.takeP 37 rfl (q_pickT rfl rfl) (by kernel_rfl) (by kernel_rfl) (by kernel_rfl) rfl rfl (.nil _) ?_ | refine WPA.takeP 37 rfl (q_pickF rfl rfl) (by kernel_rfl) (by kernel_rfl) (by kernel_rfl) rfl rfl (.nil _) ?_
          refine WPA.putS ?_
          refine WPA.done (by kernel_rfl) ?_
          refine WPC.cond rfl (fun h2 => ?_) (fun h2 => ?_)
          · try simp only [decide_eq_true_eq, decide_eq_false_iff_not, beq_iff_eq, bne_iff_ne, beq_eq_false_iff_ne, bne_eq_false_iff_eq, Bool.not_eq_true', Bool.not_eq_false', Bool.not_eq_eq_eq_not, Bool.not_true, Bool.not_false, ne_eq, Decidable.not_not, Int.not_lt, Int.not_le, gt_iff_lt, ge_iff_le] at h2
            simp at h2
          · try simp only [decide_eq_true_eq, decide_eq_false_iff_not, beq_iff_eq, bne_iff_ne, beq_eq_false_iff_ne, bne_eq_false_iff_eq, Bool.not_eq_true', Bool.not_eq_false', Bool.not_eq_eq_eq_not, Bool.not_true, Bool.not_false, ne_eq, Decidable.not_not, Int.not_lt, Int.not_le, gt_iff_lt, ge_iff_le] at h2
            refine WPC.skip ?_
            refine blockQ_n ?_
            refine thenQ_n ?_
            refine WPC.region ?_
            refine L_s (q_move rfl) rfl ?_
            first | refine L_s (q_inc rfl rfl (by omega)) rfl ?_ | refine L_s (q_addI rfl rfl (by omega)) rfl ?_ | refine L_s (q_int rfl rfl rfl) rfl ?_
            refine L_s (q_assign rfl) rfl ?_
            refine WPL.nil ?_
            refine thenQ_n ?_
            exact ⟨rfl, _, _, _, by omega, ⟨k + 1, rfl, by omega, rfl, rfl⟩, (by repeat (first | exact trivial | refine ⟨rfl, ?_⟩)), Imp.pick (by repeat (first | exact Pick.nil | apply Pick.keep (by repeat (first | exact List.Mem.head _ | apply List.Mem.tail)) (by first | exact Pers.cells _ _ _ | exact Pers.slv _ _ _) | apply Pick.cons (by repeat (first | exact Pick1.here | apply Pick1.there))))⟩
    · skip
      refine WPC.exit ?_
      refine thenQ_e ?_
      refine thenQ_e ?_
      refine blockQ_here ?_
      refine thenQ_n ?_
      refine WPC.seqR ?_
      refine L_s (q_assign rfl) rfl ?_
      refine WPL.nil ?_
      refine WPC.ret ?_
      exact endR_r rfl (.tmp rfl .nil) (Imp.pick (by repeat (first | exact Pick.nil | apply Pick.keep (by repeat (first | exact List.Mem.head _ | apply List.Mem.tail)) (by first | exact Pers.cells _ _ _ | exact Pers.slv _ _ _) | apply Pick.cons (by repeat (first | exact Pick1.here | apply Pick1.there))))) ⟨rfl, rfl⟩

theorem c_Same03 (kd fr to_ tm ix pv cm : Int) (okb : Bool) : Trip Try.prog 42 #[.agg (encM (⟨kd, fr, to_, tm, ix, pv, cm, okb, none, 0, 0, none, 0, 0⟩ : RM)).toArray, .agg (encM (⟨kd, fr, to_, tm, ix, pv, cm, okb, none, 0, 0, none, 0, 0⟩ : RM)).toArray] [] fun r Δ => r = .bool true ∧ Δ = [] := by
  have s0 : Sok 1 none 0 0 (([] : List Int).map (.int .u8)) := ⟨rfl, Nat.le_refl _, .inl rfl⟩
  have s1 : Sok 3 none 0 0 (([] : List RE).flatMap encE) := ⟨rfl, Nat.le_refl _, .inl rfl⟩
  refine Trip.start 69 [.tmp 4] [(0, .agg (encM (⟨kd, fr, to_, tm, ix, pv, cm, okb, none, 0, 0, none, 0, 0⟩ : RM)).toArray), (1, .agg (encM (⟨kd, fr, to_, tm, ix, pv, cm, okb, none, 0, 0, none, 0, 0⟩ : RM)).toArray)] Try.func42 rfl Try.ntmps42 rfl ⟨rfl, rfl, trivial⟩ rfl ?_
  refine WPC.seqR ?_
  first | refine WPL.cons rfl (E1.wpo (e_boxN rfl) rfl ?_) | refine WPL.cons rfl (E1.wpo (e_box1 rfl rfl) rfl ?_)
  rintro _ _ ⟨b1, rfl, rfl⟩
  refine WPL.putS ?_
  first | refine WPL.cons rfl (E1.wpo (e_boxN rfl) rfl ?_) | refine WPL.cons rfl (E1.wpo (e_box1 rfl rfl) rfl ?_)
  rintro _ _ ⟨b2, rfl, rfl⟩
  refine WPL.putS ?_
  refine L_s (q_assign rfl) rfl ?_
  refine WPL.nil ?_
  refine WPC.seq ?_
  refine WPC.seqR ?_
  first | refine L_s (q_faK fa_api_Msg_Kind rfl) rfl ?_ | refine L_s (q_fa fa_api_Msg_Kind rfl) rfl ?_
  first | refine L_s (q_load1z ld_int rfl (by repeat (first | exact List.Mem.head _ | apply List.Mem.tail)) (by rfl)) rfl ?_ | refine L_s (q_load1 ld_int rfl (by repeat (first | exact List.Mem.head _ | apply List.Mem.tail)) rfl (by rfl)) rfl ?_
  first | refine L_s (q_faK fa_api_Msg_Kind rfl) rfl ?_ | refine L_s (q_fa fa_api_Msg_Kind rfl) rfl ?_
  first | refine L_s (q_load1z ld_int rfl (by repeat (first | exact List.Mem.head _ | apply List.Mem.tail)) (by rfl)) rfl ?_ | refine L_s (q_load1 ld_int rfl (by repeat (first | exact List.Mem.head _ | apply List.Mem.tail)) rfl (by rfl)) rfl ?_
  refine L_s (q_int rfl rfl rfl) rfl ?_
  refine L_s (q_move rfl) rfl ?_
  apply WPL.joinO (e' := [(2, _), (3, _), (4, _)]) 10 16 6 rfl
  · intro g1_5
    try simp only [decide_eq_true_eq, decide_eq_false_iff_not, beq_iff_eq, bne_iff_ne, beq_eq_false_iff_ne, bne_eq_false_iff_eq, Bool.not_eq_true', Bool.not_eq_false', Bool.not_eq_eq_eq_not, Bool.not_true, Bool.not_false, ne_eq, Decidable.not_not, Int.not_lt, Int.not_le, gt_iff_lt, ge_iff_le] at g1_5
    refine L_no rfl rfl rfl rfl ?_
    refine L_no rfl rfl rfl rfl ?_
    refine L_no rfl rfl rfl rfl ?_
    refine L_no rfl rfl rfl rfl ?_
    refine L_no rfl rfl rfl rfl ?_
    first | refine L_s (q_pickT rfl rfl) rfl ?_ | refine L_s (q_pickF rfl rfl) rfl ?_
    first | exact WPL.jn rfl rfl (by repeat (first | exact trivial | refine ⟨rfl, ?_⟩)) | exact WPL.jnI rfl rfl (by repeat (first | exact trivial | refine ⟨rfl, ?_⟩)) (Imp.pick (by repeat (first | exact Pick.nil | apply Pick.keep (by repeat (first | exact List.Mem.head _ | apply List.Mem.tail)) (by first | exact Pers.cells _ _ _ | exact Pers.slv _ _ _) | apply Pick.cons (by repeat (first | exact Pick1.here | apply Pick1.there)))))
  · intro g1_5
    try simp only [decide_eq_true_eq, decide_eq_false_iff_not, beq_iff_eq, bne_iff_ne, beq_eq_false_iff_ne, bne_eq_false_iff_eq, Bool.not_eq_true', Bool.not_eq_false', Bool.not_eq_eq_eq_not, Bool.not_true, Bool.not_false, ne_eq, Decidable.not_not, Int.not_lt, Int.not_le, gt_iff_lt, ge_iff_le] at g1_5
    first | refine L_yes rfl rfl (q_faK fa_api_Msg_From rfl) rfl ?_ | refine L_yes rfl rfl (q_fa fa_api_Msg_From rfl) rfl ?_
    first | refine L_yes rfl rfl (q_load1z ld_int rfl (by repeat (first | exact List.Mem.head _ | apply List.Mem.tail)) (by rfl)) rfl ?_ | refine L_yes rfl rfl (q_load1 ld_int rfl (by repeat (first | exact List.Mem.head _ | apply List.Mem.tail)) rfl (by rfl)) rfl ?_
    first | refine L_yes rfl rfl (q_faK fa_api_Msg_From rfl) rfl ?_ | refine L_yes rfl rfl (q_fa fa_api_Msg_From rfl) rfl ?_
    first | refine L_yes rfl rfl (q_load1z ld_int rfl (by repeat (first | exact List.Mem.head _ | apply List.Mem.tail)) (by rfl)) rfl ?_ | refine L_yes rfl rfl (q_load1 ld_int rfl (by repeat (first | exact List.Mem.head _ | apply List.Mem.tail)) rfl (by rfl)) rfl ?_
    refine L_yes rfl rfl (q_int rfl rfl rfl) rfl ?_
    first | refine L_s (q_pickT rfl rfl) rfl ?_ | refine L_s (q_pickF rfl rfl) rfl ?_
    first | exact WPL.jn rfl rfl (by repeat (first | exact trivial | refine ⟨rfl, ?_⟩)) | exact WPL.jnI rfl rfl (by repeat (first | exact trivial | refine ⟨rfl, ?_⟩)) (Imp.pick (by repeat (first | exact Pick.nil | apply Pick.keep (by repeat (first | exact List.Mem.head _ | apply List.Mem.tail)) (by first | exact Pers.cells _ _ _ | exact Pers.slv _ _ _) | apply Pick.cons (by repeat (first | exact Pick1.here | apply Pick1.there)))))
  refine L_s (q_move rfl) rfl ?_
  apply WPL.joinO (e' := [(2, _), (3, _), (4, _)]) 17 23 6 rfl
  · intro g1_12
    try simp only [decide_eq_true_eq, decide_eq_false_iff_not, beq_iff_eq, bne_iff_ne, beq_eq_false_iff_ne, bne_eq_false_iff_eq, Bool.not_eq_true', Bool.not_eq_false', Bool.not_eq_eq_eq_not, Bool.not_true, Bool.not_false, ne_eq, Decidable.not_not, Int.not_lt, Int.not_le, gt_iff_lt, ge_iff_le] at g1_12
    refine L_no rfl rfl rfl rfl ?_
    refine L_no rfl rfl rfl rfl ?_
    refine L_no rfl rfl rfl rfl ?_
    refine L_no rfl rfl rfl rfl ?_
    refine L_no rfl rfl rfl rfl ?_
    first | refine L_s (q_pickT rfl rfl) rfl ?_ | refine L_s (q_pickF rfl rfl) rfl ?_
    first | exact WPL.jn rfl rfl (by repeat (first | exact trivial | refine ⟨rfl, ?_⟩)) | exact WPL.jnI rfl rfl (by repeat (first | exact trivial | refine ⟨rfl, ?_⟩)) (Imp.pick (by repeat (first | exact Pick.nil | apply Pick.keep (by repeat (first | exact List.Mem.head _ | apply List.Mem.tail)) (by first | exact Pers.cells _ _ _ | exact Pers.slv _ _ _) | apply Pick.cons (by repeat (first | exact Pick1.here | apply Pick1.there)))))
  · intro g1_12
    try simp only [decide_eq_true_eq, decide_eq_false_iff_not, beq_iff_eq, bne_iff_ne, beq_eq_false_iff_ne, bne_eq_false_iff_eq, Bool.not_eq_true', Bool.not_eq_false', Bool.not_eq_eq_eq_not, Bool.not_true, Bool.not_false, ne_eq, Decidable.not_not, Int.not_lt, Int.not_le, gt_iff_lt, ge_iff_le] at g1_12
    first | refine L_yes rfl rfl (q_faK fa_api_Msg_To rfl) rfl ?_ | refine L_yes rfl rfl (q_fa fa_api_Msg_To rfl) rfl ?_
    first | refine L_yes rfl rfl (q_load1z ld_int rfl (by repeat (first | exact List.Mem.head _ | apply List.Mem.tail)) (by rfl)) rfl ?_ | refine L_yes rfl rfl (q_load1 ld_int rfl (by repeat (first | exact List.Mem.head _ | apply List.Mem.tail)) rfl (by rfl)) rfl ?_
    first | refine L_yes rfl rfl (q_faK fa_api_Msg_To rfl) rfl ?_ | refine L_yes rfl rfl (q_fa fa_api_Msg_To rfl) rfl ?_
    first | refine L_yes rfl rfl (q_load1z ld_int rfl (by repeat (first | exact List.Mem.head _ | apply List.Mem.tail)) (by rfl)) rfl ?_ | refine L_yes rfl rfl (q_load1 ld_int rfl (by repeat (first | exact List.Mem.head _ | apply List.Mem.tail)) rfl (by rfl)) rfl ?_
    refine L_yes rfl rfl (q_int rfl rfl rfl) rfl ?_
    first | refine L_s (q_pickT rfl rfl) rfl ?_ | refine L_s (q_pickF rfl rfl) rfl ?_
    first | exact WPL.jn rfl rfl (by repeat (first | exact trivial | refine ⟨rfl, ?_⟩)) | exact WPL.jnI rfl rfl (by repeat (first | exact trivial | refine ⟨rfl, ?_⟩)) (Imp.pick (by repeat (first | exact Pick.nil | apply Pick.keep (by repeat (first | exact List.Mem.head _ | apply List.Mem.tail)) (by first | exact Pers.cells _ _ _ | exact Pers.slv _ _ _) | apply Pick.cons (by repeat (first | exact Pick1.here | apply Pick1.there)))))
  refine L_s (q_move rfl) rfl ?_
  apply WPL.joinO (e' := [(2, _), (3, _), (4, _)]) 24 30 6 rfl
  · intro g1_19
    try simp only [decide_eq_true_eq, decide_eq_false_iff_not, beq_iff_eq, bne_iff_ne, beq_eq_false_iff_ne, bne_eq_false_iff_eq, Bool.not_eq_true', Bool.not_eq_false', Bool.not_eq_eq_eq_not, Bool.not_true, Bool.not_false, ne_eq, Decidable.not_not, Int.not_lt, Int.not_le, gt_iff_lt, ge_iff_le] at g1_19
    refine L_no rfl rfl rfl rfl ?_
    refine L_no rfl rfl rfl rfl ?_
    refine L_no rfl rfl rfl rfl ?_
    refine L_no rfl rfl rfl rfl ?_
    refine L_no rfl rfl rfl rfl ?_
    first | refine L_s (q_pickT rfl rfl) rfl ?_ | refine L_s (q_pickF rfl rfl) rfl ?_
    first | exact WPL.jn rfl rfl (by repeat (first | exact trivial | refine ⟨rfl, ?_⟩)) | exact WPL.jnI rfl rfl (by repeat (first | exact trivial | refine ⟨rfl, ?_⟩)) (Imp.pick (by repeat (first | exact Pick.nil | apply Pick.keep (by repeat (first | exact List.Mem.head _ | apply List.Mem.tail)) (by first | exact Pers.cells _ _ _ | exact Pers.slv _ _ _) | apply Pick.cons (by repeat (first | exact Pick1.here | apply Pick1.there)))))
  · intro g1_19
    try simp only [decide_eq_true_eq, decide_eq_false_iff_not, beq_iff_eq, bne_iff_ne, beq_eq_false_iff_ne, bne_eq_false_iff_eq, Bool.not_eq_true', Bool.not_eq_false', Bool.not_eq_eq_eq_not, Bool.not_true, Bool.not_false, ne_eq, Decidable.not_not, Int.not_lt, Int.not_le, gt_iff_lt, ge_iff_le] at g1_19
    first | refine L_yes rfl rfl (q_faK fa_api_Msg_OK rfl) rfl ?_ | refine L_yes rfl rfl (q_fa fa_api_Msg_OK rfl) rfl ?_
    first | refine L_yes rfl rfl (q_load1z ld_bool rfl (by repeat (first | exact List.Mem.head _ | apply List.Mem.tail)) (by rfl)) rfl ?_ | refine L_yes rfl rfl (q_load1 ld_bool rfl (by repeat (first | exact List.Mem.head _ | apply List.Mem.tail)) rfl (by rfl)) rfl ?_
    first | refine L_yes rfl rfl (q_faK fa_api_Msg_OK rfl) rfl ?_ | refine L_yes rfl rfl (q_fa fa_api_Msg_OK rfl) rfl ?_
    first | refine L_yes rfl rfl (q_load1z ld_bool rfl (by repeat (first | exact List.Mem.head _ | apply List.Mem.tail)) (by rfl)) rfl ?_ | refine L_yes rfl rfl (q_load1 ld_bool rfl (by repeat (first | exact List.Mem.head _ | apply List.Mem.tail)) rfl (by rfl)) rfl ?_
    refine L_yes rfl rfl (q_boolNe un_bool rfl rfl) rfl ?_
    first | refine L_s (q_pickT rfl rfl) rfl ?_ | refine L_s (q_pickF rfl rfl) rfl ?_
    first | exact WPL.jn rfl rfl (by repeat (first | exact trivial | refine ⟨rfl, ?_⟩)) | exact WPL.jnI rfl rfl (by repeat (first | exact trivial | refine ⟨rfl, ?_⟩)) (Imp.pick (by repeat (first | exact Pick.nil | apply Pick.keep (by repeat (first | exact List.Mem.head _ | apply List.Mem.tail)) (by first | exact Pers.cells _ _ _ | exact Pers.slv _ _ _) | apply Pick.cons (by repeat (first | exact Pick1.here | apply Pick1.there)))))
  refine WPL.nil ?_
  refine WPC.cond rfl (fun h0 => ?_) (fun h0 => ?_)
  · try simp only [decide_eq_true_eq, decide_eq_false_iff_not, beq_iff_eq, bne_iff_ne, beq_eq_false_iff_ne, bne_eq_false_iff_eq, Bool.not_eq_true', Bool.not_eq_false', Bool.not_eq_eq_eq_not, Bool.not_true, Bool.not_false, ne_eq, Decidable.not_not, Int.not_lt, Int.not_le, gt_iff_lt, ge_iff_le] at h0
    simp at h0
  · try simp only [decide_eq_true_eq, decide_eq_false_iff_not, beq_iff_eq, bne_iff_ne, beq_eq_false_iff_ne, bne_eq_false_iff_eq, Bool.not_eq_true', Bool.not_eq_false', Bool.not_eq_eq_eq_not, Bool.not_true, Bool.not_false, ne_eq, Decidable.not_not, Int.not_lt, Int.not_le, gt_iff_lt, ge_iff_le] at h0
    refine WPC.skip ?_
    refine thenQ_n ?_
    refine WPC.seq ?_
    refine WPC.seqR ?_
    first | refine L_s (q_faK fa_api_Msg_Term rfl) rfl ?_ | refine L_s (q_fa fa_api_Msg_Term rfl) rfl ?_
    first | refine L_s (q_load1z ld_uint64 rfl (by repeat (first | exact List.Mem.head _ | apply List.Mem.tail)) (by rfl)) rfl ?_ | refine L_s (q_load1 ld_uint64 rfl (by repeat (first | exact List.Mem.head _ | apply List.Mem.tail)) rfl (by rfl)) rfl ?_
    first | refine L_s (q_faK fa_api_Msg_Term rfl) rfl ?_ | refine L_s (q_fa fa_api_Msg_Term rfl) rfl ?_
    first | refine L_s (q_load1z ld_uint64 rfl (by repeat (first | exact List.Mem.head _ | apply List.Mem.tail)) (by rfl)) rfl ?_ | refine L_s (q_load1 ld_uint64 rfl (by repeat (first | exact List.Mem.head _ | apply List.Mem.tail)) rfl (by rfl)) rfl ?_
    refine L_s (q_int rfl rfl rfl) rfl ?_
    refine L_s (q_move rfl) rfl ?_
    apply WPL.joinO (e' := [(2, _), (3, _), (4, _)]) 36 42 6 rfl
    · intro g3_5
      try simp only [decide_eq_true_eq, decide_eq_false_iff_not, beq_iff_eq, bne_iff_ne, beq_eq_false_iff_ne, bne_eq_false_iff_eq, Bool.not_eq_true', Bool.not_eq_false', Bool.not_eq_eq_eq_not, Bool.not_true, Bool.not_false, ne_eq, Decidable.not_not, Int.not_lt, Int.not_le, gt_iff_lt, ge_iff_le] at g3_5
      refine L_no rfl rfl rfl rfl ?_
      refine L_no rfl rfl rfl rfl ?_
      refine L_no rfl rfl rfl rfl ?_
      refine L_no rfl rfl rfl rfl ?_
      refine L_no rfl rfl rfl rfl ?_
      first | refine L_s (q_pickT rfl rfl) rfl ?_ | refine L_s (q_pickF rfl rfl) rfl ?_
      first | exact WPL.jn rfl rfl (by repeat (first | exact trivial | refine ⟨rfl, ?_⟩)) | exact WPL.jnI rfl rfl (by repeat (first | exact trivial | refine ⟨rfl, ?_⟩)) (Imp.pick (by repeat (first | exact Pick.nil | apply Pick.keep (by repeat (first | exact List.Mem.head _ | apply List.Mem.tail)) (by first | exact Pers.cells _ _ _ | exact Pers.slv _ _ _) | apply Pick.cons (by repeat (first | exact Pick1.here | apply Pick1.there)))))
    · intro g3_5
      try simp only [decide_eq_true_eq, decide_eq_false_iff_not, beq_iff_eq, bne_iff_ne, beq_eq_false_iff_ne, bne_eq_false_iff_eq, Bool.not_eq_true', Bool.not_eq_false', Bool.not_eq_eq_eq_not, Bool.not_true, Bool.not_false, ne_eq, Decidable.not_not, Int.not_lt, Int.not_le, gt_iff_lt, ge_iff_le] at g3_5
      first | refine L_yes rfl rfl (q_faK fa_api_Msg_Index rfl) rfl ?_ | refine L_yes rfl rfl (q_fa fa_api_Msg_Index rfl) rfl ?_
      first | refine L_yes rfl rfl (q_load1z ld_uint64 rfl (by repeat (first | exact List.Mem.head _ | apply List.Mem.tail)) (by rfl)) rfl ?_ | refine L_yes rfl rfl (q_load1 ld_uint64 rfl (by repeat (first | exact List.Mem.head _ | apply List.Mem.tail)) rfl (by rfl)) rfl ?_
      first | refine L_yes rfl rfl (q_faK fa_api_Msg_Index rfl) rfl ?_ | refine L_yes rfl rfl (q_fa fa_api_Msg_Index rfl) rfl ?_
      first | refine L_yes rfl rfl (q_load1z ld_uint64 rfl (by repeat (first | exact List.Mem.head _ | apply List.Mem.tail)) (by rfl)) rfl ?_ | refine L_yes rfl rfl (q_load1 ld_uint64 rfl (by repeat (first | exact List.Mem.head _ | apply List.Mem.tail)) rfl (by rfl)) rfl ?_
      refine L_yes rfl rfl (q_int rfl rfl rfl) rfl ?_
      first | refine L_s (q_pickT rfl rfl) rfl ?_ | refine L_s (q_pickF rfl rfl) rfl ?_
      first | exact WPL.jn rfl rfl (by repeat (first | exact trivial | refine ⟨rfl, ?_⟩)) | exact WPL.jnI rfl rfl (by repeat (first | exact trivial | refine ⟨rfl, ?_⟩)) (Imp.pick (by repeat (first | exact Pick.nil | apply Pick.keep (by repeat (first | exact List.Mem.head _ | apply List.Mem.tail)) (by first | exact Pers.cells _ _ _ | exact Pers.slv _ _ _) | apply Pick.cons (by repeat (first | exact Pick1.here | apply Pick1.there)))))
    refine L_s (q_move rfl) rfl ?_
    apply WPL.joinO (e' := [(2, _), (3, _), (4, _)]) 43 49 6 rfl
    · intro g3_12
      try simp only [decide_eq_true_eq, decide_eq_false_iff_not, beq_iff_eq, bne_iff_ne, beq_eq_false_iff_ne, bne_eq_false_iff_eq, Bool.not_eq_true', Bool.not_eq_false', Bool.not_eq_eq_eq_not, Bool.not_true, Bool.not_false, ne_eq, Decidable.not_not, Int.not_lt, Int.not_le, gt_iff_lt, ge_iff_le] at g3_12
      refine L_no rfl rfl rfl rfl ?_
      refine L_no rfl rfl rfl rfl ?_
      refine L_no rfl rfl rfl rfl ?_
      refine L_no rfl rfl rfl rfl ?_
      refine L_no rfl rfl rfl rfl ?_
      first | refine L_s (q_pickT rfl rfl) rfl ?_ | refine L_s (q_pickF rfl rfl) rfl ?_
      first | exact WPL.jn rfl rfl (by repeat (first | exact trivial | refine ⟨rfl, ?_⟩)) | exact WPL.jnI rfl rfl (by repeat (first | exact trivial | refine ⟨rfl, ?_⟩)) (Imp.pick (by repeat (first | exact Pick.nil | apply Pick.keep (by repeat (first | exact List.Mem.head _ | apply List.Mem.tail)) (by first | exact Pers.cells _ _ _ | exact Pers.slv _ _ _) | apply Pick.cons (by repeat (first | exact Pick1.here | apply Pick1.there)))))
    · intro g3_12
      try simp only [decide_eq_true_eq, decide_eq_false_iff_not, beq_iff_eq, bne_iff_ne, beq_eq_false_iff_ne, bne_eq_false_iff_eq, Bool.not_eq_true', Bool.not_eq_false', Bool.not_eq_eq_eq_not, Bool.not_true, Bool.not_false, ne_eq, Decidable.not_not, Int.not_lt, Int.not_le, gt_iff_lt, ge_iff_le] at g3_12
      first | refine L_yes rfl rfl (q_faK fa_api_Msg_Prev rfl) rfl ?_ | refine L_yes rfl rfl (q_fa fa_api_Msg_Prev rfl) rfl ?_
      first | refine L_yes rfl rfl (q_load1z ld_uint64 rfl (by repeat (first | exact List.Mem.head _ | apply List.Mem.tail)) (by rfl)) rfl ?_ | refine L_yes rfl rfl (q_load1 ld_uint64 rfl (by repeat (first | exact List.Mem.head _ | apply List.Mem.tail)) rfl (by rfl)) rfl ?_
      first | refine L_yes rfl rfl (q_faK fa_api_Msg_Prev rfl) rfl ?_ | refine L_yes rfl rfl (q_fa fa_api_Msg_Prev rfl) rfl ?_
      first | refine L_yes rfl rfl (q_load1z ld_uint64 rfl (by repeat (first | exact List.Mem.head _ | apply List.Mem.tail)) (by rfl)) rfl ?_ | refine L_yes rfl rfl (q_load1 ld_uint64 rfl (by repeat (first | exact List.Mem.head _ | apply List.Mem.tail)) rfl (by rfl)) rfl ?_
      refine L_yes rfl rfl (q_int rfl rfl rfl) rfl ?_
      first | refine L_s (q_pickT rfl rfl) rfl ?_ | refine L_s (q_pickF rfl rfl) rfl ?_
      first | exact WPL.jn rfl rfl (by repeat (first | exact trivial | refine ⟨rfl, ?_⟩)) | exact WPL.jnI rfl rfl (by repeat (first | exact trivial | refine ⟨rfl, ?_⟩)) (Imp.pick (by repeat (first | exact Pick.nil | apply Pick.keep (by repeat (first | exact List.Mem.head _ | apply List.Mem.tail)) (by first | exact Pers.cells _ _ _ | exact Pers.slv _ _ _) | apply Pick.cons (by repeat (first | exact Pick1.here | apply Pick1.there)))))
    refine L_s (q_move rfl) rfl ?_
    apply WPL.joinO (e' := [(2, _), (3, _), (4, _)]) 50 56 6 rfl
    · intro g3_19
      try simp only [decide_eq_true_eq, decide_eq_false_iff_not, beq_iff_eq, bne_iff_ne, beq_eq_false_iff_ne, bne_eq_false_iff_eq, Bool.not_eq_true', Bool.not_eq_false', Bool.not_eq_eq_eq_not, Bool.not_true, Bool.not_false, ne_eq, Decidable.not_not, Int.not_lt, Int.not_le, gt_iff_lt, ge_iff_le] at g3_19
      refine L_no rfl rfl rfl rfl ?_
      refine L_no rfl rfl rfl rfl ?_
      refine L_no rfl rfl rfl rfl ?_
      refine L_no rfl rfl rfl rfl ?_
      refine L_no rfl rfl rfl rfl ?_
      first | refine L_s (q_pickT rfl rfl) rfl ?_ | refine L_s (q_pickF rfl rfl) rfl ?_
      first | exact WPL.jn rfl rfl (by repeat (first | exact trivial | refine ⟨rfl, ?_⟩)) | exact WPL.jnI rfl rfl (by repeat (first | exact trivial | refine ⟨rfl, ?_⟩)) (Imp.pick (by repeat (first | exact Pick.nil | apply Pick.keep (by repeat (first | exact List.Mem.head _ | apply List.Mem.tail)) (by first | exact Pers.cells _ _ _ | exact Pers.slv _ _ _) | apply Pick.cons (by repeat (first | exact Pick1.here | apply Pick1.there)))))
    · intro g3_19
      try simp only [decide_eq_true_eq, decide_eq_false_iff_not, beq_iff_eq, bne_iff_ne, beq_eq_false_iff_ne, bne_eq_false_iff_eq, Bool.not_eq_true', Bool.not_eq_false', Bool.not_eq_eq_eq_not, Bool.not_true, Bool.not_false, ne_eq, Decidable.not_not, Int.not_lt, Int.not_le, gt_iff_lt, ge_iff_le] at g3_19
      first | refine L_yes rfl rfl (q_faK fa_api_Msg_Commit rfl) rfl ?_ | refine L_yes rfl rfl (q_fa fa_api_Msg_Commit rfl) rfl ?_
      first | refine L_yes rfl rfl (q_load1z ld_uint64 rfl (by repeat (first | exact List.Mem.head _ | apply List.Mem.tail)) (by rfl)) rfl ?_ | refine L_yes rfl rfl (q_load1 ld_uint64 rfl (by repeat (first | exact List.Mem.head _ | apply List.Mem.tail)) rfl (by rfl)) rfl ?_
      first | refine L_yes rfl rfl (q_faK fa_api_Msg_Commit rfl) rfl ?_ | refine L_yes rfl rfl (q_fa fa_api_Msg_Commit rfl) rfl ?_
      first | refine L_yes rfl rfl (q_load1z ld_uint64 rfl (by repeat (first | exact List.Mem.head _ | apply List.Mem.tail)) (by rfl)) rfl ?_ | refine L_yes rfl rfl (q_load1 ld_uint64 rfl (by repeat (first | exact List.Mem.head _ | apply List.Mem.tail)) rfl (by rfl)) rfl ?_
      refine L_yes rfl rfl (q_int rfl rfl rfl) rfl ?_
      first | refine L_s (q_pickT rfl rfl) rfl ?_ | refine L_s (q_pickF rfl rfl) rfl ?_
      first | exact WPL.jn rfl rfl (by repeat (first | exact trivial | refine ⟨rfl, ?_⟩)) | exact WPL.jnI rfl rfl (by repeat (first | exact trivial | refine ⟨rfl, ?_⟩)) (Imp.pick (by repeat (first | exact Pick.nil | apply Pick.keep (by repeat (first | exact List.Mem.head _ | apply List.Mem.tail)) (by first | exact Pers.cells _ _ _ | exact Pers.slv _ _ _) | apply Pick.cons (by repeat (first | exact Pick1.here | apply Pick1.there)))))
    refine WPL.nil ?_
    refine WPC.cond rfl (fun h1 => ?_) (fun h1 => ?_)
    · try simp only [decide_eq_true_eq, decide_eq_false_iff_not, beq_iff_eq, bne_iff_ne, beq_eq_false_iff_ne, bne_eq_false_iff_eq, Bool.not_eq_true', Bool.not_eq_false', Bool.not_eq_eq_eq_not, Bool.not_true, Bool.not_false, ne_eq, Decidable.not_not, Int.not_lt, Int.not_le, gt_iff_lt, ge_iff_le] at h1
      simp at h1
    · try simp only [decide_eq_true_eq, decide_eq_false_iff_not, beq_iff_eq, bne_iff_ne, beq_eq_false_iff_ne, bne_eq_false_iff_eq, Bool.not_eq_true', Bool.not_eq_false', Bool.not_eq_eq_eq_not, Bool.not_true, Bool.not_false, ne_eq, Decidable.not_not, Int.not_lt, Int.not_le, gt_iff_lt, ge_iff_le] at h1
      refine WPC.skip ?_
      refine thenQ_n ?_
      refine WPC.seqR ?_
      first | refine L_s (q_faK fa_api_Msg_Data rfl) rfl ?_ | refine L_s (q_fa fa_api_Msg_Data rfl) rfl ?_
      first | refine L_s (q_load1z ld_sl_uint8 rfl (by repeat (first | exact List.Mem.head _ | apply List.Mem.tail)) (by rfl)) rfl ?_ | refine L_s (q_load1 ld_sl_uint8 rfl (by repeat (first | exact List.Mem.head _ | apply List.Mem.tail)) rfl (by rfl)) rfl ?_
      first | refine L_s (q_faK fa_api_Msg_Data rfl) rfl ?_ | refine L_s (q_fa fa_api_Msg_Data rfl) rfl ?_
      first | refine L_s (q_load1z ld_sl_uint8 rfl (by repeat (first | exact List.Mem.head _ | apply List.Mem.tail)) (by rfl)) rfl ?_ | refine L_s (q_load1 ld_sl_uint8 rfl (by repeat (first | exact List.Mem.head _ | apply List.Mem.tail)) rfl (by rfl)) rfl ?_
      refine WPL.imp (Imp.slEmpty (p := false) (a := none)) ?_
      refine WPL.cons rfl (C1.call (c_call Try.func57 rfl rfl rfl) (c_Same01 (p := false) (q := false) s0 s0 (by show 0 < _; omega)) (by repeat (first | exact Pick.nil | apply Pick.keep (by repeat (first | exact List.Mem.head _ | apply List.Mem.tail)) (by first | exact Pers.cells _ _ _ | exact Pers.slv _ _ _) | apply Pick.cons (by repeat (first | exact Pick1.here | apply Pick1.there)))) rfl ?_)
      rintro _ _ ⟨rfl, rfl⟩
      refine WPL.putS ?_
      refine L_s (q_move rfl) rfl ?_
      apply WPL.joinA (e' := [(4, _)]) 62 68 6 rfl
      · intro g5_5
        try simp only [decide_eq_true_eq, decide_eq_false_iff_not, beq_iff_eq, bne_iff_ne, beq_eq_false_iff_ne, bne_eq_false_iff_eq, Bool.not_eq_true', Bool.not_eq_false', Bool.not_eq_eq_eq_not, Bool.not_true, Bool.not_false, ne_eq, Decidable.not_not, Int.not_lt, Int.not_le, gt_iff_lt, ge_iff_le] at g5_5
        first | refine L_yes rfl rfl (q_faK fa_api_Msg_Entries rfl) rfl ?_ | refine L_yes rfl rfl (q_fa fa_api_Msg_Entries rfl) rfl ?_
        first | refine L_yes rfl rfl (q_load1z ld_sl_api_Entry rfl (by repeat (first | exact List.Mem.head _ | apply List.Mem.tail)) (by rfl)) rfl ?_ | refine L_yes rfl rfl (q_load1 ld_sl_api_Entry rfl (by repeat (first | exact List.Mem.head _ | apply List.Mem.tail)) rfl (by rfl)) rfl ?_
        first | refine L_yes rfl rfl (q_faK fa_api_Msg_Entries rfl) rfl ?_ | refine L_yes rfl rfl (q_fa fa_api_Msg_Entries rfl) rfl ?_
        first | refine L_yes rfl rfl (q_load1z ld_sl_api_Entry rfl (by repeat (first | exact List.Mem.head _ | apply List.Mem.tail)) (by rfl)) rfl ?_ | refine L_yes rfl rfl (q_load1 ld_sl_api_Entry rfl (by repeat (first | exact List.Mem.head _ | apply List.Mem.tail)) rfl (by rfl)) rfl ?_
        refine WPL.imp (Imp.slEmpty (p := false) (a := none)) ?_
        refine L_eyes rfl rfl rfl (C1.call (c_call Try.func56 rfl rfl rfl) (c_Entries (p := false) (q := false) (D := sl false none []) s1 s1 (by show 0 < _; omega) (by simp)) (by repeat (first | exact Pick.nil | apply Pick.keep (by repeat (first | exact List.Mem.head _ | apply List.Mem.tail)) (by first | exact Pers.cells _ _ _ | exact Pers.slv _ _ _) | apply Pick.cons (by repeat (first | exact Pick1.here | apply Pick1.there)))) rfl ?_)
        rintro _ _ ⟨rfl, rfl⟩
        refine WPL.putS ?_
        first | refine L_s (q_pickT rfl rfl) rfl ?_ | refine L_s (q_pickF rfl rfl) rfl ?_
        first | exact WPL.jn rfl rfl (by repeat (first | exact trivial | refine ⟨rfl, ?_⟩)) | exact WPL.jnI rfl rfl (by repeat (first | exact trivial | refine ⟨rfl, ?_⟩)) (Imp.pick (by repeat (first | exact Pick.nil | apply Pick.keep (by repeat (first | exact List.Mem.head _ | apply List.Mem.tail)) (by first | exact Pers.cells _ _ _ | exact Pers.slv _ _ _) | apply Pick.cons (by repeat (first | exact Pick1.here | apply Pick1.there)))))
      · intro g5_5
        try simp only [decide_eq_true_eq, decide_eq_false_iff_not, beq_iff_eq, bne_iff_ne, beq_eq_false_iff_ne, bne_eq_false_iff_eq, Bool.not_eq_true', Bool.not_eq_false', Bool.not_eq_eq_eq_not, Bool.not_true, Bool.not_false, ne_eq, Decidable.not_not, Int.not_lt, Int.not_le, gt_iff_lt, ge_iff_le] at g5_5
        refine L_no rfl rfl rfl rfl ?_
        refine L_no rfl rfl rfl rfl ?_
        refine L_no rfl rfl rfl rfl ?_
        refine L_no rfl rfl rfl rfl ?_
        refine WPL.imp (Imp.slEmpty (p := false) (a := none)) ?_
        refine L_no rfl rfl rfl rfl ?_
        first | refine L_s (q_pickT rfl rfl) rfl ?_ | refine L_s (q_pickF rfl rfl) rfl ?_
        first | exact WPL.jn rfl rfl (by repeat (first | exact trivial | refine ⟨rfl, ?_⟩)) | exact WPL.jnI rfl rfl (by repeat (first | exact trivial | refine ⟨rfl, ?_⟩)) (Imp.pick (by repeat (first | exact Pick.nil | apply Pick.keep (by repeat (first | exact List.Mem.head _ | apply List.Mem.tail)) (by first | exact Pers.cells _ _ _ | exact Pers.slv _ _ _) | apply Pick.cons (by repeat (first | exact Pick1.here | apply Pick1.there)))))
      refine L_s (q_assign rfl) rfl ?_
      refine WPL.nil ?_
      refine WPC.ret ?_
      exact endR_r rfl (.tmp rfl .nil) (Imp.pick (by repeat (first | exact Pick.nil | apply Pick.keep (by repeat (first | exact List.Mem.head _ | apply List.Mem.tail)) (by first | exact Pers.cells _ _ _ | exact Pers.slv _ _ _) | apply Pick.cons (by repeat (first | exact Pick1.here | apply Pick1.there))))) ⟨rfl, rfl⟩

theorem c_All {p q : Bool} {a a' : Option Addr} {n c c' : Nat} {ms : List RM} (hs : Sok 10 a n c (ms.flatMap encM)) (hs' : Sok 10 a' n c' (ms.flatMap encM)) (hn : n < 1073741824) (hd : ∀ x ∈ ms, x.bare) : Trip Try.prog 17 #[.slice a n c, .slice a' n c'] [sl p a (ms.flatMap encM), sl q a' (ms.flatMap encM)] fun r Δ => r = .bool true ∧ Δ = [sl p a (ms.flatMap encM), sl q a' (ms.flatMap encM)] := by
  have hl : ms.length = n := by have := hs.len; rw [flat_length encM_len] at this; omega
  refine Trip.start 29 [.tmp 4] [(0, .slice a n c), (1, .slice a' n c')] Try.func17 rfl Try.ntmps17 rfl ⟨rfl, rfl, trivial⟩ rfl ?_
  refine WPC.seqR ?_
  refine L_s (q_assign rfl) rfl ?_
  refine WPL.nil ?_
  refine WPC.seq ?_
  refine WPC.seqR ?_
  refine L_s (q_move rfl) rfl ?_
  refine L_s (q_len rfl un_sl_api_Msg rfl) rfl ?_
  refine L_s (q_move rfl) rfl ?_
  refine L_s (q_len rfl un_sl_api_Msg rfl) rfl ?_
  refine L_s (q_int rfl rfl rfl) rfl ?_
  refine WPL.nil ?_
  refine WPC.cond rfl (fun h0 => ?_) (fun h0 => ?_)
  · try simp only [decide_eq_true_eq, decide_eq_false_iff_not, beq_iff_eq, bne_iff_ne, beq_eq_false_iff_ne, bne_eq_false_iff_eq, Bool.not_eq_true', Bool.not_eq_false', Bool.not_eq_eq_eq_not, Bool.not_true, Bool.not_false, ne_eq, Decidable.not_not, Int.not_lt, Int.not_le, gt_iff_lt, ge_iff_le] at h0
    simp at h0
  · try simp only [decide_eq_true_eq, decide_eq_false_iff_not, beq_iff_eq, bne_iff_ne, beq_eq_false_iff_ne, bne_eq_false_iff_eq, Bool.not_eq_true', Bool.not_eq_false', Bool.not_eq_eq_eq_not, Bool.not_true, Bool.not_false, ne_eq, Decidable.not_not, Int.not_lt, Int.not_le, gt_iff_lt, ge_iff_le] at h0
    refine WPC.skip ?_
    refine thenQ_n ?_
    refine WPC.seq ?_
    refine WPC.seqR ?_
    refine L_s (q_assign rfl) rfl ?_
    refine WPL.nil ?_
    refine WPC.block ?_
    refine WPC.loopS (fun m e Γ => ∃ k : Nat, m = n - k ∧ k ≤ n ∧ e = [(0, .slice a n c), (1, .slice a' n c'), (5, .int .i64 (k : Int))] ∧ Γ = [sl p a (ms.flatMap encM), sl q a' (ms.flatMap encM)]) (n) ⟨0, rfl, by omega, rfl, rfl⟩ (by repeat (first | exact trivial | refine ⟨rfl, ?_⟩)) (Imp.pick (by repeat (first | exact Pick.nil | apply Pick.keep (by repeat (first | exact List.Mem.head _ | apply List.Mem.tail)) (by first | exact Pers.cells _ _ _ | exact Pers.slv _ _ _) | apply Pick.cons (by repeat (first | exact Pick1.here | apply Pick1.there))))) ?_
    rintro m e Γ ⟨k, rfl, hk, rfl, rfl⟩
    refine WPC.seq ?_
    refine WPC.seqR ?_
    refine L_s (q_move rfl) rfl ?_
    refine L_s (q_move rfl) rfl ?_
    refine L_s (q_len rfl un_sl_api_Msg rfl) rfl ?_
    refine L_s (q_int rfl rfl rfl) rfl ?_
    refine WPL.nil ?_
    refine WPC.cond rfl (fun h1 => ?_) (fun h1 => ?_)
    · simp only [decide_eq_true_eq] at h1
      have hk' : k < n := by omega
      have hp : Pl a := hs.at (by omega) (by omega)
      have hp' : Pl a' := hs'.at (by omega) (by omega)
      obtain ⟨x, hx⟩ : ∃ x, ms[k]? = some x := ⟨ms[k]'(by omega), by simp⟩
      have hb := hd x (List.mem_of_getElem? hx)
      obtain ⟨kd, fr, to_, tm, ix, pv, cm, okb, da, dn, dc, ea, en, ec⟩ := x
      simp only [RM.bare, RM.mk.injEq, true_and] at hb
      obtain ⟨rfl, rfl, rfl, rfl, rfl, rfl⟩ := hb
      refine WPC.skip ?_
      refine thenQ_n ?_
      refine WPC.seq ?_
      refine WPC.block ?_
      refine WPC.seqD mixed ?_
      refine WPA.takeP 0 rfl (q_move rfl) (by kernel_rfl) (by kernel_rfl) (by kernel_rfl) rfl rfl (.nil _) ?_
      refine WPA.putS ?_
      refine WPA.takeP 1 rfl (q_move rfl) (by kernel_rfl) (by kernel_rfl) (by kernel_rfl) rfl rfl (.nil _) ?_
      refine WPA.putS ?_
      first | refine WPA.takeP 2 rfl (q_idxN sl_sl_api_Msg rfl rfl (by omega) (by assumption)) (by kernel_rfl) (by kernel_rfl) (by kernel_rfl) rfl rfl (.nil _) ?_ | refine WPA.takeP 2 rfl (q_idx sl_sl_api_Msg rfl rfl (by omega) (by omega) (by assumption)) (by kernel_rfl) (by kernel_rfl) (by kernel_rfl) rfl rfl (.nil _) ?_
      refine WPA.putS ?_
      refine WPA.takeL 3 rfl (Ent.mem (by repeat (first | exact List.Mem.head _ | apply List.Mem.tail))) (q_ldFlat ld_api_Msg rfl (.head _) encM_len hx) (by kernel_rfl) (by kernel_rfl) (by kernel_rfl) rfl rfl (.nil _) ?_
      refine WPA.putS ?_
      refine WPA.takeP 4 rfl (q_move rfl) (by kernel_rfl) (by kernel_rfl) (by kernel_rfl) rfl rfl (.cons (Ent.mem (by repeat (first | exact List.Mem.head _ | apply List.Mem.tail))) (.nil _)) ?_
      refine WPA.putS ?_
      refine WPA.takeP 5 rfl (q_move rfl) (by kernel_rfl) (by kernel_rfl) (by kernel_rfl) rfl rfl (.cons (Ent.mem (by repeat (first | exact List.Mem.head _ | apply List.Mem.tail))) (.nil _)) ?_
      refine WPA.putS ?_
      first | refine WPA.takeP 6 rfl (q_idxN sl_sl_api_Msg rfl rfl (by omega) (by assumption)) (by kernel_rfl) (by kernel_rfl) (by kernel_rfl) rfl rfl (.cons (Ent.mem (by repeat (first | exact List.Mem.head _ | apply List.Mem.tail))) (.nil _)) ?_ | refine WPA.takeP 6 rfl (q_idx sl_sl_api_Msg rfl rfl (by omega) (by omega) (by assumption)) (by kernel_rfl) (by kernel_rfl) (by kernel_rfl) rfl rfl (.cons (Ent.mem (by repeat (first | exact List.Mem.head _ | apply List.Mem.tail))) (.nil _)) ?_
      refine WPA.putS ?_
      refine WPA.takeL 7 rfl (Ent.mem (by repeat (first | exact List.Mem.head _ | apply List.Mem.tail))) (q_ldFlat ld_api_Msg rfl (.head _) encM_len hx) (by kernel_rfl) (by kernel_rfl) (by kernel_rfl) rfl rfl (.cons (Ent.mem (by repeat (first | exact List.Mem.head _ | apply List.Mem.tail))) (.nil _)) ?_
      refine WPA.putS ?_
      refine WPA.oneE 8 [] (by kernel_rfl) rfl rfl (by repeat (first | exact .nil | refine .anc rfl ?_ | refine .keep (by repeat (first | exact List.Mem.head _ | apply List.Mem.tail)) ?_)) (C1.call (c_call Try.func42 rfl rfl rfl) (c_Same03 kd fr to_ tm ix pv cm okb) (by repeat (first | exact Pick.nil | apply Pick.keep (by repeat (first | exact List.Mem.head _ | apply List.Mem.tail)) (by first | exact Pers.cells _ _ _ | exact Pers.slv _ _ _) | apply Pick.cons (by repeat (first | exact Pick1.here | apply Pick1.there)))) rfl ?_)
      rintro _ _ ⟨rfl, rfl⟩
      refine ⟨(.nil _), ?_⟩
      refine WPA.putS ?_
      refine WPA.takeP 9 rfl (q_assign rfl) (by kernel_rfl) (by kernel_rfl) (by kernel_rfl) rfl rfl (.nil _) ?_
      refine WPA.putS ?_
      refine WPA.done (by kernel_rfl) ?_
      refine WPC.seqR ?_
      refine L_s (q_move rfl) rfl ?_
      refine L_s (q_not rfl) rfl ?_
      refine WPL.nil ?_
      refine WPC.cond rfl (fun h2 => ?_) (fun h2 => ?_)
      · try simp only [decide_eq_true_eq, decide_eq_false_iff_not, beq_iff_eq, bne_iff_ne, beq_eq_false_iff_ne, bne_eq_false_iff_eq, Bool.not_eq_true', Bool.not_eq_false', Bool.not_eq_eq_eq_not, Bool.not_true, Bool.not_false, ne_eq, Decidable.not_not, Int.not_lt, Int.not_le, gt_iff_lt, ge_iff_le] at h2
        simp at h2
      · try simp only [decide_eq_true_eq, decide_eq_false_iff_not, beq_iff_eq, bne_iff_ne, beq_eq_false_iff_ne, bne_eq_false_iff_eq, Bool.not_eq_true', Bool.not_eq_false', Bool.not_eq_eq_eq_not, Bool.not_true, Bool.not_false, ne_eq, Decidable.not_not, Int.not_lt, Int.not_le, gt_iff_lt, ge_iff_le] at h2
        refine WPC.skip ?_
        refine blockQ_n ?_
        refine thenQ_n ?_
        refine WPC.region ?_
        refine L_s (q_move rfl) rfl ?_
        first | refine L_s (q_inc rfl rfl (by omega)) rfl ?_ | refine L_s (q_addI rfl rfl (by omega)) rfl ?_ | refine L_s (q_int rfl rfl rfl) rfl ?_
        refine L_s (q_assign rfl) rfl ?_
        refine WPL.nil ?_
        refine thenQ_n ?_
        exact ⟨rfl, _, _, _, by omega, ⟨k + 1, rfl, by omega, rfl, rfl⟩, (by repeat (first | exact trivial | refine ⟨rfl, ?_⟩)), Imp.pick (by repeat (first | exact Pick.nil | apply Pick.keep (by repeat (first | exact List.Mem.head _ | apply List.Mem.tail)) (by first | exact Pers.cells _ _ _ | exact Pers.slv _ _ _) | apply Pick.cons (by repeat (first | exact Pick1.here | apply Pick1.there))))⟩
    · skip
      refine WPC.exit ?_
      refine thenQ_e ?_
      refine thenQ_e ?_
      refine blockQ_here ?_
      refine thenQ_n ?_
      refine WPC.seqR ?_
      refine L_s (q_assign rfl) rfl ?_
      refine WPL.nil ?_
      refine WPC.ret ?_
      exact endR_r rfl (.tmp rfl .nil) (Imp.pick (by repeat (first | exact Pick.nil | apply Pick.keep (by repeat (first | exact List.Mem.head _ | apply List.Mem.tail)) (by first | exact Pers.cells _ _ _ | exact Pers.slv _ _ _) | apply Pick.cons (by repeat (first | exact Pick1.here | apply Pick1.there))))) ⟨rfl, rfl⟩

theorem c_Lists {p : Bool} {b : Nat} {xs : List Int} (hl : xs.length = 16) : Trip Try.prog 41 #[.slice (some ⟨b, 0, none⟩) 16 16, .agg (xs.map (.int .u64)).toArray] [cells p b 0 (xs.map (.int .u64))] fun r Δ => r = .bool true ∧ Δ = [cells p b 0 (xs.map (.int .u64))] := by
  have hp : Pl (some ⟨b, 0, none⟩) := rfl
  refine Trip.start 21 [.tmp 4] [(0, .slice (some ⟨b, 0, none⟩) 16 16), (1, .agg (xs.map (.int .u64)).toArray)] Try.func41 rfl Try.ntmps41 rfl ⟨rfl, rfl, trivial⟩ rfl ?_
  refine WPC.seqR ?_
  first | refine WPL.cons rfl (E1.wpo (e_boxN rfl) rfl ?_) | refine WPL.cons rfl (E1.wpo (e_box1 rfl rfl) rfl ?_)
  rintro _ _ ⟨b1, rfl, rfl⟩
  refine WPL.putS ?_
  refine L_s (q_assign rfl) rfl ?_
  refine WPL.nil ?_
  refine WPC.seq ?_
  refine WPC.seqR ?_
  refine L_s (q_move rfl) rfl ?_
  refine L_s (q_len rfl un_sl_uint64 rfl) rfl ?_
  refine L_s (q_int rfl rfl rfl) rfl ?_
  refine WPL.nil ?_
  refine WPC.cond rfl (fun h0 => ?_) (fun h0 => ?_)
  · try simp only [decide_eq_true_eq, decide_eq_false_iff_not, beq_iff_eq, bne_iff_ne, beq_eq_false_iff_ne, bne_eq_false_iff_eq, Bool.not_eq_true', Bool.not_eq_false', Bool.not_eq_eq_eq_not, Bool.not_true, Bool.not_false, ne_eq, Decidable.not_not, Int.not_lt, Int.not_le, gt_iff_lt, ge_iff_le] at h0
    simp at h0
  · try simp only [decide_eq_true_eq, decide_eq_false_iff_not, beq_iff_eq, bne_iff_ne, beq_eq_false_iff_ne, bne_eq_false_iff_eq, Bool.not_eq_true', Bool.not_eq_false', Bool.not_eq_eq_eq_not, Bool.not_true, Bool.not_false, ne_eq, Decidable.not_not, Int.not_lt, Int.not_le, gt_iff_lt, ge_iff_le] at h0
    refine WPC.skip ?_
    refine thenQ_n ?_
    refine WPC.seq ?_
    refine WPC.seqR ?_
    refine L_s (q_assign rfl) rfl ?_
    refine WPL.nil ?_
    refine WPC.block ?_
    refine WPC.loopS (fun m e Γ => ∃ k : Nat, m = 16 - k ∧ k ≤ 16 ∧ e = [(0, .slice (some ⟨b, 0, none⟩) 16 16), (3, .pointer (some ⟨b1, 0, none⟩)), (5, .int .i64 (k : Int))] ∧ Γ = [cells p b 0 (xs.map (.int .u64)), cells true b1 0 (xs.map (.int .u64))]) (16) ⟨0, rfl, by omega, rfl, rfl⟩ (by repeat (first | exact trivial | refine ⟨rfl, ?_⟩)) (Imp.pick (by repeat (first | exact Pick.nil | apply Pick.keep (by repeat (first | exact List.Mem.head _ | apply List.Mem.tail)) (by first | exact Pers.cells _ _ _ | exact Pers.slv _ _ _) | apply Pick.cons (by repeat (first | exact Pick1.here | apply Pick1.there))))) ?_
    rintro m e Γ ⟨k, rfl, hk, rfl, rfl⟩
    refine WPC.seq ?_
    refine WPC.seqR ?_
    refine L_s (q_move rfl) rfl ?_
    refine L_s (q_int rfl rfl rfl) rfl ?_
    refine WPL.nil ?_
    refine WPC.cond rfl (fun h1 => ?_) (fun h1 => ?_)
    · simp only [decide_eq_true_eq] at h1
      have hk' : k < 16 := by omega
      obtain ⟨x, hx⟩ : ∃ x, xs[k]? = some x := ⟨xs[k]'(by omega), by simp⟩
      refine WPC.skip ?_
      refine thenQ_n ?_
      refine WPC.seq ?_
      refine WPC.block ?_
      refine WPC.seqQ mixed (by kernel_rfl) ?_
      refine WPQ.cons (q_move rfl) rfl ?_
      refine WPQ.cons (q_move rfl) rfl ?_
      first | refine WPQ.cons (q_idxN sl_sl_uint64 rfl rfl (by omega) (by assumption)) rfl ?_ | refine WPQ.cons (q_idx sl_sl_uint64 rfl rfl (by omega) (by omega) (by assumption)) rfl ?_
      refine WPQ.cons (q_ldMap ld_uint64 rfl (by repeat (first | exact List.Mem.head _ | apply List.Mem.tail)) hx) rfl ?_
      refine WPQ.cons (q_move rfl) rfl ?_
      first | refine WPQ.cons (q_idxAN ar_arr16_uint64 rfl rfl (by omega)) rfl ?_ | refine WPQ.cons (q_idxA ar_arr16_uint64 rfl rfl (by omega) (by omega)) rfl ?_
      refine WPQ.cons (q_ldMap ld_uint64 rfl (by repeat (first | exact List.Mem.head _ | apply List.Mem.tail)) hx) rfl ?_
      refine WPQ.cons (q_int rfl rfl rfl) rfl ?_
      refine WPQ.nil ?_
      refine WPC.cond rfl (fun h2 => ?_) (fun h2 => ?_)
      · try simp only [decide_eq_true_eq, decide_eq_false_iff_not, beq_iff_eq, bne_iff_ne, beq_eq_false_iff_ne, bne_eq_false_iff_eq, Bool.not_eq_true', Bool.not_eq_false', Bool.not_eq_eq_eq_not, Bool.not_true, Bool.not_false, ne_eq, Decidable.not_not, Int.not_lt, Int.not_le, gt_iff_lt, ge_iff_le] at h2
        simp at h2
      · try simp only [decide_eq_true_eq, decide_eq_false_iff_not, beq_iff_eq, bne_iff_ne, beq_eq_false_iff_ne, bne_eq_false_iff_eq, Bool.not_eq_true', Bool.not_eq_false', Bool.not_eq_eq_eq_not, Bool.not_true, Bool.not_false, ne_eq, Decidable.not_not, Int.not_lt, Int.not_le, gt_iff_lt, ge_iff_le] at h2
        refine WPC.skip ?_
        refine blockQ_n ?_
        refine thenQ_n ?_
        refine WPC.region ?_
        refine L_s (q_move rfl) rfl ?_
        first | refine L_s (q_inc rfl rfl (by omega)) rfl ?_ | refine L_s (q_addI rfl rfl (by omega)) rfl ?_ | refine L_s (q_int rfl rfl rfl) rfl ?_
        refine L_s (q_assign rfl) rfl ?_
        refine WPL.nil ?_
        refine thenQ_n ?_
        exact ⟨rfl, _, _, _, by omega, ⟨k + 1, rfl, by omega, rfl, rfl⟩, (by repeat (first | exact trivial | refine ⟨rfl, ?_⟩)), Imp.pick (by repeat (first | exact Pick.nil | apply Pick.keep (by repeat (first | exact List.Mem.head _ | apply List.Mem.tail)) (by first | exact Pers.cells _ _ _ | exact Pers.slv _ _ _) | apply Pick.cons (by repeat (first | exact Pick1.here | apply Pick1.there))))⟩
    · skip
      refine WPC.exit ?_
      refine thenQ_e ?_
      refine thenQ_e ?_
      refine blockQ_here ?_
      refine thenQ_n ?_
      refine WPC.seqR ?_
      refine L_s (q_assign rfl) rfl ?_
      refine WPL.nil ?_
      refine WPC.ret ?_
      exact endR_r rfl (.tmp rfl .nil) (Imp.pick (by repeat (first | exact Pick.nil | apply Pick.keep (by repeat (first | exact List.Mem.head _ | apply List.Mem.tail)) (by first | exact Pers.cells _ _ _ | exact Pers.slv _ _ _) | apply Pick.cons (by repeat (first | exact Pick1.here | apply Pick1.there))))) ⟨rfl, rfl⟩

theorem c_Same11 {p q : Bool} {b o : Nat} {x : EN} {L : RL} {ya : Option Addr} {yn yc : Nat} (hy : Sok 1 ya yn yc (x.yes.map (.int .i64))) (hy' : Sok 1 L.ya L.yn L.yc (x.yes.map (.int .i64))) (hn : yn < 4611686018427387904) : Trip Try.prog 39 #[.int .i64 x.me, .int .i64 x.vote, .int .i64 x.role, .int .i64 x.lead, .slice ya yn yc, .int .u64 x.term, .int .u64 x.commit, .bool x.heard, .pointer (some ⟨b, o, none⟩)] [cells true b o (rnodeH x L), sl q L.ya (x.yes.map (.int .i64)), sl p ya (x.yes.map (.int .i64))] fun r Δ => r = .bool true ∧ Δ = [cells true b o (rnodeH x L), sl q L.ya (x.yes.map (.int .i64)), sl p ya (x.yes.map (.int .i64))] := by
  obtain ⟨ca, cn, cc, ya', yn', yc', ea, en, ec⟩ := L
  dsimp only at hy'
  obtain rfl : yn = yn' := by have h1 := hy.len; have h2 := hy'.len; omega
  refine Trip.start 79 [.tmp 18] [(0, .int .i64 x.me), (1, .int .i64 x.vote), (2, .int .i64 x.role), (3, .int .i64 x.lead), (4, .slice ya yn yc), (5, .int .u64 x.term), (6, .int .u64 x.commit), (7, .bool x.heard), (8, .pointer (some ⟨b, o, none⟩))] Try.func39 rfl Try.ntmps39 rfl ⟨rfl, rfl, rfl, rfl, rfl, rfl, rfl, rfl, rfl, trivial⟩ rfl ?_
  refine WPC.seqR ?_
  refine L_s (q_assign rfl) rfl ?_
  refine WPL.nil ?_
  refine WPC.seq ?_
  refine WPC.seqR ?_
  refine L_s (q_move rfl) rfl ?_
  refine L_s (q_move rfl) rfl ?_
  first | refine L_s (q_nilP rfl) rfl ?_ | refine L_s (q_nilF rfl) rfl ?_
  first | refine L_s (q_faK fa_pursuivantref11_Node_Me rfl) rfl ?_ | refine L_s (q_fa fa_pursuivantref11_Node_Me rfl) rfl ?_
  first | refine L_s (q_load1z ld_int rfl (by repeat (first | exact List.Mem.head _ | apply List.Mem.tail)) (by rfl)) rfl ?_ | refine L_s (q_load1 ld_int rfl (by repeat (first | exact List.Mem.head _ | apply List.Mem.tail)) rfl (by rfl)) rfl ?_
  refine L_s (q_int rfl rfl rfl) rfl ?_
  refine L_s (q_move rfl) rfl ?_
  apply WPL.joinO (e' := [(2, _), (3, _), (4, _), (5, _), (6, _), (7, _), (8, _), (18, _)]) 25 32 7 rfl
  · intro g1_6
    try simp only [decide_eq_true_eq, decide_eq_false_iff_not, beq_iff_eq, bne_iff_ne, beq_eq_false_iff_ne, bne_eq_false_iff_eq, Bool.not_eq_true', Bool.not_eq_false', Bool.not_eq_eq_eq_not, Bool.not_true, Bool.not_false, ne_eq, Decidable.not_not, Int.not_lt, Int.not_le, gt_iff_lt, ge_iff_le] at g1_6
    simp at g1_6
  · intro g1_6
    try simp only [decide_eq_true_eq, decide_eq_false_iff_not, beq_iff_eq, bne_iff_ne, beq_eq_false_iff_ne, bne_eq_false_iff_eq, Bool.not_eq_true', Bool.not_eq_false', Bool.not_eq_eq_eq_not, Bool.not_true, Bool.not_false, ne_eq, Decidable.not_not, Int.not_lt, Int.not_le, gt_iff_lt, ge_iff_le] at g1_6
    refine L_yes rfl rfl (q_move rfl) rfl ?_
    refine L_yes rfl rfl (q_move rfl) rfl ?_
    first | refine L_yes rfl rfl (q_nilP rfl) rfl ?_ | refine L_yes rfl rfl (q_nilF rfl) rfl ?_
    first | refine L_yes rfl rfl (q_faK fa_pursuivantref11_Node_Vote rfl) rfl ?_ | refine L_yes rfl rfl (q_fa fa_pursuivantref11_Node_Vote rfl) rfl ?_
    first | refine L_yes rfl rfl (q_load1z ld_int rfl (by repeat (first | exact List.Mem.head _ | apply List.Mem.tail)) (by rfl)) rfl ?_ | refine L_yes rfl rfl (q_load1 ld_int rfl (by repeat (first | exact List.Mem.head _ | apply List.Mem.tail)) rfl (by rfl)) rfl ?_
    refine L_yes rfl rfl (q_int rfl rfl rfl) rfl ?_
    first | refine L_s (q_pickT rfl rfl) rfl ?_ | refine L_s (q_pickF rfl rfl) rfl ?_
    first | exact WPL.jn rfl rfl (by repeat (first | exact trivial | refine ⟨rfl, ?_⟩)) | exact WPL.jnI rfl rfl (by repeat (first | exact trivial | refine ⟨rfl, ?_⟩)) (Imp.pick (by repeat (first | exact Pick.nil | apply Pick.keep (by repeat (first | exact List.Mem.head _ | apply List.Mem.tail)) (by first | exact Pers.cells _ _ _ | exact Pers.slv _ _ _) | apply Pick.cons (by repeat (first | exact Pick1.here | apply Pick1.there)))))
  refine L_s (q_move rfl) rfl ?_
  apply WPL.joinO (e' := [(3, _), (4, _), (5, _), (6, _), (7, _), (8, _), (18, _)]) 33 40 7 rfl
  · intro g1_14
    try simp only [decide_eq_true_eq, decide_eq_false_iff_not, beq_iff_eq, bne_iff_ne, beq_eq_false_iff_ne, bne_eq_false_iff_eq, Bool.not_eq_true', Bool.not_eq_false', Bool.not_eq_eq_eq_not, Bool.not_true, Bool.not_false, ne_eq, Decidable.not_not, Int.not_lt, Int.not_le, gt_iff_lt, ge_iff_le] at g1_14
    simp at g1_14
  · intro g1_14
    try simp only [decide_eq_true_eq, decide_eq_false_iff_not, beq_iff_eq, bne_iff_ne, beq_eq_false_iff_ne, bne_eq_false_iff_eq, Bool.not_eq_true', Bool.not_eq_false', Bool.not_eq_eq_eq_not, Bool.not_true, Bool.not_false, ne_eq, Decidable.not_not, Int.not_lt, Int.not_le, gt_iff_lt, ge_iff_le] at g1_14
    refine L_yes rfl rfl (q_move rfl) rfl ?_
    refine L_yes rfl rfl (q_move rfl) rfl ?_
    first | refine L_yes rfl rfl (q_nilP rfl) rfl ?_ | refine L_yes rfl rfl (q_nilF rfl) rfl ?_
    first | refine L_yes rfl rfl (q_faK fa_pursuivantref11_Node_Role rfl) rfl ?_ | refine L_yes rfl rfl (q_fa fa_pursuivantref11_Node_Role rfl) rfl ?_
    first | refine L_yes rfl rfl (q_load1z ld_int rfl (by repeat (first | exact List.Mem.head _ | apply List.Mem.tail)) (by rfl)) rfl ?_ | refine L_yes rfl rfl (q_load1 ld_int rfl (by repeat (first | exact List.Mem.head _ | apply List.Mem.tail)) rfl (by rfl)) rfl ?_
    refine L_yes rfl rfl (q_int rfl rfl rfl) rfl ?_
    first | refine L_s (q_pickT rfl rfl) rfl ?_ | refine L_s (q_pickF rfl rfl) rfl ?_
    first | exact WPL.jn rfl rfl (by repeat (first | exact trivial | refine ⟨rfl, ?_⟩)) | exact WPL.jnI rfl rfl (by repeat (first | exact trivial | refine ⟨rfl, ?_⟩)) (Imp.pick (by repeat (first | exact Pick.nil | apply Pick.keep (by repeat (first | exact List.Mem.head _ | apply List.Mem.tail)) (by first | exact Pers.cells _ _ _ | exact Pers.slv _ _ _) | apply Pick.cons (by repeat (first | exact Pick1.here | apply Pick1.there)))))
  refine L_s (q_move rfl) rfl ?_
  apply WPL.joinO (e' := [(4, _), (5, _), (6, _), (7, _), (8, _), (18, _)]) 41 48 7 rfl
  · intro g1_22
    try simp only [decide_eq_true_eq, decide_eq_false_iff_not, beq_iff_eq, bne_iff_ne, beq_eq_false_iff_ne, bne_eq_false_iff_eq, Bool.not_eq_true', Bool.not_eq_false', Bool.not_eq_eq_eq_not, Bool.not_true, Bool.not_false, ne_eq, Decidable.not_not, Int.not_lt, Int.not_le, gt_iff_lt, ge_iff_le] at g1_22
    simp at g1_22
  · intro g1_22
    try simp only [decide_eq_true_eq, decide_eq_false_iff_not, beq_iff_eq, bne_iff_ne, beq_eq_false_iff_ne, bne_eq_false_iff_eq, Bool.not_eq_true', Bool.not_eq_false', Bool.not_eq_eq_eq_not, Bool.not_true, Bool.not_false, ne_eq, Decidable.not_not, Int.not_lt, Int.not_le, gt_iff_lt, ge_iff_le] at g1_22
    refine L_yes rfl rfl (q_move rfl) rfl ?_
    refine L_yes rfl rfl (q_move rfl) rfl ?_
    first | refine L_yes rfl rfl (q_nilP rfl) rfl ?_ | refine L_yes rfl rfl (q_nilF rfl) rfl ?_
    first | refine L_yes rfl rfl (q_faK fa_pursuivantref11_Node_Lead rfl) rfl ?_ | refine L_yes rfl rfl (q_fa fa_pursuivantref11_Node_Lead rfl) rfl ?_
    first | refine L_yes rfl rfl (q_load1z ld_int rfl (by repeat (first | exact List.Mem.head _ | apply List.Mem.tail)) (by rfl)) rfl ?_ | refine L_yes rfl rfl (q_load1 ld_int rfl (by repeat (first | exact List.Mem.head _ | apply List.Mem.tail)) rfl (by rfl)) rfl ?_
    refine L_yes rfl rfl (q_int rfl rfl rfl) rfl ?_
    first | refine L_s (q_pickT rfl rfl) rfl ?_ | refine L_s (q_pickF rfl rfl) rfl ?_
    first | exact WPL.jn rfl rfl (by repeat (first | exact trivial | refine ⟨rfl, ?_⟩)) | exact WPL.jnI rfl rfl (by repeat (first | exact trivial | refine ⟨rfl, ?_⟩)) (Imp.pick (by repeat (first | exact Pick.nil | apply Pick.keep (by repeat (first | exact List.Mem.head _ | apply List.Mem.tail)) (by first | exact Pers.cells _ _ _ | exact Pers.slv _ _ _) | apply Pick.cons (by repeat (first | exact Pick1.here | apply Pick1.there)))))
  refine WPL.nil ?_
  refine WPC.cond rfl (fun h0 => ?_) (fun h0 => ?_)
  · try simp only [decide_eq_true_eq, decide_eq_false_iff_not, beq_iff_eq, bne_iff_ne, beq_eq_false_iff_ne, bne_eq_false_iff_eq, Bool.not_eq_true', Bool.not_eq_false', Bool.not_eq_eq_eq_not, Bool.not_true, Bool.not_false, ne_eq, Decidable.not_not, Int.not_lt, Int.not_le, gt_iff_lt, ge_iff_le] at h0
    simp at h0
  · try simp only [decide_eq_true_eq, decide_eq_false_iff_not, beq_iff_eq, bne_iff_ne, beq_eq_false_iff_ne, bne_eq_false_iff_eq, Bool.not_eq_true', Bool.not_eq_false', Bool.not_eq_eq_eq_not, Bool.not_true, Bool.not_false, ne_eq, Decidable.not_not, Int.not_lt, Int.not_le, gt_iff_lt, ge_iff_le] at h0
    refine WPC.skip ?_
    refine thenQ_n ?_
    refine WPC.seqR ?_
    refine L_s (q_move rfl) rfl ?_
    refine L_s (q_move rfl) rfl ?_
    first | refine L_s (q_nilP rfl) rfl ?_ | refine L_s (q_nilF rfl) rfl ?_
    first | refine L_s (q_faK fa_pursuivantref11_Node_Term rfl) rfl ?_ | refine L_s (q_fa fa_pursuivantref11_Node_Term rfl) rfl ?_
    first | refine L_s (q_load1z ld_uint64 rfl (by repeat (first | exact List.Mem.head _ | apply List.Mem.tail)) (by rfl)) rfl ?_ | refine L_s (q_load1 ld_uint64 rfl (by repeat (first | exact List.Mem.head _ | apply List.Mem.tail)) rfl (by rfl)) rfl ?_
    refine L_s (q_int rfl rfl rfl) rfl ?_
    refine L_s (q_move rfl) rfl ?_
    apply WPL.joinA (e' := [(4, _), (7, _), (8, _), (18, _)]) 55 62 7 rfl
    · intro g3_6
      try simp only [decide_eq_true_eq, decide_eq_false_iff_not, beq_iff_eq, bne_iff_ne, beq_eq_false_iff_ne, bne_eq_false_iff_eq, Bool.not_eq_true', Bool.not_eq_false', Bool.not_eq_eq_eq_not, Bool.not_true, Bool.not_false, ne_eq, Decidable.not_not, Int.not_lt, Int.not_le, gt_iff_lt, ge_iff_le] at g3_6
      refine L_yes rfl rfl (q_move rfl) rfl ?_
      refine L_yes rfl rfl (q_move rfl) rfl ?_
      first | refine L_yes rfl rfl (q_nilP rfl) rfl ?_ | refine L_yes rfl rfl (q_nilF rfl) rfl ?_
      first | refine L_yes rfl rfl (q_faK fa_pursuivantref11_Node_Commit rfl) rfl ?_ | refine L_yes rfl rfl (q_fa fa_pursuivantref11_Node_Commit rfl) rfl ?_
      first | refine L_yes rfl rfl (q_load1z ld_uint64 rfl (by repeat (first | exact List.Mem.head _ | apply List.Mem.tail)) (by rfl)) rfl ?_ | refine L_yes rfl rfl (q_load1 ld_uint64 rfl (by repeat (first | exact List.Mem.head _ | apply List.Mem.tail)) rfl (by rfl)) rfl ?_
      refine L_yes rfl rfl (q_int rfl rfl rfl) rfl ?_
      first | refine L_s (q_pickT rfl rfl) rfl ?_ | refine L_s (q_pickF rfl rfl) rfl ?_
      first | exact WPL.jn rfl rfl (by repeat (first | exact trivial | refine ⟨rfl, ?_⟩)) | exact WPL.jnI rfl rfl (by repeat (first | exact trivial | refine ⟨rfl, ?_⟩)) (Imp.pick (by repeat (first | exact Pick.nil | apply Pick.keep (by repeat (first | exact List.Mem.head _ | apply List.Mem.tail)) (by first | exact Pers.cells _ _ _ | exact Pers.slv _ _ _) | apply Pick.cons (by repeat (first | exact Pick1.here | apply Pick1.there)))))
    · intro g3_6
      try simp only [decide_eq_true_eq, decide_eq_false_iff_not, beq_iff_eq, bne_iff_ne, beq_eq_false_iff_ne, bne_eq_false_iff_eq, Bool.not_eq_true', Bool.not_eq_false', Bool.not_eq_eq_eq_not, Bool.not_true, Bool.not_false, ne_eq, Decidable.not_not, Int.not_lt, Int.not_le, gt_iff_lt, ge_iff_le] at g3_6
      refine L_no rfl rfl rfl rfl ?_
      refine L_no rfl rfl rfl rfl ?_
      refine L_no rfl rfl rfl rfl ?_
      refine L_no rfl rfl rfl rfl ?_
      refine L_no rfl rfl rfl rfl ?_
      refine L_no rfl rfl rfl rfl ?_
      first | refine L_s (q_pickT rfl rfl) rfl ?_ | refine L_s (q_pickF rfl rfl) rfl ?_
      first | exact WPL.jn rfl rfl (by repeat (first | exact trivial | refine ⟨rfl, ?_⟩)) | exact WPL.jnI rfl rfl (by repeat (first | exact trivial | refine ⟨rfl, ?_⟩)) (Imp.pick (by repeat (first | exact Pick.nil | apply Pick.keep (by repeat (first | exact List.Mem.head _ | apply List.Mem.tail)) (by first | exact Pers.cells _ _ _ | exact Pers.slv _ _ _) | apply Pick.cons (by repeat (first | exact Pick1.here | apply Pick1.there)))))
    refine L_s (q_move rfl) rfl ?_
    apply WPL.joinA (e' := [(4, _), (8, _), (18, _)]) 63 70 7 rfl
    · intro g3_14
      try simp only [decide_eq_true_eq, decide_eq_false_iff_not, beq_iff_eq, bne_iff_ne, beq_eq_false_iff_ne, bne_eq_false_iff_eq, Bool.not_eq_true', Bool.not_eq_false', Bool.not_eq_eq_eq_not, Bool.not_true, Bool.not_false, ne_eq, Decidable.not_not, Int.not_lt, Int.not_le, gt_iff_lt, ge_iff_le] at g3_14
      refine L_yes rfl rfl (q_move rfl) rfl ?_
      refine L_yes rfl rfl (q_move rfl) rfl ?_
      first | refine L_yes rfl rfl (q_nilP rfl) rfl ?_ | refine L_yes rfl rfl (q_nilF rfl) rfl ?_
      first | refine L_yes rfl rfl (q_faK fa_pursuivantref11_Node_Heard rfl) rfl ?_ | refine L_yes rfl rfl (q_fa fa_pursuivantref11_Node_Heard rfl) rfl ?_
      first | refine L_yes rfl rfl (q_load1z ld_bool rfl (by repeat (first | exact List.Mem.head _ | apply List.Mem.tail)) (by rfl)) rfl ?_ | refine L_yes rfl rfl (q_load1 ld_bool rfl (by repeat (first | exact List.Mem.head _ | apply List.Mem.tail)) rfl (by rfl)) rfl ?_
      refine L_yes rfl rfl (q_boolEq un_bool rfl rfl) rfl ?_
      first | refine L_s (q_pickT rfl rfl) rfl ?_ | refine L_s (q_pickF rfl rfl) rfl ?_
      first | exact WPL.jn rfl rfl (by repeat (first | exact trivial | refine ⟨rfl, ?_⟩)) | exact WPL.jnI rfl rfl (by repeat (first | exact trivial | refine ⟨rfl, ?_⟩)) (Imp.pick (by repeat (first | exact Pick.nil | apply Pick.keep (by repeat (first | exact List.Mem.head _ | apply List.Mem.tail)) (by first | exact Pers.cells _ _ _ | exact Pers.slv _ _ _) | apply Pick.cons (by repeat (first | exact Pick1.here | apply Pick1.there)))))
    · intro g3_14
      try simp only [decide_eq_true_eq, decide_eq_false_iff_not, beq_iff_eq, bne_iff_ne, beq_eq_false_iff_ne, bne_eq_false_iff_eq, Bool.not_eq_true', Bool.not_eq_false', Bool.not_eq_eq_eq_not, Bool.not_true, Bool.not_false, ne_eq, Decidable.not_not, Int.not_lt, Int.not_le, gt_iff_lt, ge_iff_le] at g3_14
      refine L_no rfl rfl rfl rfl ?_
      refine L_no rfl rfl rfl rfl ?_
      refine L_no rfl rfl rfl rfl ?_
      refine L_no rfl rfl rfl rfl ?_
      refine L_no rfl rfl rfl rfl ?_
      refine L_no rfl rfl rfl rfl ?_
      first | refine L_s (q_pickT rfl rfl) rfl ?_ | refine L_s (q_pickF rfl rfl) rfl ?_
      first | exact WPL.jn rfl rfl (by repeat (first | exact trivial | refine ⟨rfl, ?_⟩)) | exact WPL.jnI rfl rfl (by repeat (first | exact trivial | refine ⟨rfl, ?_⟩)) (Imp.pick (by repeat (first | exact Pick.nil | apply Pick.keep (by repeat (first | exact List.Mem.head _ | apply List.Mem.tail)) (by first | exact Pers.cells _ _ _ | exact Pers.slv _ _ _) | apply Pick.cons (by repeat (first | exact Pick1.here | apply Pick1.there)))))
    refine L_s (q_move rfl) rfl ?_
    apply WPL.joinA (e' := [(18, _)]) 71 78 7 rfl
    · intro g3_22
      try simp only [decide_eq_true_eq, decide_eq_false_iff_not, beq_iff_eq, bne_iff_ne, beq_eq_false_iff_ne, bne_eq_false_iff_eq, Bool.not_eq_true', Bool.not_eq_false', Bool.not_eq_eq_eq_not, Bool.not_true, Bool.not_false, ne_eq, Decidable.not_not, Int.not_lt, Int.not_le, gt_iff_lt, ge_iff_le] at g3_22
      refine L_yes rfl rfl (q_move rfl) rfl ?_
      refine L_yes rfl rfl (q_move rfl) rfl ?_
      first | refine L_yes rfl rfl (q_nilP rfl) rfl ?_ | refine L_yes rfl rfl (q_nilF rfl) rfl ?_
      first | refine L_yes rfl rfl (q_faK fa_pursuivantref11_Node_Yes rfl) rfl ?_ | refine L_yes rfl rfl (q_fa fa_pursuivantref11_Node_Yes rfl) rfl ?_
      first | refine L_yes rfl rfl (q_load1z ld_sl_int rfl (by repeat (first | exact List.Mem.head _ | apply List.Mem.tail)) (by rfl)) rfl ?_ | refine L_yes rfl rfl (q_load1 ld_sl_int rfl (by repeat (first | exact List.Mem.head _ | apply List.Mem.tail)) rfl (by rfl)) rfl ?_
      refine L_eyes rfl rfl rfl (C1.call (c_call Try.func15 rfl rfl rfl) (c_Numbers (q := q) hy hy' (by omega)) (by repeat (first | exact Pick.nil | apply Pick.keep (by repeat (first | exact List.Mem.head _ | apply List.Mem.tail)) (by first | exact Pers.cells _ _ _ | exact Pers.slv _ _ _) | apply Pick.cons (by repeat (first | exact Pick1.here | apply Pick1.there)))) rfl ?_)
      rintro _ _ ⟨rfl, rfl⟩
      refine WPL.putS ?_
      first | refine L_s (q_pickT rfl rfl) rfl ?_ | refine L_s (q_pickF rfl rfl) rfl ?_
      first | exact WPL.jn rfl rfl (by repeat (first | exact trivial | refine ⟨rfl, ?_⟩)) | exact WPL.jnI rfl rfl (by repeat (first | exact trivial | refine ⟨rfl, ?_⟩)) (Imp.pick (by repeat (first | exact Pick.nil | apply Pick.keep (by repeat (first | exact List.Mem.head _ | apply List.Mem.tail)) (by first | exact Pers.cells _ _ _ | exact Pers.slv _ _ _) | apply Pick.cons (by repeat (first | exact Pick1.here | apply Pick1.there)))))
    · intro g3_22
      try simp only [decide_eq_true_eq, decide_eq_false_iff_not, beq_iff_eq, bne_iff_ne, beq_eq_false_iff_ne, bne_eq_false_iff_eq, Bool.not_eq_true', Bool.not_eq_false', Bool.not_eq_eq_eq_not, Bool.not_true, Bool.not_false, ne_eq, Decidable.not_not, Int.not_lt, Int.not_le, gt_iff_lt, ge_iff_le] at g3_22
      refine L_no rfl rfl rfl rfl ?_
      refine L_no rfl rfl rfl rfl ?_
      refine L_no rfl rfl rfl rfl ?_
      refine L_no rfl rfl rfl rfl ?_
      refine L_no rfl rfl rfl rfl ?_
      refine L_no rfl rfl rfl rfl ?_
      first | refine L_s (q_pickT rfl rfl) rfl ?_ | refine L_s (q_pickF rfl rfl) rfl ?_
      first | exact WPL.jn rfl rfl (by repeat (first | exact trivial | refine ⟨rfl, ?_⟩)) | exact WPL.jnI rfl rfl (by repeat (first | exact trivial | refine ⟨rfl, ?_⟩)) (Imp.pick (by repeat (first | exact Pick.nil | apply Pick.keep (by repeat (first | exact List.Mem.head _ | apply List.Mem.tail)) (by first | exact Pers.cells _ _ _ | exact Pers.slv _ _ _) | apply Pick.cons (by repeat (first | exact Pick1.here | apply Pick1.there)))))
    refine L_s (q_assign rfl) rfl ?_
    refine WPL.nil ?_
    refine WPC.ret ?_
    exact endR_r rfl (.tmp rfl .nil) (Imp.pick (by repeat (first | exact Pick.nil | apply Pick.keep (by repeat (first | exact List.Mem.head _ | apply List.Mem.tail)) (by first | exact Pers.cells _ _ _ | exact Pers.slv _ _ _) | apply Pick.cons (by repeat (first | exact Pick1.here | apply Pick1.there))))) ⟨by simp [packV], rfl⟩

theorem c_Same09 {p q : Bool} {ea ea' : Option Addr} {n c c' : Nat} {es : List RE} {D : A} {base bt : Int} (hs : Sok 3 ea n c (es.flatMap encE)) (hs' : Sok 3 ea' n c' (es.flatMap encE)) (hn : n < 1073741824) (hd : ∀ x ∈ es, EData D x) : Trip Try.prog 40 #[.int .u64 base, .int .u64 bt, .slice ea n c, (.agg #[.int .u64 base, .int .u64 bt, .slice ea' n c'])] [sl p ea (es.flatMap encE), sl q ea' (es.flatMap encE), D] fun r Δ => r = .bool true ∧ Δ = [sl p ea (es.flatMap encE), sl q ea' (es.flatMap encE), D] := by
  refine Trip.start 27 [.tmp 8] [(0, .int .u64 base), (1, .int .u64 bt), (2, .slice ea n c), (3, (.agg #[.int .u64 base, .int .u64 bt, .slice ea' n c']))] Try.func40 rfl Try.ntmps40 rfl ⟨rfl, rfl, rfl, rfl, trivial⟩ rfl ?_
  refine WPC.seqR ?_
  first | refine WPL.cons rfl (E1.wpo (e_boxN rfl) rfl ?_) | refine WPL.cons rfl (E1.wpo (e_box1 rfl rfl) rfl ?_)
  rintro _ _ ⟨b1, rfl, rfl⟩
  refine WPL.putS ?_
  refine L_s (q_assign rfl) rfl ?_
  refine WPL.nil ?_
  refine WPC.seqR ?_
  refine L_s (q_move rfl) rfl ?_
  first | refine L_s (q_faK fa_pursuivantref09_Log_Entries rfl) rfl ?_ | refine L_s (q_fa fa_pursuivantref09_Log_Entries rfl) rfl ?_
  first | refine L_s (q_load1z ld_sl_api_Entry rfl (by repeat (first | exact List.Mem.head _ | apply List.Mem.tail)) (by rfl)) rfl ?_ | refine L_s (q_load1 ld_sl_api_Entry rfl (by repeat (first | exact List.Mem.head _ | apply List.Mem.tail)) rfl (by rfl)) rfl ?_
  refine WPL.cons rfl (C1.call (c_call Try.func56 rfl rfl rfl) (c_Entries (p := p) (q := q) hs hs' hn hd) (by repeat (first | exact Pick.nil | apply Pick.keep (by repeat (first | exact List.Mem.head _ | apply List.Mem.tail)) (by first | exact Pers.cells _ _ _ | exact Pers.slv _ _ _) | apply Pick.cons (by repeat (first | exact Pick1.here | apply Pick1.there)))) rfl ?_)
  rintro _ _ ⟨rfl, rfl⟩
  refine WPL.putS ?_
  refine L_s (q_assign rfl) rfl ?_
  refine WPL.nil ?_
  refine WPC.seqR ?_
  refine L_s (q_move rfl) rfl ?_
  first | refine L_s (q_faK fa_pursuivantref09_Log_Base rfl) rfl ?_ | refine L_s (q_fa fa_pursuivantref09_Log_Base rfl) rfl ?_
  first | refine L_s (q_load1z ld_uint64 rfl (by repeat (first | exact List.Mem.head _ | apply List.Mem.tail)) (by rfl)) rfl ?_ | refine L_s (q_load1 ld_uint64 rfl (by repeat (first | exact List.Mem.head _ | apply List.Mem.tail)) rfl (by rfl)) rfl ?_
  refine L_s (q_int rfl rfl rfl) rfl ?_
  refine L_s (q_move rfl) rfl ?_
  apply WPL.joinA (e' := [(8, _), (9, _)]) 18 23 5 rfl
  · intro g2_4
    try simp only [decide_eq_true_eq, decide_eq_false_iff_not, beq_iff_eq, bne_iff_ne, beq_eq_false_iff_ne, bne_eq_false_iff_eq, Bool.not_eq_true', Bool.not_eq_false', Bool.not_eq_eq_eq_not, Bool.not_true, Bool.not_false, ne_eq, Decidable.not_not, Int.not_lt, Int.not_le, gt_iff_lt, ge_iff_le] at g2_4
    refine L_yes rfl rfl (q_move rfl) rfl ?_
    first | refine L_yes rfl rfl (q_faK fa_pursuivantref09_Log_BaseTerm rfl) rfl ?_ | refine L_yes rfl rfl (q_fa fa_pursuivantref09_Log_BaseTerm rfl) rfl ?_
    first | refine L_yes rfl rfl (q_load1z ld_uint64 rfl (by repeat (first | exact List.Mem.head _ | apply List.Mem.tail)) (by rfl)) rfl ?_ | refine L_yes rfl rfl (q_load1 ld_uint64 rfl (by repeat (first | exact List.Mem.head _ | apply List.Mem.tail)) rfl (by rfl)) rfl ?_
    refine L_yes rfl rfl (q_int rfl rfl rfl) rfl ?_
    first | refine L_s (q_pickT rfl rfl) rfl ?_ | refine L_s (q_pickF rfl rfl) rfl ?_
    first | exact WPL.jn rfl rfl (by repeat (first | exact trivial | refine ⟨rfl, ?_⟩)) | exact WPL.jnI rfl rfl (by repeat (first | exact trivial | refine ⟨rfl, ?_⟩)) (Imp.pick (by repeat (first | exact Pick.nil | apply Pick.keep (by repeat (first | exact List.Mem.head _ | apply List.Mem.tail)) (by first | exact Pers.cells _ _ _ | exact Pers.slv _ _ _) | apply Pick.cons (by repeat (first | exact Pick1.here | apply Pick1.there)))))
  · intro g2_4
    try simp only [decide_eq_true_eq, decide_eq_false_iff_not, beq_iff_eq, bne_iff_ne, beq_eq_false_iff_ne, bne_eq_false_iff_eq, Bool.not_eq_true', Bool.not_eq_false', Bool.not_eq_eq_eq_not, Bool.not_true, Bool.not_false, ne_eq, Decidable.not_not, Int.not_lt, Int.not_le, gt_iff_lt, ge_iff_le] at g2_4
    refine L_no rfl rfl rfl rfl ?_
    refine L_no rfl rfl rfl rfl ?_
    refine L_no rfl rfl rfl rfl ?_
    refine L_no rfl rfl rfl rfl ?_
    first | refine L_s (q_pickT rfl rfl) rfl ?_ | refine L_s (q_pickF rfl rfl) rfl ?_
    first | exact WPL.jn rfl rfl (by repeat (first | exact trivial | refine ⟨rfl, ?_⟩)) | exact WPL.jnI rfl rfl (by repeat (first | exact trivial | refine ⟨rfl, ?_⟩)) (Imp.pick (by repeat (first | exact Pick.nil | apply Pick.keep (by repeat (first | exact List.Mem.head _ | apply List.Mem.tail)) (by first | exact Pers.cells _ _ _ | exact Pers.slv _ _ _) | apply Pick.cons (by repeat (first | exact Pick1.here | apply Pick1.there)))))
  refine L_s (q_move rfl) rfl ?_
  apply WPL.joinA (e' := [(8, _)]) 24 26 2 rfl
  · intro g2_10
    try simp only [decide_eq_true_eq, decide_eq_false_iff_not, beq_iff_eq, bne_iff_ne, beq_eq_false_iff_ne, bne_eq_false_iff_eq, Bool.not_eq_true', Bool.not_eq_false', Bool.not_eq_eq_eq_not, Bool.not_true, Bool.not_false, ne_eq, Decidable.not_not, Int.not_lt, Int.not_le, gt_iff_lt, ge_iff_le] at g2_10
    refine L_yes rfl rfl (q_move rfl) rfl ?_
    first | refine L_s (q_pickT rfl rfl) rfl ?_ | refine L_s (q_pickF rfl rfl) rfl ?_
    first | exact WPL.jn rfl rfl (by repeat (first | exact trivial | refine ⟨rfl, ?_⟩)) | exact WPL.jnI rfl rfl (by repeat (first | exact trivial | refine ⟨rfl, ?_⟩)) (Imp.pick (by repeat (first | exact Pick.nil | apply Pick.keep (by repeat (first | exact List.Mem.head _ | apply List.Mem.tail)) (by first | exact Pers.cells _ _ _ | exact Pers.slv _ _ _) | apply Pick.cons (by repeat (first | exact Pick1.here | apply Pick1.there)))))
  · intro g2_10
    try simp only [decide_eq_true_eq, decide_eq_false_iff_not, beq_iff_eq, bne_iff_ne, beq_eq_false_iff_ne, bne_eq_false_iff_eq, Bool.not_eq_true', Bool.not_eq_false', Bool.not_eq_eq_eq_not, Bool.not_true, Bool.not_false, ne_eq, Decidable.not_not, Int.not_lt, Int.not_le, gt_iff_lt, ge_iff_le] at g2_10
    refine L_no rfl rfl rfl rfl ?_
    first | refine L_s (q_pickT rfl rfl) rfl ?_ | refine L_s (q_pickF rfl rfl) rfl ?_
    first | exact WPL.jn rfl rfl (by repeat (first | exact trivial | refine ⟨rfl, ?_⟩)) | exact WPL.jnI rfl rfl (by repeat (first | exact trivial | refine ⟨rfl, ?_⟩)) (Imp.pick (by repeat (first | exact Pick.nil | apply Pick.keep (by repeat (first | exact List.Mem.head _ | apply List.Mem.tail)) (by first | exact Pers.cells _ _ _ | exact Pers.slv _ _ _) | apply Pick.cons (by repeat (first | exact Pick1.here | apply Pick1.there)))))
  refine L_s (q_assign rfl) rfl ?_
  refine WPL.nil ?_
  refine WPC.ret ?_
  exact endR_r rfl (.tmp rfl .nil) (Imp.pick (by repeat (first | exact Pick.nil | apply Pick.keep (by repeat (first | exact List.Mem.head _ | apply List.Mem.tail)) (by first | exact Pers.cells _ _ _ | exact Pers.slv _ _ _) | apply Pick.cons (by repeat (first | exact Pick1.here | apply Pick1.there))))) ⟨by simp [packV], rfl⟩

end Go.Sl
