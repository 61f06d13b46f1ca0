/- Walks: hearing. -/
import Derived.Test.YtpipmojaonialaaWA
namespace Go.Sl
open Go Go.RowKit Go.Proofs
set_option linter.unusedSimpArgs false
set_option linter.unusedVariables false
attribute [local irreducible] faB szB ldB zB zL slB mkB arB plB intB cells objc star stars buf slv grp whole Sat WPC WPL WPA WPO Trip

theorem c_Follow {b o : Nat} {x : EN} {L : NL} (t l : Int) : Trip Try.prog 11 #[.pointer (some ⟨b, o, none⟩), .int .u64 t, .int .i64 l] [cells true b o (nodeC x L)] fun r Δ => r = .tuple #[] ∧ Δ = [cells true b o (nodeC (x.follow t l) { L with ya := none, yn := 0, yc := 0 })] := by
  dsimp only [nodeC]
  refine Trip.start 29 [] [(0, .pointer (some ⟨b, o, none⟩)), (1, .int .u64 t), (2, .int .i64 l)] Try.func11 rfl Try.ntmps11 rfl ⟨rfl, rfl, rfl, trivial⟩ rfl ?_
  refine WPC.seq ?_
  refine WPC.seqR ?_
  refine L_s (q_move rfl) rfl ?_
  refine L_s (q_move rfl) rfl ?_
  first | refine L_s (q_nilP rfl) rfl ?_ | refine L_s (q_nilF rfl) rfl ?_
  first | refine L_s (q_faK fa_elect_Node_Term rfl) rfl ?_ | refine L_s (q_fa fa_elect_Node_Term rfl) rfl ?_
  first | refine L_s (q_load1z ld_uint64 rfl (by repeat (first | exact List.Mem.head _ | apply List.Mem.tail)) (by rfl)) rfl ?_ | refine L_s (q_load1 ld_uint64 rfl (by repeat (first | exact List.Mem.head _ | apply List.Mem.tail)) rfl (by rfl)) rfl ?_
  refine L_s (q_int rfl rfl rfl) rfl ?_
  refine WPL.nil ?_
  refine WPC.cond rfl (fun h0 => ?_) (fun h0 => ?_)
  · try simp only [decide_eq_true_eq, decide_eq_false_iff_not, beq_iff_eq, bne_iff_ne, beq_eq_false_iff_ne, bne_eq_false_iff_eq, Bool.not_eq_true', Bool.not_eq_false', Bool.not_eq_eq_eq_not, Bool.not_true, Bool.not_false, ne_eq, Decidable.not_not, Int.not_lt, Int.not_le, gt_iff_lt, ge_iff_le] at h0
    refine WPC.region ?_
    refine L_s (q_move rfl) rfl ?_
    refine L_s (q_move rfl) rfl ?_
    refine L_s (q_move rfl) rfl ?_
    first | refine L_s (q_nilP rfl) rfl ?_ | refine L_s (q_nilF rfl) rfl ?_
    first | refine L_s (q_faK fa_elect_Node_Term rfl) rfl ?_ | refine L_s (q_fa fa_elect_Node_Term rfl) rfl ?_
    refine WPL.cons rfl (S1.wpo (s_store1k sz_uint64 rfl rfl rfl rfl (by repeat (first | exact Upd.here | apply Upd.there)) (by repeat constructor)) rfl ?_)
    refine WPL.putN ?_
    first | refine L_s (q_nilP rfl) rfl ?_ | refine L_s (q_nilF rfl) rfl ?_
    first | refine L_s (q_faK fa_elect_Node_Vote rfl) rfl ?_ | refine L_s (q_fa fa_elect_Node_Vote rfl) rfl ?_
    refine WPL.cons rfl (S1.wpo (s_store1k sz_int rfl rfl rfl rfl (by repeat (first | exact Upd.here | apply Upd.there)) (by repeat constructor)) rfl ?_)
    refine WPL.putN ?_
    refine WPL.nil ?_
    refine thenQ_n ?_
    refine WPC.region ?_
    refine L_s (q_move rfl) rfl ?_
    refine L_s (q_move rfl) rfl ?_
    refine L_s (q_move rfl) rfl ?_
    refine L_s (q_move rfl) rfl ?_
    first | refine L_s (q_nilP rfl) rfl ?_ | refine L_s (q_nilF rfl) rfl ?_
    first | refine L_s (q_faK fa_elect_Node_Role rfl) rfl ?_ | refine L_s (q_fa fa_elect_Node_Role rfl) rfl ?_
    refine WPL.cons rfl (S1.wpo (s_store1k sz_int rfl rfl rfl rfl (by repeat (first | exact Upd.here | apply Upd.there)) (by repeat constructor)) rfl ?_)
    refine WPL.putN ?_
    first | refine L_s (q_nilP rfl) rfl ?_ | refine L_s (q_nilF rfl) rfl ?_
    first | refine L_s (q_faK fa_elect_Node_Lead rfl) rfl ?_ | refine L_s (q_fa fa_elect_Node_Lead rfl) rfl ?_
    refine WPL.cons rfl (S1.wpo (s_store1k sz_int rfl rfl rfl rfl (by repeat (first | exact Upd.here | apply Upd.there)) (by repeat constructor)) rfl ?_)
    refine WPL.putN ?_
    first | refine L_s (q_nilP rfl) rfl ?_ | refine L_s (q_nilF rfl) rfl ?_
    first | refine L_s (q_faK fa_elect_Node_Yes rfl) rfl ?_ | refine L_s (q_fa fa_elect_Node_Yes rfl) rfl ?_
    refine WPL.cons rfl (S1.wpo (s_store1k sz_sl_int rfl rfl rfl rfl (by repeat (first | exact Upd.here | apply Upd.there)) (by repeat constructor)) rfl ?_)
    refine WPL.putN ?_
    refine WPL.nil ?_
    unfold EN.follow
    first | rw [if_pos h0, if_pos h0] | rw [if_neg (Int.not_lt.2 h0), if_neg (Int.not_lt.2 h0)]
    exact endR_n rfl .nil (Imp.pick (by repeat (first | exact Pick.nil | apply Pick.keep (by repeat (first | exact List.Mem.head _ | apply List.Mem.tail)) (by first | exact Pers.cells _ _ _ | exact Pers.slv _ _ _) | apply Pick.cons (by repeat (first | exact Pick1.here | apply Pick1.there))))) ⟨rfl, rfl⟩
  · try simp only [decide_eq_true_eq, decide_eq_false_iff_not, beq_iff_eq, bne_iff_ne, beq_eq_false_iff_ne, bne_eq_false_iff_eq, Bool.not_eq_true', Bool.not_eq_false', Bool.not_eq_eq_eq_not, Bool.not_true, Bool.not_false, ne_eq, Decidable.not_not, Int.not_lt, Int.not_le, gt_iff_lt, ge_iff_le] at h0
    refine WPC.skip ?_
    refine thenQ_n ?_
    refine WPC.region ?_
    refine L_s (q_move rfl) rfl ?_
    refine L_s (q_move rfl) rfl ?_
    refine L_s (q_move rfl) rfl ?_
    refine L_s (q_move rfl) rfl ?_
    first | refine L_s (q_nilP rfl) rfl ?_ | refine L_s (q_nilF rfl) rfl ?_
    first | refine L_s (q_faK fa_elect_Node_Role rfl) rfl ?_ | refine L_s (q_fa fa_elect_Node_Role rfl) rfl ?_
    refine WPL.cons rfl (S1.wpo (s_store1k sz_int rfl rfl rfl rfl (by repeat (first | exact Upd.here | apply Upd.there)) (by repeat constructor)) rfl ?_)
    refine WPL.putN ?_
    first | refine L_s (q_nilP rfl) rfl ?_ | refine L_s (q_nilF rfl) rfl ?_
    first | refine L_s (q_faK fa_elect_Node_Lead rfl) rfl ?_ | refine L_s (q_fa fa_elect_Node_Lead rfl) rfl ?_
    refine WPL.cons rfl (S1.wpo (s_store1k sz_int rfl rfl rfl rfl (by repeat (first | exact Upd.here | apply Upd.there)) (by repeat constructor)) rfl ?_)
    refine WPL.putN ?_
    first | refine L_s (q_nilP rfl) rfl ?_ | refine L_s (q_nilF rfl) rfl ?_
    first | refine L_s (q_faK fa_elect_Node_Yes rfl) rfl ?_ | refine L_s (q_fa fa_elect_Node_Yes rfl) rfl ?_
    refine WPL.cons rfl (S1.wpo (s_store1k sz_sl_int rfl rfl rfl rfl (by repeat (first | exact Upd.here | apply Upd.there)) (by repeat constructor)) rfl ?_)
    refine WPL.putN ?_
    refine WPL.nil ?_
    unfold EN.follow
    first | rw [if_pos h0, if_pos h0] | rw [if_neg (Int.not_lt.2 h0), if_neg (Int.not_lt.2 h0)]
    exact endR_n rfl .nil (Imp.pick (by repeat (first | exact Pick.nil | apply Pick.keep (by repeat (first | exact List.Mem.head _ | apply List.Mem.tail)) (by first | exact Pers.cells _ _ _ | exact Pers.slv _ _ _) | apply Pick.cons (by repeat (first | exact Pick1.here | apply Pick1.there))))) ⟨rfl, rfl⟩

theorem c_would {p : Bool} {b o : Nat} {x : EN} {L : NL} (m : RM) : Trip Try.prog 45 #[.pointer (some ⟨b, o, none⟩), .agg (encM m).toArray] [cells p b o (nodeC x L)] fun r Δ => r = .bool (x.would m) ∧ Δ = [cells p b o (nodeC x L)] := by
  refine Trip.start 52 [.tmp 4] [(0, .pointer (some ⟨b, o, none⟩)), (1, .agg (encM m).toArray)] Try.func45 rfl Try.ntmps45 rfl ⟨rfl, rfl, trivial⟩ rfl ?_
  refine WPC.seqR ?_
  first | refine WPL.cons rfl (E1.wpo (e_boxN rfl) rfl ?_) | refine WPL.cons rfl (E1.wpo (e_box1 rfl rfl) rfl ?_)
  rintro _ _ ⟨b1, rfl, rfl⟩
  refine WPL.putS ?_
  refine L_s (q_assign rfl) rfl ?_
  refine WPL.nil ?_
  refine WPC.seq ?_
  refine WPC.seqR ?_
  first | refine L_s (q_faK fa_api_Msg_Kind rfl) rfl ?_ | refine L_s (q_fa fa_api_Msg_Kind rfl) rfl ?_
  first | refine L_s (q_load1z ld_int rfl (by repeat (first | exact List.Mem.head _ | apply List.Mem.tail)) (by rfl)) rfl ?_ | refine L_s (q_load1 ld_int rfl (by repeat (first | exact List.Mem.head _ | apply List.Mem.tail)) rfl (by rfl)) rfl ?_
  refine L_s (q_int rfl rfl rfl) rfl ?_
  refine WPL.nil ?_
  refine WPC.cond rfl (fun h0 => ?_) (fun h0 => ?_)
  · try simp only [decide_eq_true_eq, decide_eq_false_iff_not, beq_iff_eq, bne_iff_ne, beq_eq_false_iff_ne, bne_eq_false_iff_eq, Bool.not_eq_true', Bool.not_eq_false', Bool.not_eq_eq_eq_not, Bool.not_true, Bool.not_false, ne_eq, Decidable.not_not, Int.not_lt, Int.not_le, gt_iff_lt, ge_iff_le] at h0
    refine WPC.seqQ mixed (by kernel_rfl) ?_
    first | refine WPQ.cons (q_faK fa_api_Msg_Term rfl) rfl ?_ | refine WPQ.cons (q_fa fa_api_Msg_Term rfl) rfl ?_
    first | refine WPQ.cons (q_load1z ld_uint64 rfl (by repeat (first | exact List.Mem.head _ | apply List.Mem.tail)) (by rfl)) rfl ?_ | refine WPQ.cons (q_load1 ld_uint64 rfl (by repeat (first | exact List.Mem.head _ | apply List.Mem.tail)) rfl (by rfl)) rfl ?_
    refine WPQ.cons (q_move rfl) rfl ?_
    first | refine WPQ.cons (q_nilP rfl) rfl ?_ | refine WPQ.cons (q_nilF rfl) rfl ?_
    first | refine WPQ.cons (q_faK fa_elect_Node_Term rfl) rfl ?_ | refine WPQ.cons (q_fa fa_elect_Node_Term rfl) rfl ?_
    first | refine WPQ.cons (q_load1z ld_uint64 rfl (by repeat (first | exact List.Mem.head _ | apply List.Mem.tail)) (by rfl)) rfl ?_ | refine WPQ.cons (q_load1 ld_uint64 rfl (by repeat (first | exact List.Mem.head _ | apply List.Mem.tail)) rfl (by rfl)) rfl ?_
    refine WPQ.cons (q_int rfl rfl rfl) rfl ?_
    refine WPQ.cons (q_move rfl) rfl ?_
    apply WPQ.joinA (e' := [(0, _), (3, _), (4, _)]) 15 21 6 rfl
    · intro g2_7
      try simp only [decide_eq_true_eq, decide_eq_false_iff_not, beq_iff_eq, bne_iff_ne, beq_eq_false_iff_ne, bne_eq_false_iff_eq, Bool.not_eq_true', Bool.not_eq_false', Bool.not_eq_eq_eq_not, Bool.not_true, Bool.not_false, ne_eq, Decidable.not_not, Int.not_lt, Int.not_le, gt_iff_lt, ge_iff_le] at g2_7
      refine WPQ.yes rfl rfl (q_move rfl) rfl ?_
      first | refine WPQ.yes rfl rfl (q_nilP rfl) rfl ?_ | refine WPQ.yes rfl rfl (q_nilF rfl) rfl ?_
      first | refine WPQ.yes rfl rfl (q_faK fa_elect_Node_Heard rfl) rfl ?_ | refine WPQ.yes rfl rfl (q_fa fa_elect_Node_Heard rfl) rfl ?_
      first | refine WPQ.yes rfl rfl (q_load1z ld_bool rfl (by repeat (first | exact List.Mem.head _ | apply List.Mem.tail)) (by rfl)) rfl ?_ | refine WPQ.yes rfl rfl (q_load1 ld_bool rfl (by repeat (first | exact List.Mem.head _ | apply List.Mem.tail)) rfl (by rfl)) rfl ?_
      refine WPQ.yes rfl rfl (q_not rfl) rfl ?_
      first | refine WPQ.cons (q_pickT rfl rfl) rfl ?_ | refine WPQ.cons (q_pickF rfl rfl) rfl ?_
      exact WPQ.jn rfl rfl (by repeat (first | exact trivial | refine ⟨rfl, ?_⟩))
    · intro g2_7
      try simp only [decide_eq_true_eq, decide_eq_false_iff_not, beq_iff_eq, bne_iff_ne, beq_eq_false_iff_ne, bne_eq_false_iff_eq, Bool.not_eq_true', Bool.not_eq_false', Bool.not_eq_eq_eq_not, Bool.not_true, Bool.not_false, ne_eq, Decidable.not_not, Int.not_lt, Int.not_le, gt_iff_lt, ge_iff_le] at g2_7
      refine WPQ.no rfl rfl rfl rfl ?_
      refine WPQ.no rfl rfl rfl rfl ?_
      refine WPQ.no rfl rfl rfl rfl ?_
      refine WPQ.no rfl rfl rfl rfl ?_
      refine WPQ.no rfl rfl rfl rfl ?_
      first | refine WPQ.cons (q_pickT rfl rfl) rfl ?_ | refine WPQ.cons (q_pickF rfl rfl) rfl ?_
      exact WPQ.jn rfl rfl (by repeat (first | exact trivial | refine ⟨rfl, ?_⟩))
    refine WPQ.cons (q_assign rfl) rfl ?_
    refine WPQ.nil ?_
    refine WPC.ret ?_
    refine thenQ_r ?_
    exact endR_r rfl (.tmp rfl .nil) (Imp.pick (by repeat (first | exact Pick.nil | apply Pick.keep (by repeat (first | exact List.Mem.head _ | apply List.Mem.tail)) (by first | exact Pers.cells _ _ _ | exact Pers.slv _ _ _) | apply Pick.cons (by repeat (first | exact Pick1.here | apply Pick1.there))))) ⟨by simp only [packV, EN.would, if_pos h0, gt_iff_lt], rfl⟩
  · try simp only [decide_eq_true_eq, decide_eq_false_iff_not, beq_iff_eq, bne_iff_ne, beq_eq_false_iff_ne, bne_eq_false_iff_eq, Bool.not_eq_true', Bool.not_eq_false', Bool.not_eq_eq_eq_not, Bool.not_true, Bool.not_false, ne_eq, Decidable.not_not, Int.not_lt, Int.not_le, gt_iff_lt, ge_iff_le] at h0
    refine WPC.skip ?_
    refine thenQ_n ?_
    refine WPC.seqQ mixed (by kernel_rfl) ?_
    first | refine WPQ.cons (q_faK fa_api_Msg_Term rfl) rfl ?_ | refine WPQ.cons (q_fa fa_api_Msg_Term rfl) rfl ?_
    first | refine WPQ.cons (q_load1z ld_uint64 rfl (by repeat (first | exact List.Mem.head _ | apply List.Mem.tail)) (by rfl)) rfl ?_ | refine WPQ.cons (q_load1 ld_uint64 rfl (by repeat (first | exact List.Mem.head _ | apply List.Mem.tail)) rfl (by rfl)) rfl ?_
    refine WPQ.cons (q_move rfl) rfl ?_
    first | refine WPQ.cons (q_nilP rfl) rfl ?_ | refine WPQ.cons (q_nilF rfl) rfl ?_
    first | refine WPQ.cons (q_faK fa_elect_Node_Term rfl) rfl ?_ | refine WPQ.cons (q_fa fa_elect_Node_Term rfl) rfl ?_
    first | refine WPQ.cons (q_load1z ld_uint64 rfl (by repeat (first | exact List.Mem.head _ | apply List.Mem.tail)) (by rfl)) rfl ?_ | refine WPQ.cons (q_load1 ld_uint64 rfl (by repeat (first | exact List.Mem.head _ | apply List.Mem.tail)) rfl (by rfl)) rfl ?_
    refine WPQ.cons (q_int rfl rfl rfl) rfl ?_
    refine WPQ.cons (q_move rfl) rfl ?_
    apply WPQ.joinA (e' := [(0, _), (4, _)]) 29 44 15 rfl
    · intro g3_7
      try simp only [decide_eq_true_eq, decide_eq_false_iff_not, beq_iff_eq, bne_iff_ne, beq_eq_false_iff_ne, bne_eq_false_iff_eq, Bool.not_eq_true', Bool.not_eq_false', Bool.not_eq_eq_eq_not, Bool.not_true, Bool.not_false, ne_eq, Decidable.not_not, Int.not_lt, Int.not_le, gt_iff_lt, ge_iff_le] at g3_7
      refine WPQ.yes rfl rfl (q_move rfl) rfl ?_
      first | refine WPQ.yes rfl rfl (q_nilP rfl) rfl ?_ | refine WPQ.yes rfl rfl (q_nilF rfl) rfl ?_
      first | refine WPQ.yes rfl rfl (q_faK fa_elect_Node_Vote rfl) rfl ?_ | refine WPQ.yes rfl rfl (q_fa fa_elect_Node_Vote rfl) rfl ?_
      first | refine WPQ.yes rfl rfl (q_load1z ld_int rfl (by repeat (first | exact List.Mem.head _ | apply List.Mem.tail)) (by rfl)) rfl ?_ | refine WPQ.yes rfl rfl (q_load1 ld_int rfl (by repeat (first | exact List.Mem.head _ | apply List.Mem.tail)) rfl (by rfl)) rfl ?_
      refine WPQ.yes rfl rfl (q_int rfl rfl rfl) rfl ?_
      refine WPQ.yes rfl rfl (q_move rfl) rfl ?_
      apply WPQ.joinO (e' := [(0, _), (4, _), (29, _)]) 35 43 8 rfl
      · intro g3_13
        try simp only [decide_eq_true_eq, decide_eq_false_iff_not, beq_iff_eq, bne_iff_ne, beq_eq_false_iff_ne, bne_eq_false_iff_eq, Bool.not_eq_true', Bool.not_eq_false', Bool.not_eq_eq_eq_not, Bool.not_true, Bool.not_false, ne_eq, Decidable.not_not, Int.not_lt, Int.not_le, gt_iff_lt, ge_iff_le] at g3_13
        refine WPQ.no rfl rfl rfl rfl ?_
        refine WPQ.no rfl rfl rfl rfl ?_
        refine WPQ.no rfl rfl rfl rfl ?_
        refine WPQ.no rfl rfl rfl rfl ?_
        refine WPQ.no rfl rfl rfl rfl ?_
        refine WPQ.no rfl rfl rfl rfl ?_
        refine WPQ.no rfl rfl rfl rfl ?_
        first | refine WPQ.yes rfl rfl (q_pickT rfl rfl) rfl ?_ | refine WPQ.yes rfl rfl (q_pickF rfl rfl) rfl ?_
        exact WPQ.jn rfl rfl (by repeat (first | exact trivial | refine ⟨rfl, ?_⟩))
      · intro g3_13
        try simp only [decide_eq_true_eq, decide_eq_false_iff_not, beq_iff_eq, bne_iff_ne, beq_eq_false_iff_ne, bne_eq_false_iff_eq, Bool.not_eq_true', Bool.not_eq_false', Bool.not_eq_eq_eq_not, Bool.not_true, Bool.not_false, ne_eq, Decidable.not_not, Int.not_lt, Int.not_le, gt_iff_lt, ge_iff_le] at g3_13
        refine WPQ.yes rfl rfl (q_move rfl) rfl ?_
        first | refine WPQ.yes rfl rfl (q_nilP rfl) rfl ?_ | refine WPQ.yes rfl rfl (q_nilF rfl) rfl ?_
        first | refine WPQ.yes rfl rfl (q_faK fa_elect_Node_Vote rfl) rfl ?_ | refine WPQ.yes rfl rfl (q_fa fa_elect_Node_Vote rfl) rfl ?_
        first | refine WPQ.yes rfl rfl (q_load1z ld_int rfl (by repeat (first | exact List.Mem.head _ | apply List.Mem.tail)) (by rfl)) rfl ?_ | refine WPQ.yes rfl rfl (q_load1 ld_int rfl (by repeat (first | exact List.Mem.head _ | apply List.Mem.tail)) rfl (by rfl)) rfl ?_
        first | refine WPQ.yes rfl rfl (q_faK fa_api_Msg_From rfl) rfl ?_ | refine WPQ.yes rfl rfl (q_fa fa_api_Msg_From rfl) rfl ?_
        first | refine WPQ.yes rfl rfl (q_load1z ld_int rfl (by repeat (first | exact List.Mem.head _ | apply List.Mem.tail)) (by rfl)) rfl ?_ | refine WPQ.yes rfl rfl (q_load1 ld_int rfl (by repeat (first | exact List.Mem.head _ | apply List.Mem.tail)) rfl (by rfl)) rfl ?_
        refine WPQ.yes rfl rfl (q_int rfl rfl rfl) rfl ?_
        first | refine WPQ.yes rfl rfl (q_pickT rfl rfl) rfl ?_ | refine WPQ.yes rfl rfl (q_pickF rfl rfl) rfl ?_
        exact WPQ.jn rfl rfl (by repeat (first | exact trivial | refine ⟨rfl, ?_⟩))
      first | refine WPQ.cons (q_pickT rfl rfl) rfl ?_ | refine WPQ.cons (q_pickF rfl rfl) rfl ?_
      exact WPQ.jn rfl rfl (by repeat (first | exact trivial | refine ⟨rfl, ?_⟩))
    · intro g3_7
      try simp only [decide_eq_true_eq, decide_eq_false_iff_not, beq_iff_eq, bne_iff_ne, beq_eq_false_iff_ne, bne_eq_false_iff_eq, Bool.not_eq_true', Bool.not_eq_false', Bool.not_eq_eq_eq_not, Bool.not_true, Bool.not_false, ne_eq, Decidable.not_not, Int.not_lt, Int.not_le, gt_iff_lt, ge_iff_le] at g3_7
      refine WPQ.no rfl rfl rfl rfl ?_
      refine WPQ.no rfl rfl rfl rfl ?_
      refine WPQ.no rfl rfl rfl rfl ?_
      refine WPQ.no rfl rfl rfl rfl ?_
      refine WPQ.no rfl rfl rfl rfl ?_
      refine WPQ.no rfl rfl rfl rfl ?_
      refine WPQ.off rfl rfl rfl ?_
      refine WPQ.off rfl rfl rfl ?_
      refine WPQ.off rfl rfl rfl ?_
      refine WPQ.off rfl rfl rfl ?_
      refine WPQ.off rfl rfl rfl ?_
      refine WPQ.off rfl rfl rfl ?_
      refine WPQ.off rfl rfl rfl ?_
      refine WPQ.no rfl rfl rfl rfl ?_
      first | refine WPQ.cons (q_pickT rfl rfl) rfl ?_ | refine WPQ.cons (q_pickF rfl rfl) rfl ?_
      exact WPQ.jn rfl rfl (by repeat (first | exact trivial | refine ⟨rfl, ?_⟩))
    refine WPQ.cons (q_move rfl) rfl ?_
    apply WPQ.joinA (e' := [(4, _)]) 45 51 6 rfl
    · intro g3_23
      try simp only [decide_eq_true_eq, decide_eq_false_iff_not, beq_iff_eq, bne_iff_ne, beq_eq_false_iff_ne, bne_eq_false_iff_eq, Bool.not_eq_true', Bool.not_eq_false', Bool.not_eq_eq_eq_not, Bool.not_true, Bool.not_false, ne_eq, Decidable.not_not, Int.not_lt, Int.not_le, gt_iff_lt, ge_iff_le] at g3_23
      refine WPQ.yes rfl rfl (q_move rfl) rfl ?_
      first | refine WPQ.yes rfl rfl (q_nilP rfl) rfl ?_ | refine WPQ.yes rfl rfl (q_nilF rfl) rfl ?_
      first | refine WPQ.yes rfl rfl (q_faK fa_elect_Node_Role rfl) rfl ?_ | refine WPQ.yes rfl rfl (q_fa fa_elect_Node_Role rfl) rfl ?_
      first | refine WPQ.yes rfl rfl (q_load1z ld_int rfl (by repeat (first | exact List.Mem.head _ | apply List.Mem.tail)) (by rfl)) rfl ?_ | refine WPQ.yes rfl rfl (q_load1 ld_int rfl (by repeat (first | exact List.Mem.head _ | apply List.Mem.tail)) rfl (by rfl)) rfl ?_
      refine WPQ.yes rfl rfl (q_int rfl rfl rfl) rfl ?_
      first | refine WPQ.cons (q_pickT rfl rfl) rfl ?_ | refine WPQ.cons (q_pickF rfl rfl) rfl ?_
      exact WPQ.jn rfl rfl (by repeat (first | exact trivial | refine ⟨rfl, ?_⟩))
    · intro g3_23
      try simp only [decide_eq_true_eq, decide_eq_false_iff_not, beq_iff_eq, bne_iff_ne, beq_eq_false_iff_ne, bne_eq_false_iff_eq, Bool.not_eq_true', Bool.not_eq_false', Bool.not_eq_eq_eq_not, Bool.not_true, Bool.not_false, ne_eq, Decidable.not_not, Int.not_lt, Int.not_le, gt_iff_lt, ge_iff_le] at g3_23
      refine WPQ.no rfl rfl rfl rfl ?_
      refine WPQ.no rfl rfl rfl rfl ?_
      refine WPQ.no rfl rfl rfl rfl ?_
      refine WPQ.no rfl rfl rfl rfl ?_
      refine WPQ.no rfl rfl rfl rfl ?_
      first | refine WPQ.cons (q_pickT rfl rfl) rfl ?_ | refine WPQ.cons (q_pickF rfl rfl) rfl ?_
      exact WPQ.jn rfl rfl (by repeat (first | exact trivial | refine ⟨rfl, ?_⟩))
    refine WPQ.cons (q_assign rfl) rfl ?_
    refine WPQ.nil ?_
    refine WPC.ret ?_
    exact endR_r rfl (.tmp rfl .nil) (Imp.pick (by repeat (first | exact Pick.nil | apply Pick.keep (by repeat (first | exact List.Mem.head _ | apply List.Mem.tail)) (by first | exact Pers.cells _ _ _ | exact Pers.slv _ _ _) | apply Pick.cons (by repeat (first | exact Pick1.here | apply Pick1.there))))) ⟨by simp only [packV, EN.would, if_neg h0], rfl⟩

theorem c_counts {p q : Bool} {b o : Nat} {x : EN} {L : NL} (m : RM) (hc : Sok 1 L.ca L.cn L.cc (x.conf.map (.int .i64))) (hcn : L.cn < 1073741824) (hy : Sok 1 L.ya L.yn L.yc (x.yes.map (.int .i64))) (hyn : L.yn < 1073741824) (ht : 0 ≤ x.term ∧ x.term < 2305843009213693952) : Trip Try.prog 46 #[.pointer (some ⟨b, o, none⟩), .agg (encM m).toArray] [cells p b o (nodeC x L), sl false L.ca (x.conf.map (.int .i64)), sl q L.ya (x.yes.map (.int .i64))] fun r Δ => r = .bool (x.counts m) ∧ Δ = [cells p b o (nodeC x L), sl false L.ca (x.conf.map (.int .i64)), sl q L.ya (x.yes.map (.int .i64))] := by
  refine Trip.start 73 [.tmp 4] [(0, .pointer (some ⟨b, o, none⟩)), (1, .agg (encM m).toArray)] Try.func46 rfl Try.ntmps46 rfl ⟨rfl, rfl, trivial⟩ rfl ?_
  refine WPC.seqR ?_
  first | refine WPL.cons rfl (E1.wpo (e_boxN rfl) rfl ?_) | refine WPL.cons rfl (E1.wpo (e_box1 rfl rfl) rfl ?_)
  rintro _ _ ⟨b1, rfl, rfl⟩
  refine WPL.putS ?_
  refine L_s (q_assign rfl) rfl ?_
  refine WPL.nil ?_
  refine WPC.seqQ mixed (by kernel_rfl) ?_
  refine WPQ.cons (q_move rfl) rfl ?_
  first | refine WPQ.cons (q_nilP rfl) rfl ?_ | refine WPQ.cons (q_nilF rfl) rfl ?_
  first | refine WPQ.cons (q_faK fa_elect_Node_Role rfl) rfl ?_ | refine WPQ.cons (q_fa fa_elect_Node_Role rfl) rfl ?_
  first | refine WPQ.cons (q_load1z ld_int rfl (by repeat (first | exact List.Mem.head _ | apply List.Mem.tail)) (by rfl)) rfl ?_ | refine WPQ.cons (q_load1 ld_int rfl (by repeat (first | exact List.Mem.head _ | apply List.Mem.tail)) rfl (by rfl)) rfl ?_
  refine WPQ.cons (q_int rfl rfl rfl) rfl ?_
  refine WPQ.cons (q_move rfl) rfl ?_
  apply WPQ.joinA (e' := [(0, _), (3, _), (4, _)]) 12 16 4 rfl
  · intro g1_5
    try simp only [decide_eq_true_eq, decide_eq_false_iff_not, beq_iff_eq, bne_iff_ne, beq_eq_false_iff_ne, bne_eq_false_iff_eq, Bool.not_eq_true', Bool.not_eq_false', Bool.not_eq_eq_eq_not, Bool.not_true, Bool.not_false, ne_eq, Decidable.not_not, Int.not_lt, Int.not_le, gt_iff_lt, ge_iff_le] at g1_5
    first | refine WPQ.yes rfl rfl (q_faK fa_api_Msg_Kind rfl) rfl ?_ | refine WPQ.yes rfl rfl (q_fa fa_api_Msg_Kind rfl) rfl ?_
    first | refine WPQ.yes rfl rfl (q_load1z ld_int rfl (by repeat (first | exact List.Mem.head _ | apply List.Mem.tail)) (by rfl)) rfl ?_ | refine WPQ.yes rfl rfl (q_load1 ld_int rfl (by repeat (first | exact List.Mem.head _ | apply List.Mem.tail)) rfl (by rfl)) rfl ?_
    refine WPQ.yes rfl rfl (q_int rfl rfl rfl) rfl ?_
    first | refine WPQ.cons (q_pickT rfl rfl) rfl ?_ | refine WPQ.cons (q_pickF rfl rfl) rfl ?_
    exact WPQ.jn rfl rfl (by repeat (first | exact trivial | refine ⟨rfl, ?_⟩))
  · intro g1_5
    try simp only [decide_eq_true_eq, decide_eq_false_iff_not, beq_iff_eq, bne_iff_ne, beq_eq_false_iff_ne, bne_eq_false_iff_eq, Bool.not_eq_true', Bool.not_eq_false', Bool.not_eq_eq_eq_not, Bool.not_true, Bool.not_false, ne_eq, Decidable.not_not, Int.not_lt, Int.not_le, gt_iff_lt, ge_iff_le] at g1_5
    refine WPQ.no rfl rfl rfl rfl ?_
    refine WPQ.no rfl rfl rfl rfl ?_
    refine WPQ.no rfl rfl rfl rfl ?_
    first | refine WPQ.cons (q_pickT rfl rfl) rfl ?_ | refine WPQ.cons (q_pickF rfl rfl) rfl ?_
    exact WPQ.jn rfl rfl (by repeat (first | exact trivial | refine ⟨rfl, ?_⟩))
  refine WPQ.cons (q_move rfl) rfl ?_
  apply WPQ.joinA (e' := [(0, _), (3, _), (4, _)]) 17 25 8 rfl
  · intro g1_10
    try simp only [decide_eq_true_eq, decide_eq_false_iff_not, beq_iff_eq, bne_iff_ne, beq_eq_false_iff_ne, bne_eq_false_iff_eq, Bool.not_eq_true', Bool.not_eq_false', Bool.not_eq_eq_eq_not, Bool.not_true, Bool.not_false, ne_eq, Decidable.not_not, Int.not_lt, Int.not_le, gt_iff_lt, ge_iff_le] at g1_10
    first | refine WPQ.yes rfl rfl (q_faK fa_api_Msg_Term rfl) rfl ?_ | refine WPQ.yes rfl rfl (q_fa fa_api_Msg_Term rfl) rfl ?_
    first | refine WPQ.yes rfl rfl (q_load1z ld_uint64 rfl (by repeat (first | exact List.Mem.head _ | apply List.Mem.tail)) (by rfl)) rfl ?_ | refine WPQ.yes rfl rfl (q_load1 ld_uint64 rfl (by repeat (first | exact List.Mem.head _ | apply List.Mem.tail)) rfl (by rfl)) rfl ?_
    refine WPQ.yes rfl rfl (q_move rfl) rfl ?_
    first | refine WPQ.yes rfl rfl (q_nilP rfl) rfl ?_ | refine WPQ.yes rfl rfl (q_nilF rfl) rfl ?_
    first | refine WPQ.yes rfl rfl (q_faK fa_elect_Node_Term rfl) rfl ?_ | refine WPQ.yes rfl rfl (q_fa fa_elect_Node_Term rfl) rfl ?_
    first | refine WPQ.yes rfl rfl (q_load1z ld_uint64 rfl (by repeat (first | exact List.Mem.head _ | apply List.Mem.tail)) (by rfl)) rfl ?_ | refine WPQ.yes rfl rfl (q_load1 ld_uint64 rfl (by repeat (first | exact List.Mem.head _ | apply List.Mem.tail)) rfl (by rfl)) rfl ?_
    refine WPQ.yes rfl rfl (q_int rfl rfl rfl) rfl ?_
    first | refine WPQ.cons (q_pickT rfl rfl) rfl ?_ | refine WPQ.cons (q_pickF rfl rfl) rfl ?_
    exact WPQ.jn rfl rfl (by repeat (first | exact trivial | refine ⟨rfl, ?_⟩))
  · intro g1_10
    try simp only [decide_eq_true_eq, decide_eq_false_iff_not, beq_iff_eq, bne_iff_ne, beq_eq_false_iff_ne, bne_eq_false_iff_eq, Bool.not_eq_true', Bool.not_eq_false', Bool.not_eq_eq_eq_not, Bool.not_true, Bool.not_false, ne_eq, Decidable.not_not, Int.not_lt, Int.not_le, gt_iff_lt, ge_iff_le] at g1_10
    refine WPQ.no rfl rfl rfl rfl ?_
    refine WPQ.no rfl rfl rfl rfl ?_
    refine WPQ.no rfl rfl rfl rfl ?_
    refine WPQ.no rfl rfl rfl rfl ?_
    refine WPQ.no rfl rfl rfl rfl ?_
    refine WPQ.no rfl rfl rfl rfl ?_
    refine WPQ.no rfl rfl rfl rfl ?_
    first | refine WPQ.cons (q_pickT rfl rfl) rfl ?_ | refine WPQ.cons (q_pickF rfl rfl) rfl ?_
    exact WPQ.jn rfl rfl (by repeat (first | exact trivial | refine ⟨rfl, ?_⟩))
  refine WPQ.cons (q_assign rfl) rfl ?_
  refine WPQ.nil ?_
  refine WPC.seqQ mixed (by kernel_rfl) ?_
  refine WPQ.cons (q_move rfl) rfl ?_
  first | refine WPQ.cons (q_nilP rfl) rfl ?_ | refine WPQ.cons (q_nilF rfl) rfl ?_
  first | refine WPQ.cons (q_faK fa_elect_Node_Role rfl) rfl ?_ | refine WPQ.cons (q_fa fa_elect_Node_Role rfl) rfl ?_
  first | refine WPQ.cons (q_load1z ld_int rfl (by repeat (first | exact List.Mem.head _ | apply List.Mem.tail)) (by rfl)) rfl ?_ | refine WPQ.cons (q_load1 ld_int rfl (by repeat (first | exact List.Mem.head _ | apply List.Mem.tail)) rfl (by rfl)) rfl ?_
  refine WPQ.cons (q_int rfl rfl rfl) rfl ?_
  refine WPQ.cons (q_move rfl) rfl ?_
  apply WPQ.joinA (e' := [(0, _), (3, _), (4, _), (5, _)]) 31 35 4 rfl
  · intro g2_5
    try simp only [decide_eq_true_eq, decide_eq_false_iff_not, beq_iff_eq, bne_iff_ne, beq_eq_false_iff_ne, bne_eq_false_iff_eq, Bool.not_eq_true', Bool.not_eq_false', Bool.not_eq_eq_eq_not, Bool.not_true, Bool.not_false, ne_eq, Decidable.not_not, Int.not_lt, Int.not_le, gt_iff_lt, ge_iff_le] at g2_5
    first | refine WPQ.yes rfl rfl (q_faK fa_api_Msg_Kind rfl) rfl ?_ | refine WPQ.yes rfl rfl (q_fa fa_api_Msg_Kind rfl) rfl ?_
    first | refine WPQ.yes rfl rfl (q_load1z ld_int rfl (by repeat (first | exact List.Mem.head _ | apply List.Mem.tail)) (by rfl)) rfl ?_ | refine WPQ.yes rfl rfl (q_load1 ld_int rfl (by repeat (first | exact List.Mem.head _ | apply List.Mem.tail)) rfl (by rfl)) rfl ?_
    refine WPQ.yes rfl rfl (q_int rfl rfl rfl) rfl ?_
    first | refine WPQ.cons (q_pickT rfl rfl) rfl ?_ | refine WPQ.cons (q_pickF rfl rfl) rfl ?_
    exact WPQ.jn rfl rfl (by repeat (first | exact trivial | refine ⟨rfl, ?_⟩))
  · intro g2_5
    try simp only [decide_eq_true_eq, decide_eq_false_iff_not, beq_iff_eq, bne_iff_ne, beq_eq_false_iff_ne, bne_eq_false_iff_eq, Bool.not_eq_true', Bool.not_eq_false', Bool.not_eq_eq_eq_not, Bool.not_true, Bool.not_false, ne_eq, Decidable.not_not, Int.not_lt, Int.not_le, gt_iff_lt, ge_iff_le] at g2_5
    refine WPQ.no rfl rfl rfl rfl ?_
    refine WPQ.no rfl rfl rfl rfl ?_
    refine WPQ.no rfl rfl rfl rfl ?_
    first | refine WPQ.cons (q_pickT rfl rfl) rfl ?_ | refine WPQ.cons (q_pickF rfl rfl) rfl ?_
    exact WPQ.jn rfl rfl (by repeat (first | exact trivial | refine ⟨rfl, ?_⟩))
  refine WPQ.cons (q_move rfl) rfl ?_
  apply WPQ.joinA (e' := [(0, _), (3, _), (4, _), (5, _)]) 36 45 9 rfl
  · intro g2_10
    try simp only [decide_eq_true_eq, decide_eq_false_iff_not, beq_iff_eq, bne_iff_ne, beq_eq_false_iff_ne, bne_eq_false_iff_eq, Bool.not_eq_true', Bool.not_eq_false', Bool.not_eq_eq_eq_not, Bool.not_true, Bool.not_false, ne_eq, Decidable.not_not, Int.not_lt, Int.not_le, gt_iff_lt, ge_iff_le] at g2_10
    first | refine WPQ.yes rfl rfl (q_faK fa_api_Msg_Term rfl) rfl ?_ | refine WPQ.yes rfl rfl (q_fa fa_api_Msg_Term rfl) rfl ?_
    first | refine WPQ.yes rfl rfl (q_load1z ld_uint64 rfl (by repeat (first | exact List.Mem.head _ | apply List.Mem.tail)) (by rfl)) rfl ?_ | refine WPQ.yes rfl rfl (q_load1 ld_uint64 rfl (by repeat (first | exact List.Mem.head _ | apply List.Mem.tail)) rfl (by rfl)) rfl ?_
    refine WPQ.yes rfl rfl (q_move rfl) rfl ?_
    first | refine WPQ.yes rfl rfl (q_nilP rfl) rfl ?_ | refine WPQ.yes rfl rfl (q_nilF rfl) rfl ?_
    first | refine WPQ.yes rfl rfl (q_faK fa_elect_Node_Term rfl) rfl ?_ | refine WPQ.yes rfl rfl (q_fa fa_elect_Node_Term rfl) rfl ?_
    first | refine WPQ.yes rfl rfl (q_load1z ld_uint64 rfl (by repeat (first | exact List.Mem.head _ | apply List.Mem.tail)) (by rfl)) rfl ?_ | refine WPQ.yes rfl rfl (q_load1 ld_uint64 rfl (by repeat (first | exact List.Mem.head _ | apply List.Mem.tail)) rfl (by rfl)) rfl ?_
    first | refine WPQ.yes rfl rfl (q_addU rfl rfl (by omega)) rfl ?_ | refine WPQ.yes rfl rfl (q_int rfl rfl rfl) rfl ?_
    refine WPQ.yes rfl rfl (q_int rfl rfl rfl) rfl ?_
    first | refine WPQ.cons (q_pickT rfl rfl) rfl ?_ | refine WPQ.cons (q_pickF rfl rfl) rfl ?_
    exact WPQ.jn rfl rfl (by repeat (first | exact trivial | refine ⟨rfl, ?_⟩))
  · intro g2_10
    try simp only [decide_eq_true_eq, decide_eq_false_iff_not, beq_iff_eq, bne_iff_ne, beq_eq_false_iff_ne, bne_eq_false_iff_eq, Bool.not_eq_true', Bool.not_eq_false', Bool.not_eq_eq_eq_not, Bool.not_true, Bool.not_false, ne_eq, Decidable.not_not, Int.not_lt, Int.not_le, gt_iff_lt, ge_iff_le] at g2_10
    refine WPQ.no rfl rfl rfl rfl ?_
    refine WPQ.no rfl rfl rfl rfl ?_
    refine WPQ.no rfl rfl rfl rfl ?_
    refine WPQ.no rfl rfl rfl rfl ?_
    refine WPQ.no rfl rfl rfl rfl ?_
    refine WPQ.no rfl rfl rfl rfl ?_
    refine WPQ.no rfl rfl rfl rfl ?_
    refine WPQ.no rfl rfl rfl rfl ?_
    first | refine WPQ.cons (q_pickT rfl rfl) rfl ?_ | refine WPQ.cons (q_pickF rfl rfl) rfl ?_
    exact WPQ.jn rfl rfl (by repeat (first | exact trivial | refine ⟨rfl, ?_⟩))
  refine WPQ.cons (q_assign rfl) rfl ?_
  refine WPQ.nil ?_
  refine WPC.seqQ mixed (by kernel_rfl) ?_
  first | refine WPQ.cons (q_faK fa_api_Msg_OK rfl) rfl ?_ | refine WPQ.cons (q_fa fa_api_Msg_OK rfl) rfl ?_
  first | refine WPQ.cons (q_load1z ld_bool rfl (by repeat (first | exact List.Mem.head _ | apply List.Mem.tail)) (by rfl)) rfl ?_ | refine WPQ.cons (q_load1 ld_bool rfl (by repeat (first | exact List.Mem.head _ | apply List.Mem.tail)) rfl (by rfl)) rfl ?_
  refine WPQ.cons (q_move rfl) rfl ?_
  apply WPQ.joinA (e' := [(0, _), (3, _), (4, _)]) 48 53 5 rfl
  · intro g3_2
    try simp only [decide_eq_true_eq, decide_eq_false_iff_not, beq_iff_eq, bne_iff_ne, beq_eq_false_iff_ne, bne_eq_false_iff_eq, Bool.not_eq_true', Bool.not_eq_false', Bool.not_eq_eq_eq_not, Bool.not_true, Bool.not_false, ne_eq, Decidable.not_not, Int.not_lt, Int.not_le, gt_iff_lt, ge_iff_le] at g3_2
    refine WPQ.yes rfl rfl (q_move rfl) rfl ?_
    refine WPQ.yes rfl rfl (q_move rfl) rfl ?_
    apply WPQ.joinO (e' := [(0, _), (3, _), (4, _), (48, _)]) 50 52 2 rfl
    · intro g3_4
      try simp only [decide_eq_true_eq, decide_eq_false_iff_not, beq_iff_eq, bne_iff_ne, beq_eq_false_iff_ne, bne_eq_false_iff_eq, Bool.not_eq_true', Bool.not_eq_false', Bool.not_eq_eq_eq_not, Bool.not_true, Bool.not_false, ne_eq, Decidable.not_not, Int.not_lt, Int.not_le, gt_iff_lt, ge_iff_le] at g3_4
      refine WPQ.no rfl rfl rfl rfl ?_
      first | refine WPQ.yes rfl rfl (q_pickT rfl rfl) rfl ?_ | refine WPQ.yes rfl rfl (q_pickF rfl rfl) rfl ?_
      exact WPQ.jn rfl rfl (by repeat (first | exact trivial | refine ⟨rfl, ?_⟩))
    · intro g3_4
      try simp only [decide_eq_true_eq, decide_eq_false_iff_not, beq_iff_eq, bne_iff_ne, beq_eq_false_iff_ne, bne_eq_false_iff_eq, Bool.not_eq_true', Bool.not_eq_false', Bool.not_eq_eq_eq_not, Bool.not_true, Bool.not_false, ne_eq, Decidable.not_not, Int.not_lt, Int.not_le, gt_iff_lt, ge_iff_le] at g3_4
      refine WPQ.yes rfl rfl (q_move rfl) rfl ?_
      first | refine WPQ.yes rfl rfl (q_pickT rfl rfl) rfl ?_ | refine WPQ.yes rfl rfl (q_pickF rfl rfl) rfl ?_
      exact WPQ.jn rfl rfl (by repeat (first | exact trivial | refine ⟨rfl, ?_⟩))
    first | refine WPQ.cons (q_pickT rfl rfl) rfl ?_ | refine WPQ.cons (q_pickF rfl rfl) rfl ?_
    exact WPQ.jn rfl rfl (by repeat (first | exact trivial | refine ⟨rfl, ?_⟩))
  · intro g3_2
    try simp only [decide_eq_true_eq, decide_eq_false_iff_not, beq_iff_eq, bne_iff_ne, beq_eq_false_iff_ne, bne_eq_false_iff_eq, Bool.not_eq_true', Bool.not_eq_false', Bool.not_eq_eq_eq_not, Bool.not_true, Bool.not_false, ne_eq, Decidable.not_not, Int.not_lt, Int.not_le, gt_iff_lt, ge_iff_le] at g3_2
    refine WPQ.no rfl rfl rfl rfl ?_
    refine WPQ.no rfl rfl rfl rfl ?_
    refine WPQ.off rfl rfl rfl ?_
    refine WPQ.no rfl rfl rfl rfl ?_
    first | refine WPQ.cons (q_pickT rfl rfl) rfl ?_ | refine WPQ.cons (q_pickF rfl rfl) rfl ?_
    exact WPQ.jn rfl rfl (by repeat (first | exact trivial | refine ⟨rfl, ?_⟩))
  refine WPQ.cons (q_move rfl) rfl ?_
  apply WPQ.joinA (e' := [(0, _), (3, _), (4, _)]) 54 62 8 rfl
  · intro g3_8
    try simp only [decide_eq_true_eq, decide_eq_false_iff_not, beq_iff_eq, bne_iff_ne, beq_eq_false_iff_ne, bne_eq_false_iff_eq, Bool.not_eq_true', Bool.not_eq_false', Bool.not_eq_eq_eq_not, Bool.not_true, Bool.not_false, ne_eq, Decidable.not_not, Int.not_lt, Int.not_le, gt_iff_lt, ge_iff_le] at g3_8
    refine WPQ.yes rfl rfl (q_move rfl) rfl ?_
    first | refine WPQ.yes rfl rfl (q_nilP rfl) rfl ?_ | refine WPQ.yes rfl rfl (q_nilF rfl) rfl ?_
    first | refine WPQ.yes rfl rfl (q_faK fa_elect_Node_Conf rfl) rfl ?_ | refine WPQ.yes rfl rfl (q_fa fa_elect_Node_Conf rfl) rfl ?_
    first | refine WPQ.yes rfl rfl (q_load1z ld_sl_int rfl (by repeat (first | exact List.Mem.head _ | apply List.Mem.tail)) (by rfl)) rfl ?_ | refine WPQ.yes rfl rfl (q_load1 ld_sl_int rfl (by repeat (first | exact List.Mem.head _ | apply List.Mem.tail)) rfl (by rfl)) rfl ?_
    first | refine WPQ.yes rfl rfl (q_faK fa_api_Msg_From rfl) rfl ?_ | refine WPQ.yes rfl rfl (q_fa fa_api_Msg_From rfl) rfl ?_
    first | refine WPQ.yes rfl rfl (q_load1z ld_int rfl (by repeat (first | exact List.Mem.head _ | apply List.Mem.tail)) (by rfl)) rfl ?_ | refine WPQ.yes rfl rfl (q_load1 ld_int rfl (by repeat (first | exact List.Mem.head _ | apply List.Mem.tail)) rfl (by rfl)) rfl ?_
    refine WPQ.callYes rfl rfl (c_call Try.func28 rfl rfl rfl) (c_Contains hc hcn m.fr) (by repeat (first | exact Pick.nil | apply Pick.keep (by repeat (first | exact List.Mem.head _ | apply List.Mem.tail)) (by first | exact Pers.cells _ _ _ | exact Pers.slv _ _ _) | apply Pick.cons (by repeat (first | exact Pick1.here | apply Pick1.there)))) rfl ?_
    first | refine WPQ.cons (q_pickT rfl rfl) rfl ?_ | refine WPQ.cons (q_pickF rfl rfl) rfl ?_
    exact WPQ.jn rfl rfl (by repeat (first | exact trivial | refine ⟨rfl, ?_⟩))
  · intro g3_8
    try simp only [decide_eq_true_eq, decide_eq_false_iff_not, beq_iff_eq, bne_iff_ne, beq_eq_false_iff_ne, bne_eq_false_iff_eq, Bool.not_eq_true', Bool.not_eq_false', Bool.not_eq_eq_eq_not, Bool.not_true, Bool.not_false, ne_eq, Decidable.not_not, Int.not_lt, Int.not_le, gt_iff_lt, ge_iff_le] at g3_8
    refine WPQ.no rfl rfl rfl rfl ?_
    refine WPQ.no rfl rfl rfl rfl ?_
    refine WPQ.no rfl rfl rfl rfl ?_
    refine WPQ.no rfl rfl rfl rfl ?_
    refine WPQ.no rfl rfl rfl rfl ?_
    refine WPQ.no rfl rfl rfl rfl ?_
    refine WPQ.no rfl rfl rfl rfl ?_
    first | refine WPQ.cons (q_pickT rfl rfl) rfl ?_ | refine WPQ.cons (q_pickF rfl rfl) rfl ?_
    exact WPQ.jn rfl rfl (by repeat (first | exact trivial | refine ⟨rfl, ?_⟩))
  refine WPQ.cons (q_move rfl) rfl ?_
  apply WPQ.joinA (e' := [(4, _)]) 63 72 9 rfl
  · intro g3_17
    try simp only [decide_eq_true_eq, decide_eq_false_iff_not, beq_iff_eq, bne_iff_ne, beq_eq_false_iff_ne, bne_eq_false_iff_eq, Bool.not_eq_true', Bool.not_eq_false', Bool.not_eq_eq_eq_not, Bool.not_true, Bool.not_false, ne_eq, Decidable.not_not, Int.not_lt, Int.not_le, gt_iff_lt, ge_iff_le] at g3_17
    refine WPQ.yes rfl rfl (q_move rfl) rfl ?_
    first | refine WPQ.yes rfl rfl (q_nilP rfl) rfl ?_ | refine WPQ.yes rfl rfl (q_nilF rfl) rfl ?_
    first | refine WPQ.yes rfl rfl (q_faK fa_elect_Node_Yes rfl) rfl ?_ | refine WPQ.yes rfl rfl (q_fa fa_elect_Node_Yes rfl) rfl ?_
    first | refine WPQ.yes rfl rfl (q_load1z ld_sl_int rfl (by repeat (first | exact List.Mem.head _ | apply List.Mem.tail)) (by rfl)) rfl ?_ | refine WPQ.yes rfl rfl (q_load1 ld_sl_int rfl (by repeat (first | exact List.Mem.head _ | apply List.Mem.tail)) rfl (by rfl)) rfl ?_
    first | refine WPQ.yes rfl rfl (q_faK fa_api_Msg_From rfl) rfl ?_ | refine WPQ.yes rfl rfl (q_fa fa_api_Msg_From rfl) rfl ?_
    first | refine WPQ.yes rfl rfl (q_load1z ld_int rfl (by repeat (first | exact List.Mem.head _ | apply List.Mem.tail)) (by rfl)) rfl ?_ | refine WPQ.yes rfl rfl (q_load1 ld_int rfl (by repeat (first | exact List.Mem.head _ | apply List.Mem.tail)) rfl (by rfl)) rfl ?_
    refine WPQ.callYes rfl rfl (c_call Try.func28 rfl rfl rfl) (c_Contains hy hyn m.fr) (by repeat (first | exact Pick.nil | apply Pick.keep (by repeat (first | exact List.Mem.head _ | apply List.Mem.tail)) (by first | exact Pers.cells _ _ _ | exact Pers.slv _ _ _) | apply Pick.cons (by repeat (first | exact Pick1.here | apply Pick1.there)))) rfl ?_
    refine WPQ.yes rfl rfl (q_not rfl) rfl ?_
    first | refine WPQ.cons (q_pickT rfl rfl) rfl ?_ | refine WPQ.cons (q_pickF rfl rfl) rfl ?_
    exact WPQ.jn rfl rfl (by repeat (first | exact trivial | refine ⟨rfl, ?_⟩))
  · intro g3_17
    try simp only [decide_eq_true_eq, decide_eq_false_iff_not, beq_iff_eq, bne_iff_ne, beq_eq_false_iff_ne, bne_eq_false_iff_eq, Bool.not_eq_true', Bool.not_eq_false', Bool.not_eq_eq_eq_not, Bool.not_true, Bool.not_false, ne_eq, Decidable.not_not, Int.not_lt, Int.not_le, gt_iff_lt, ge_iff_le] at g3_17
    refine WPQ.no rfl rfl rfl rfl ?_
    refine WPQ.no rfl rfl rfl rfl ?_
    refine WPQ.no rfl rfl rfl rfl ?_
    refine WPQ.no rfl rfl rfl rfl ?_
    refine WPQ.no rfl rfl rfl rfl ?_
    refine WPQ.no rfl rfl rfl rfl ?_
    refine WPQ.no rfl rfl rfl rfl ?_
    refine WPQ.no rfl rfl rfl rfl ?_
    first | refine WPQ.cons (q_pickT rfl rfl) rfl ?_ | refine WPQ.cons (q_pickF rfl rfl) rfl ?_
    exact WPQ.jn rfl rfl (by repeat (first | exact trivial | refine ⟨rfl, ?_⟩))
  refine WPQ.cons (q_assign rfl) rfl ?_
  refine WPQ.nil ?_
  refine WPC.ret ?_
  exact endR_r rfl (.tmp rfl .nil) (Imp.pick (by repeat (first | exact Pick.nil | apply Pick.keep (by repeat (first | exact List.Mem.head _ | apply List.Mem.tail)) (by first | exact Pers.cells _ _ _ | exact Pers.slv _ _ _) | apply Pick.cons (by repeat (first | exact Pick1.here | apply Pick1.there))))) ⟨rfl, rfl⟩

theorem c_OnAsk {b o : Nat} {x : EN} {m : RM} (hx : x.fits) (hmk : 0 ≤ m.kind ∧ m.kind ≤ 12) (hmt : 0 ≤ m.term ∧ m.term < 1152921504606846976) : Trip Try.prog 19 #[.pointer (some ⟨b, o, none⟩), .agg (encM m).toArray] [enode b o x] fun r Δ => ∃ (a : Option Addr) (c : Nat), r = .slice a (x.onAsk m).2.length c ∧ Δ = [enode b o (x.onAsk m).1, buf 10 a (x.onAsk m).2.length c ((x.onAsk m).2.flatMap encM)] := by
  obtain ⟨hme, hterm, hbase, hes, hys⟩ := id hx
  obtain ⟨y, hy⟩ : ∃ y, y = if m.kind = 1 ∧ x.term < m.term then x.follow m.term (-1) else x := ⟨_, rfl⟩
  have hyf : y.fits := by
    rw [hy]
    split
    · exact ⟨hme, by show 0 ≤ (if x.term < m.term then m.term else x.term) ∧ (if x.term < m.term then m.term else x.term) < _; split <;> omega, hbase, hes, by simp [EN.follow]⟩
    · exact hx
  have hyb : 0 ≤ y.base ∧ y.base ≤ 4611686018427387904 := by have := hyf.base; omega
  have hymv : y.me = x.me := by rw [hy]; split <;> rfl
  have hres : x.onAsk m = if m.kind = 1 ∨ m.kind = 3 then (if y.newer m && y.would m then (if m.kind = 3 then (y, [⟨m.kind + 1, x.me, m.fr, m.term, 0, 0, 0, true, none, 0, 0, none, 0, 0⟩]) else ({ y with vote := m.fr }, [⟨m.kind + 1, x.me, m.fr, y.term, 0, 0, 0, true, none, 0, 0, none, 0, 0⟩])) else (y, [⟨m.kind + 1, x.me, m.fr, y.term, 0, 0, 0, false, none, 0, 0, none, 0, 0⟩])) else (x, []) := by
    unfold EN.onAsk
    by_cases h1 : m.kind = 1
    · by_cases h2 : x.term < m.term <;> simp [h1, h2] at hy <;> subst hy <;> simp [h1, h2] <;> split <;> simp_all [EN.follow]
    · by_cases h3 : m.kind = 3
      · simp [h1] at hy; subst hy; simp [h3]; split <;> simp_all
      · simp [h1, h3]
  refine enode_open fun L hL => ?_
  refine Trip.start 75 [.tmp 4] [(0, .pointer (some ⟨b, o, none⟩)), (1, .agg (encM m).toArray)] Try.func19 rfl Try.ntmps19 rfl ⟨rfl, rfl, trivial⟩ rfl ?_
  refine WPC.seqR ?_
  first | refine WPL.cons rfl (E1.wpo (e_boxN rfl) rfl ?_) | refine WPL.cons rfl (E1.wpo (e_box1 rfl rfl) rfl ?_)
  rintro _ _ ⟨b1, rfl, rfl⟩
  refine WPL.putS ?_
  refine L_s (q_assign rfl) rfl ?_
  refine WPL.nil ?_
  refine WPC.seqD mixed ?_
  refine WPA.takeP 0 rfl (q_move rfl) (by kernel_rfl) (by kernel_rfl) (by kernel_rfl) rfl rfl (.nil _) ?_
  refine WPA.putS ?_
  first | refine WPA.takeP 1 rfl (q_nilP rfl) (by kernel_rfl) (by kernel_rfl) (by kernel_rfl) rfl rfl (.nil _) ?_ | refine WPA.takeP 1 rfl (q_nilF rfl) (by kernel_rfl) (by kernel_rfl) (by kernel_rfl) rfl rfl (.nil _) ?_
  refine WPA.putS ?_
  first | refine WPA.takeP 2 rfl (q_faK fa_elect_Node_Me rfl) (by kernel_rfl) (by kernel_rfl) (by kernel_rfl) rfl rfl (.nil _) ?_ | refine WPA.takeP 2 rfl (q_fa fa_elect_Node_Me rfl) (by kernel_rfl) (by kernel_rfl) (by kernel_rfl) rfl rfl (.nil _) ?_
  refine WPA.putS ?_
  first | refine WPA.takeL 3 rfl (Ent.mem (by repeat (first | exact List.Mem.head _ | apply List.Mem.tail))) (q_load1z ld_int rfl (.head _) (by rfl)) (by kernel_rfl) (by kernel_rfl) (by kernel_rfl) rfl rfl (.nil _) ?_ | refine WPA.takeL 3 rfl (Ent.mem (by repeat (first | exact List.Mem.head _ | apply List.Mem.tail))) (q_load1 ld_int rfl (.head _) rfl (by rfl)) (by kernel_rfl) (by kernel_rfl) (by kernel_rfl) rfl rfl (.nil _) ?_
  refine WPA.putS ?_
  first | refine WPA.takeP 4 rfl (q_faK fa_api_Msg_From rfl) (by kernel_rfl) (by kernel_rfl) (by kernel_rfl) rfl rfl (.cons (Ent.mem (by repeat (first | exact List.Mem.head _ | apply List.Mem.tail))) (.nil _)) ?_ | refine WPA.takeP 4 rfl (q_fa fa_api_Msg_From rfl) (by kernel_rfl) (by kernel_rfl) (by kernel_rfl) rfl rfl (.cons (Ent.mem (by repeat (first | exact List.Mem.head _ | apply List.Mem.tail))) (.nil _)) ?_
  refine WPA.putS ?_
  first | refine WPA.takeL 5 rfl (Ent.mem (by repeat (first | exact List.Mem.head _ | apply List.Mem.tail))) (q_load1z ld_int rfl (.head _) (by rfl)) (by kernel_rfl) (by kernel_rfl) (by kernel_rfl) rfl rfl (.cons (Ent.mem (by repeat (first | exact List.Mem.head _ | apply List.Mem.tail))) (.nil _)) ?_ | refine WPA.takeL 5 rfl (Ent.mem (by repeat (first | exact List.Mem.head _ | apply List.Mem.tail))) (q_load1 ld_int rfl (.head _) rfl (by rfl)) (by kernel_rfl) (by kernel_rfl) (by kernel_rfl) rfl rfl (.cons (Ent.mem (by repeat (first | exact List.Mem.head _ | apply List.Mem.tail))) (.nil _)) ?_
  refine WPA.putS ?_
  refine WPA.takeP 6 rfl (q_build (cs := [_, _, _, _, _, _, _, _, _, _]) pl_api_Msg rfl rfl) (by kernel_rfl) (by kernel_rfl) (by kernel_rfl) rfl rfl (.cons (Ent.mem (by repeat (first | exact List.Mem.head _ | apply List.Mem.tail))) (.cons (Ent.mem (by repeat (first | exact List.Mem.head _ | apply List.Mem.tail))) (.nil _))) ?_
  refine WPA.putS ?_
  refine WPA.oneE 7 [(5, [_]), (3, [_])] (by kernel_rfl) rfl rfl (by repeat (first | exact .nil | refine .anc rfl ?_ | refine .keep (by repeat (first | exact List.Mem.head _ | apply List.Mem.tail)) ?_)) (E1.wpo (e_allocL zl_api_Msg) rfl ?_)
  rintro _ _ ⟨bm, rfl, rfl⟩
  refine ⟨(.cons (Ent.mem (by repeat (first | exact List.Mem.head _ | apply List.Mem.tail))) (.cons (Ent.mem (by repeat (first | exact List.Mem.head _ | apply List.Mem.tail))) (.nil _))), ?_⟩
  refine WPA.putS ?_
  refine WPA.oneE 8 [] (by kernel_rfl) rfl rfl (by repeat (first | exact .nil | refine .anc rfl ?_ | refine .keep (by repeat (first | exact List.Mem.head _ | apply List.Mem.tail)) ?_)) (S1.wpo (s_storeNz sz_api_Msg rfl rfl (by simp [Value.oneCell']) rfl (by repeat (first | exact Upd.here | apply Upd.there)) (by repeat constructor)) rfl ?_)
  refine ⟨(.nil _), ?_⟩
  refine WPA.putN ?_
  refine WPA.done (by kernel_rfl) ?_
  refine WPC.seq ?_
  refine WPC.seqR ?_
  first | refine L_s (q_faK fa_api_Msg_Kind rfl) rfl ?_ | refine L_s (q_fa fa_api_Msg_Kind rfl) rfl ?_
  first | refine L_s (q_load1z ld_int rfl (by repeat (first | exact List.Mem.head _ | apply List.Mem.tail)) (by rfl)) rfl ?_ | refine L_s (q_load1 ld_int rfl (by repeat (first | exact List.Mem.head _ | apply List.Mem.tail)) rfl (by rfl)) rfl ?_
  refine WPL.nil ?_
  refine WPC.block ?_
  refine WPC.seq ?_
  refine WPC.block ?_
  refine WPC.seqCutS (fun e Γ => ∃ L : NL, NOk y L ∧ (m.kind = 1 ∨ m.kind = 3) ∧ e = [(0, .pointer (some ⟨b, o, none⟩)), (3, .pointer (some ⟨b1, 0, none⟩)), (5, .pointer (some ⟨bm, 0, none⟩))] ∧ Γ = [cells true b1 0 (encM m), cells true bm 0 (encM ⟨0, x.me, m.fr, 0, 0, 0, 0, false, none, 0, 0, none, 0, 0⟩), cells true b o (nodeC y L), sl false (L).ca ((y).conf.map (.int .i64)), buf 1 (L).ya (L).yn (L).yc ((y).yes.map (.int .i64)), sl false (L).ea ((y).es.flatMap encE), cells true (L).na 0 ((y).next.map (.int .u64)), cells true (L).ma 0 ((y).mtch.map (.int .u64))]) ?_ ?_
  · refine WPC.block ?_
    refine WPC.seq ?_
    refine WPC.block ?_
    refine WPC.seq ?_
    refine WPC.seq ?_
    refine WPC.seqR ?_
    refine L_s (q_int rfl rfl rfl) rfl ?_
    refine L_s (q_assign rfl) rfl ?_
    refine WPL.nil ?_
    refine WPC.cond rfl (fun h0 => ?_) (fun h0 => ?_)
    · try simp only [decide_eq_true_eq, decide_eq_false_iff_not, beq_iff_eq, bne_iff_ne, beq_eq_false_iff_ne, bne_eq_false_iff_eq, Bool.not_eq_true', Bool.not_eq_false', Bool.not_eq_eq_eq_not, Bool.not_true, Bool.not_false, ne_eq, Decidable.not_not, Int.not_lt, Int.not_le, gt_iff_lt, ge_iff_le] at h0
      refine WPC.exit ?_
      refine thenQ_e ?_
      refine thenQ_e ?_
      refine blockQ_here ?_
      refine thenQ_n ?_
      refine WPC.seqQ mixed (by kernel_rfl) ?_
      first | refine WPQ.cons (q_faK fa_api_Msg_Term rfl) rfl ?_ | refine WPQ.cons (q_fa fa_api_Msg_Term rfl) rfl ?_
      first | refine WPQ.cons (q_load1z ld_uint64 rfl (by repeat (first | exact List.Mem.head _ | apply List.Mem.tail)) (by rfl)) rfl ?_ | refine WPQ.cons (q_load1 ld_uint64 rfl (by repeat (first | exact List.Mem.head _ | apply List.Mem.tail)) rfl (by rfl)) rfl ?_
      refine WPQ.cons (q_move rfl) rfl ?_
      first | refine WPQ.cons (q_nilP rfl) rfl ?_ | refine WPQ.cons (q_nilF rfl) rfl ?_
      first | refine WPQ.cons (q_faK fa_elect_Node_Term rfl) rfl ?_ | refine WPQ.cons (q_fa fa_elect_Node_Term rfl) rfl ?_
      first | refine WPQ.cons (q_load1z ld_uint64 rfl (by repeat (first | exact List.Mem.head _ | apply List.Mem.tail)) (by rfl)) rfl ?_ | refine WPQ.cons (q_load1 ld_uint64 rfl (by repeat (first | exact List.Mem.head _ | apply List.Mem.tail)) rfl (by rfl)) rfl ?_
      refine WPQ.cons (q_int rfl rfl rfl) rfl ?_
      refine WPQ.nil ?_
      refine WPC.cond rfl (fun h2 => ?_) (fun h2 => ?_)
      · simp only [decide_eq_true_eq] at h2
        have hy1 : y = x.follow m.term (-1) := by rw [hy, if_pos ⟨by simpa using h0, h2⟩]
        subst hy1
        refine WPC.region ?_
        refine L_s (q_move rfl) rfl ?_
        first | refine L_s (q_faK fa_api_Msg_Term rfl) rfl ?_ | refine L_s (q_fa fa_api_Msg_Term rfl) rfl ?_
        first | refine L_s (q_load1z ld_uint64 rfl (by repeat (first | exact List.Mem.head _ | apply List.Mem.tail)) (by rfl)) rfl ?_ | refine L_s (q_load1 ld_uint64 rfl (by repeat (first | exact List.Mem.head _ | apply List.Mem.tail)) rfl (by rfl)) rfl ?_
        refine WPL.cons rfl (C1.call (c_call Try.func11 rfl rfl rfl) (c_Follow (L := L) m.term (-1)) (by repeat (first | exact Pick.nil | apply Pick.keep (by repeat (first | exact List.Mem.head _ | apply List.Mem.tail)) (by first | exact Pers.cells _ _ _ | exact Pers.slv _ _ _) | apply Pick.cons (by repeat (first | exact Pick1.here | apply Pick1.there)))) rfl ?_)
        rintro _ _ ⟨rfl, rfl⟩
        refine WPL.putS ?_
        refine WPL.imp (Imp.bufNil (sz := 1)) ?_
        refine WPL.nil ?_
        refine blockQ_n ?_
        refine thenQ_n ?_
        exact ⟨rfl, _, _, (by first | exact ⟨L, hL, by omega, rfl, rfl⟩ | exact ⟨{ L with ya := none, yn := 0, yc := 0 }, ⟨hL.c, hL.cn, hL.e, hL.en, hL.n, hL.m⟩, by omega, rfl, rfl⟩), (by repeat (first | exact trivial | refine ⟨rfl, ?_⟩)), Imp.pick (by repeat (first | exact Pick.nil | apply Pick.keep (by repeat (first | exact List.Mem.head _ | apply List.Mem.tail)) (by first | exact Pers.cells _ _ _ | exact Pers.slv _ _ _) | apply Pick.cons (by repeat (first | exact Pick1.here | apply Pick1.there))))⟩
      · simp only [decide_eq_false_iff_not] at h2
        have hy1 : y = x := by rw [hy, if_neg (fun h => h2 h.2)]
        subst hy1
        refine WPC.skip ?_
        refine blockQ_n ?_
        refine thenQ_n ?_
        exact ⟨rfl, _, _, (by first | exact ⟨L, hL, by omega, rfl, rfl⟩ | exact ⟨{ L with ya := none, yn := 0, yc := 0 }, ⟨hL.c, hL.cn, hL.e, hL.en, hL.n, hL.m⟩, by omega, rfl, rfl⟩), (by repeat (first | exact trivial | refine ⟨rfl, ?_⟩)), Imp.pick (by repeat (first | exact Pick.nil | apply Pick.keep (by repeat (first | exact List.Mem.head _ | apply List.Mem.tail)) (by first | exact Pers.cells _ _ _ | exact Pers.slv _ _ _) | apply Pick.cons (by repeat (first | exact Pick1.here | apply Pick1.there))))⟩
    · try simp only [decide_eq_true_eq, decide_eq_false_iff_not, beq_iff_eq, bne_iff_ne, beq_eq_false_iff_ne, bne_eq_false_iff_eq, Bool.not_eq_true', Bool.not_eq_false', Bool.not_eq_eq_eq_not, Bool.not_true, Bool.not_false, ne_eq, Decidable.not_not, Int.not_lt, Int.not_le, gt_iff_lt, ge_iff_le] at h0
      refine WPC.skip ?_
      refine thenQ_n ?_
      refine WPC.seqR ?_
      refine L_s (q_int rfl rfl rfl) rfl ?_
      refine L_s (q_assign rfl) rfl ?_
      refine WPL.nil ?_
      refine WPC.cond rfl (fun h1 => ?_) (fun h1 => ?_)
      · simp only [beq_iff_eq] at h1
        have hy1 : y = x := by rw [hy, if_neg (by omega)]
        subst hy1
        refine WPC.exit ?_
        refine thenQ_e ?_
        refine blockQ_there (by decide) ?_
        refine thenQ_e ?_
        refine blockQ_here ?_
        refine thenQ_n ?_
        exact ⟨rfl, _, _, (by first | exact ⟨L, hL, by omega, rfl, rfl⟩ | exact ⟨{ L with ya := none, yn := 0, yc := 0 }, ⟨hL.c, hL.cn, hL.e, hL.en, hL.n, hL.m⟩, by omega, rfl, rfl⟩), (by repeat (first | exact trivial | refine ⟨rfl, ?_⟩)), Imp.pick (by repeat (first | exact Pick.nil | apply Pick.keep (by repeat (first | exact List.Mem.head _ | apply List.Mem.tail)) (by first | exact Pers.cells _ _ _ | exact Pers.slv _ _ _) | apply Pick.cons (by repeat (first | exact Pick1.here | apply Pick1.there))))⟩
      · try simp only [decide_eq_true_eq, decide_eq_false_iff_not, beq_iff_eq, bne_iff_ne, beq_eq_false_iff_ne, bne_eq_false_iff_eq, Bool.not_eq_true', Bool.not_eq_false', Bool.not_eq_eq_eq_not, Bool.not_true, Bool.not_false, ne_eq, Decidable.not_not, Int.not_lt, Int.not_le, gt_iff_lt, ge_iff_le] at h1
        refine WPC.skip ?_
        refine thenQ_n ?_
        refine WPC.exit ?_
        refine blockQ_there (by decide) ?_
        refine thenQ_e ?_
        refine blockQ_there (by decide) ?_
        refine thenQ_e ?_
        refine blockQ_here ?_
        refine thenQ_n ?_
        refine WPC.seq ?_
        refine WPC.seqR ?_
        refine L_s (q_assign rfl) rfl ?_
        refine WPL.nil ?_
        refine WPC.ret ?_
        refine thenQ_r ?_
        refine blockQ_r ?_
        refine thenQ_r ?_
        have ef : x.onAsk m = (x, []) := by rw [hres]; simp_all
        rw [ef]
        exact endR_r rfl (.tmp rfl .nil) ((Imp.bufNil (sz := 10)).trans ((Imp.pick (by repeat (first | exact Pick.nil | apply Pick.keep (by repeat (first | exact List.Mem.head _ | apply List.Mem.tail)) (by first | exact Pers.cells _ _ _ | exact Pers.slv _ _ _) | apply Pick.cons (by repeat (first | exact Pick1.here | apply Pick1.there))))).trans (enode_close L hL (Γ := [buf 10 none 0 0 []])))) ⟨none, 0, rfl, rfl⟩
  · clear hL
    clear L
    rintro e Γ ⟨L, hL, hkind, rfl, rfl⟩
    refine WPC.seqR ?_
    first | refine L_s (q_faK fa_api_Msg_Kind rfl) rfl ?_ | refine L_s (q_fa fa_api_Msg_Kind rfl) rfl ?_
    first | refine L_s (q_load1z ld_int rfl (by repeat (first | exact List.Mem.head _ | apply List.Mem.tail)) (by rfl)) rfl ?_ | refine L_s (q_load1 ld_int rfl (by repeat (first | exact List.Mem.head _ | apply List.Mem.tail)) rfl (by rfl)) rfl ?_
    first | refine L_s (q_inc rfl rfl (by omega)) rfl ?_ | refine L_s (q_addI rfl rfl (by omega)) rfl ?_ | refine L_s (q_int rfl rfl rfl) rfl ?_
    first | refine L_s (q_faK fa_api_Msg_Kind rfl) rfl ?_ | refine L_s (q_fa fa_api_Msg_Kind rfl) rfl ?_
    refine WPL.cons rfl (S1.wpo (s_store1z sz_int rfl rfl rfl rfl (by repeat (first | exact Upd.here | apply Upd.there)) (by repeat constructor)) rfl ?_)
    refine WPL.putN ?_
    refine WPL.nil ?_
    refine WPC.exit ?_
    refine blockQ_there (by decide) ?_
    refine thenQ_e ?_
    refine blockQ_here ?_
    refine thenQ_n ?_
    refine WPC.seqD mixed ?_
    refine WPA.takeP 0 rfl (q_move rfl) (by kernel_rfl) (by kernel_rfl) (by kernel_rfl) rfl rfl (.nil _) ?_
    refine WPA.putS ?_
    first | refine WPA.takeP 1 rfl (q_nilP rfl) (by kernel_rfl) (by kernel_rfl) (by kernel_rfl) rfl rfl (.nil _) ?_ | refine WPA.takeP 1 rfl (q_nilF rfl) (by kernel_rfl) (by kernel_rfl) (by kernel_rfl) rfl rfl (.nil _) ?_
    refine WPA.putS ?_
    first | refine WPA.takeP 2 rfl (q_faK fa_elect_Node_Log rfl) (by kernel_rfl) (by kernel_rfl) (by kernel_rfl) rfl rfl (.nil _) ?_ | refine WPA.takeP 2 rfl (q_fa fa_elect_Node_Log rfl) (by kernel_rfl) (by kernel_rfl) (by kernel_rfl) rfl rfl (.nil _) ?_
    refine WPA.putS ?_
    first | refine WPA.takeL 3 rfl (Ent.mem (by repeat (first | exact List.Mem.head _ | apply List.Mem.tail))) (q_loadNz (us := [_, _, _]) ld_terms_Log rfl (.head _) (by exact ⟨rfl, rfl⟩)) (by kernel_rfl) (by kernel_rfl) (by kernel_rfl) rfl rfl (.nil _) ?_ | refine WPA.takeL 3 rfl (Ent.mem (by repeat (first | exact List.Mem.head _ | apply List.Mem.tail))) (q_loadNk (us := [_, _, _]) ld_terms_Log rfl (.head _) (by exact ⟨rfl, rfl⟩)) (by kernel_rfl) (by kernel_rfl) (by kernel_rfl) rfl rfl (.nil _) ?_
    refine WPA.putS ?_
    first | refine WPA.takeP 4 rfl (q_faK fa_api_Msg_Prev rfl) (by kernel_rfl) (by kernel_rfl) (by kernel_rfl) rfl rfl (.cons (Ent.mem (by repeat (first | exact List.Mem.head _ | apply List.Mem.tail))) (.nil _)) ?_ | refine WPA.takeP 4 rfl (q_fa fa_api_Msg_Prev rfl) (by kernel_rfl) (by kernel_rfl) (by kernel_rfl) rfl rfl (.cons (Ent.mem (by repeat (first | exact List.Mem.head _ | apply List.Mem.tail))) (.nil _)) ?_
    refine WPA.putS ?_
    first | refine WPA.takeL 5 rfl (Ent.mem (by repeat (first | exact List.Mem.head _ | apply List.Mem.tail))) (q_load1z ld_uint64 rfl (.head _) (by rfl)) (by kernel_rfl) (by kernel_rfl) (by kernel_rfl) rfl rfl (.cons (Ent.mem (by repeat (first | exact List.Mem.head _ | apply List.Mem.tail))) (.nil _)) ?_ | refine WPA.takeL 5 rfl (Ent.mem (by repeat (first | exact List.Mem.head _ | apply List.Mem.tail))) (q_load1 ld_uint64 rfl (.head _) rfl (by rfl)) (by kernel_rfl) (by kernel_rfl) (by kernel_rfl) rfl rfl (.cons (Ent.mem (by repeat (first | exact List.Mem.head _ | apply List.Mem.tail))) (.nil _)) ?_
    refine WPA.putS ?_
    first | refine WPA.takeP 6 rfl (q_faK fa_api_Msg_Index rfl) (by kernel_rfl) (by kernel_rfl) (by kernel_rfl) rfl rfl (.cons (Ent.mem (by repeat (first | exact List.Mem.head _ | apply List.Mem.tail))) (.cons (Ent.mem (by repeat (first | exact List.Mem.head _ | apply List.Mem.tail))) (.nil _))) ?_ | refine WPA.takeP 6 rfl (q_fa fa_api_Msg_Index rfl) (by kernel_rfl) (by kernel_rfl) (by kernel_rfl) rfl rfl (.cons (Ent.mem (by repeat (first | exact List.Mem.head _ | apply List.Mem.tail))) (.cons (Ent.mem (by repeat (first | exact List.Mem.head _ | apply List.Mem.tail))) (.nil _))) ?_
    refine WPA.putS ?_
    first | refine WPA.takeL 7 rfl (Ent.mem (by repeat (first | exact List.Mem.head _ | apply List.Mem.tail))) (q_load1z ld_uint64 rfl (.head _) (by rfl)) (by kernel_rfl) (by kernel_rfl) (by kernel_rfl) rfl rfl (.cons (Ent.mem (by repeat (first | exact List.Mem.head _ | apply List.Mem.tail))) (.cons (Ent.mem (by repeat (first | exact List.Mem.head _ | apply List.Mem.tail))) (.nil _))) ?_ | refine WPA.takeL 7 rfl (Ent.mem (by repeat (first | exact List.Mem.head _ | apply List.Mem.tail))) (q_load1 ld_uint64 rfl (.head _) rfl (by rfl)) (by kernel_rfl) (by kernel_rfl) (by kernel_rfl) rfl rfl (.cons (Ent.mem (by repeat (first | exact List.Mem.head _ | apply List.Mem.tail))) (.cons (Ent.mem (by repeat (first | exact List.Mem.head _ | apply List.Mem.tail))) (.nil _))) ?_
    refine WPA.putS ?_
    refine WPA.oneE 8 [] (by kernel_rfl) rfl rfl (by repeat (first | exact .nil | refine .anc rfl ?_ | refine .keep (by repeat (first | exact List.Mem.head _ | apply List.Mem.tail)) ?_)) (C1.call (c_call Try.func44 rfl rfl rfl) (c_Newer hL.e hyb hL.en m.prev m.index) (by repeat (first | exact Pick.nil | apply Pick.keep (by repeat (first | exact List.Mem.head _ | apply List.Mem.tail)) (by first | exact Pers.cells _ _ _ | exact Pers.slv _ _ _) | apply Pick.cons (by repeat (first | exact Pick1.here | apply Pick1.there)))) rfl ?_)
    rintro _ _ ⟨rfl, rfl⟩
    refine ⟨(.nil _), ?_⟩
    refine WPA.putS ?_
    refine WPA.takeP 9 rfl (q_move rfl) (by kernel_rfl) (by kernel_rfl) (by kernel_rfl) rfl rfl (.nil _) ?_
    refine WPA.putS ?_
    refine WPA.split 43 _ rfl (fun g9_9 => ?_) (fun g9_9 => ?_)
    · try simp only [decide_eq_true_eq, decide_eq_false_iff_not, beq_iff_eq, bne_iff_ne, beq_eq_false_iff_ne, bne_eq_false_iff_eq, Bool.not_eq_true', Bool.not_eq_false', Bool.not_eq_eq_eq_not, Bool.not_true, Bool.not_false, ne_eq, Decidable.not_not, Int.not_lt, Int.not_le, gt_iff_lt, ge_iff_le] at g9_9
      refine WPA.takePY 10 rfl rfl rfl rfl (q_move rfl) (by kernel_rfl) (by kernel_rfl) (by kernel_rfl) rfl (.nil _) ?_
      refine WPA.putS ?_
      first | refine WPA.takeLY 11 rfl (Ent.mem (by repeat (first | exact List.Mem.head _ | apply List.Mem.tail))) rfl rfl rfl (q_loadNz (us := [_, _, _, _, _, _, _, _, _, _]) ld_api_Msg rfl (.head _) (by exact ⟨rfl, rfl⟩)) (by kernel_rfl) (by kernel_rfl) (by kernel_rfl) rfl (.nil _) ?_ | refine WPA.takeLY 11 rfl (Ent.mem (by repeat (first | exact List.Mem.head _ | apply List.Mem.tail))) rfl rfl rfl (q_loadNk (us := [_, _, _, _, _, _, _, _, _, _]) ld_api_Msg rfl (.head _) (by exact ⟨rfl, rfl⟩)) (by kernel_rfl) (by kernel_rfl) (by kernel_rfl) rfl (.nil _) ?_
      refine WPA.putS ?_
      refine WPA.oneY 12 [] (by kernel_rfl) rfl rfl rfl rfl (by repeat (first | exact .nil | refine .anc rfl ?_ | refine .keep (by repeat (first | exact List.Mem.head _ | apply List.Mem.tail)) ?_)) (C1.call (c_call Try.func45 rfl rfl rfl) (c_would (L := L) m) (by repeat (first | exact Pick.nil | apply Pick.keep (by repeat (first | exact List.Mem.head _ | apply List.Mem.tail)) (by first | exact Pers.cells _ _ _ | exact Pers.slv _ _ _) | apply Pick.cons (by repeat (first | exact Pick1.here | apply Pick1.there)))) rfl ?_)
      rintro _ _ ⟨rfl, rfl⟩
      refine ⟨(.nil _), ?_⟩
      refine WPA.putS ?_
      first | refine WPA.takeP 13 rfl (q_pickT rfl rfl) (by kernel_rfl) (by kernel_rfl) (by kernel_rfl) rfl rfl (.nil _) ?_ | refine WPA.takeP 13 rfl (q_pickF rfl rfl) (by kernel_rfl) (by kernel_rfl) (by kernel_rfl) rfl rfl (.nil _) ?_
      refine WPA.putS ?_
      first | refine WPA.takeP 14 rfl (q_faK fa_api_Msg_OK rfl) (by kernel_rfl) (by kernel_rfl) (by kernel_rfl) rfl rfl (.nil _) ?_ | refine WPA.takeP 14 rfl (q_fa fa_api_Msg_OK rfl) (by kernel_rfl) (by kernel_rfl) (by kernel_rfl) rfl rfl (.nil _) ?_
      refine WPA.putS ?_
      refine WPA.oneE 15 [] (by kernel_rfl) rfl rfl (by repeat (first | exact .nil | refine .anc rfl ?_ | refine .keep (by repeat (first | exact List.Mem.head _ | apply List.Mem.tail)) ?_)) (S1.wpo (s_store1k sz_bool rfl rfl rfl rfl (by repeat (first | exact Upd.here | apply Upd.there)) (by repeat constructor)) rfl ?_)
      refine ⟨(.nil _), ?_⟩
      refine WPA.putN ?_
      refine WPA.done (by kernel_rfl) ?_
      refine WPC.seqR ?_
      refine L_s (q_move rfl) rfl ?_
      first | refine L_s (q_nilP rfl) rfl ?_ | refine L_s (q_nilF rfl) rfl ?_
      first | refine L_s (q_faK fa_elect_Node_Term rfl) rfl ?_ | refine L_s (q_fa fa_elect_Node_Term rfl) rfl ?_
      first | refine L_s (q_load1z ld_uint64 rfl (by repeat (first | exact List.Mem.head _ | apply List.Mem.tail)) (by rfl)) rfl ?_ | refine L_s (q_load1 ld_uint64 rfl (by repeat (first | exact List.Mem.head _ | apply List.Mem.tail)) rfl (by rfl)) rfl ?_
      first | refine L_s (q_faK fa_api_Msg_Term rfl) rfl ?_ | refine L_s (q_fa fa_api_Msg_Term rfl) rfl ?_
      refine WPL.cons rfl (S1.wpo (s_store1k sz_uint64 rfl rfl rfl rfl (by repeat (first | exact Upd.here | apply Upd.there)) (by repeat constructor)) rfl ?_)
      refine WPL.putN ?_
      refine WPL.nil ?_
      refine WPC.prune [(0, _), (3, _), (5, _)] (by repeat (first | exact trivial | refine ⟨rfl, ?_⟩)) ?_
      refine WPC.seq ?_
      refine WPC.block ?_
      refine WPC.seqR ?_
      first | refine L_s (q_faK fa_api_Msg_OK rfl) rfl ?_ | refine L_s (q_fa fa_api_Msg_OK rfl) rfl ?_
      first | refine L_s (q_load1z ld_bool rfl (by repeat (first | exact List.Mem.head _ | apply List.Mem.tail)) (by rfl)) rfl ?_ | refine L_s (q_load1 ld_bool rfl (by repeat (first | exact List.Mem.head _ | apply List.Mem.tail)) rfl (by rfl)) rfl ?_
      refine L_s (q_move rfl) rfl ?_
      apply WPL.joinA (e' := [(0, _), (3, _), (5, _)]) 57 61 4 rfl
      · intro g11_2
        try simp only [decide_eq_true_eq, decide_eq_false_iff_not, beq_iff_eq, bne_iff_ne, beq_eq_false_iff_ne, bne_eq_false_iff_eq, Bool.not_eq_true', Bool.not_eq_false', Bool.not_eq_eq_eq_not, Bool.not_true, Bool.not_false, ne_eq, Decidable.not_not, Int.not_lt, Int.not_le, gt_iff_lt, ge_iff_le] at g11_2
        first | refine L_yes rfl rfl (q_faK fa_api_Msg_Kind rfl) rfl ?_ | refine L_yes rfl rfl (q_fa fa_api_Msg_Kind rfl) rfl ?_
        first | refine L_yes rfl rfl (q_load1z ld_int rfl (by repeat (first | exact List.Mem.head _ | apply List.Mem.tail)) (by rfl)) rfl ?_ | refine L_yes rfl rfl (q_load1 ld_int rfl (by repeat (first | exact List.Mem.head _ | apply List.Mem.tail)) rfl (by rfl)) rfl ?_
        refine L_yes rfl rfl (q_int rfl rfl rfl) rfl ?_
        first | refine L_s (q_pickT rfl rfl) rfl ?_ | refine L_s (q_pickF rfl rfl) rfl ?_
        first | exact WPL.jn rfl rfl (by repeat (first | exact trivial | refine ⟨rfl, ?_⟩)) | exact WPL.jnI rfl rfl (by repeat (first | exact trivial | refine ⟨rfl, ?_⟩)) (Imp.pick (by repeat (first | exact Pick.nil | apply Pick.keep (by repeat (first | exact List.Mem.head _ | apply List.Mem.tail)) (by first | exact Pers.cells _ _ _ | exact Pers.slv _ _ _) | apply Pick.cons (by repeat (first | exact Pick1.here | apply Pick1.there)))))
      · intro g11_2
        try simp only [decide_eq_true_eq, decide_eq_false_iff_not, beq_iff_eq, bne_iff_ne, beq_eq_false_iff_ne, bne_eq_false_iff_eq, Bool.not_eq_true', Bool.not_eq_false', Bool.not_eq_eq_eq_not, Bool.not_true, Bool.not_false, ne_eq, Decidable.not_not, Int.not_lt, Int.not_le, gt_iff_lt, ge_iff_le] at g11_2
        refine L_no rfl rfl rfl rfl ?_
        refine L_no rfl rfl rfl rfl ?_
        refine L_no rfl rfl rfl rfl ?_
        first | refine L_s (q_pickT rfl rfl) rfl ?_ | refine L_s (q_pickF rfl rfl) rfl ?_
        first | exact WPL.jn rfl rfl (by repeat (first | exact trivial | refine ⟨rfl, ?_⟩)) | exact WPL.jnI rfl rfl (by repeat (first | exact trivial | refine ⟨rfl, ?_⟩)) (Imp.pick (by repeat (first | exact Pick.nil | apply Pick.keep (by repeat (first | exact List.Mem.head _ | apply List.Mem.tail)) (by first | exact Pers.cells _ _ _ | exact Pers.slv _ _ _) | apply Pick.cons (by repeat (first | exact Pick1.here | apply Pick1.there)))))
      refine L_s (q_assign rfl) rfl ?_
      refine WPL.nil ?_
      refine WPC.cond rfl (fun h3 => ?_) (fun h3 => ?_)
      · try simp only [decide_eq_true_eq, decide_eq_false_iff_not, beq_iff_eq, bne_iff_ne, beq_eq_false_iff_ne, bne_eq_false_iff_eq, Bool.not_eq_true', Bool.not_eq_false', Bool.not_eq_eq_eq_not, Bool.not_true, Bool.not_false, ne_eq, Decidable.not_not, Int.not_lt, Int.not_le, gt_iff_lt, ge_iff_le] at h3
        refine WPC.region ?_
        first | refine L_s (q_faK fa_api_Msg_Term rfl) rfl ?_ | refine L_s (q_fa fa_api_Msg_Term rfl) rfl ?_
        first | refine L_s (q_load1z ld_uint64 rfl (by repeat (first | exact List.Mem.head _ | apply List.Mem.tail)) (by rfl)) rfl ?_ | refine L_s (q_load1 ld_uint64 rfl (by repeat (first | exact List.Mem.head _ | apply List.Mem.tail)) rfl (by rfl)) rfl ?_
        first | refine L_s (q_faK fa_api_Msg_Term rfl) rfl ?_ | refine L_s (q_fa fa_api_Msg_Term rfl) rfl ?_
        refine WPL.cons rfl (S1.wpo (s_store1k sz_uint64 rfl rfl rfl rfl (by repeat (first | exact Upd.here | apply Upd.there)) (by repeat constructor)) rfl ?_)
        refine WPL.putN ?_
        refine WPL.nil ?_
        refine blockQ_n ?_
        refine thenQ_n ?_
        refine WPC.seqR ?_
        first | refine L_s (q_loadNz (us := [_, _, _, _, _, _, _, _, _, _]) ld_api_Msg rfl (by repeat (first | exact List.Mem.head _ | apply List.Mem.tail)) (by exact ⟨rfl, rfl⟩)) rfl ?_ | refine L_s (q_loadNk (us := [_, _, _, _, _, _, _, _, _, _]) ld_api_Msg rfl (by repeat (first | exact List.Mem.head _ | apply List.Mem.tail)) (by exact ⟨rfl, rfl⟩)) rfl ?_
        refine WPL.cons rfl (E1.wpo (e_buildSlice mk_sl_api_Msg (by decide) rfl rfl rfl) rfl ?_)
        rintro _ _ ⟨bo, rfl, rfl⟩
        refine WPL.putS ?_
        refine L_s (q_assign rfl) rfl ?_
        refine WPL.nil ?_
        refine WPC.ret ?_
        (have ef : x.onAsk m = (y, [(⟨m.kind + 1, x.me, m.fr, m.term, 0, 0, 0, true, none, 0, 0, none, 0, 0⟩ : RM)]) := (by rw [hres]; clear hres hy hymv hyf hyb; simp_all [EN.newer]); rw [ef]; (try rw [show y.would m = true by clear ef hres hy hymv hyf hyb; simp_all]); exact endR_r rfl (.tmp rfl .nil) ((Imp.pick (Δ := cells true bo 0 (encM (⟨m.kind + 1, x.me, m.fr, m.term, 0, 0, 0, true, none, 0, 0, none, 0, 0⟩ : RM)) :: cells true b o (nodeC y L) :: sl false (L).ca ((y).conf.map (.int .i64)) :: buf 1 (L).ya (L).yn (L).yc ((y).yes.map (.int .i64)) :: sl false (L).ea ((y).es.flatMap encE) :: cells true (L).na 0 ((y).next.map (.int .u64)) :: cells true (L).ma 0 ((y).mtch.map (.int .u64)) :: []) (by repeat (first | exact Pick.nil | apply Pick.keep (by repeat (first | exact List.Mem.head _ | apply List.Mem.tail)) (by first | exact Pers.cells _ _ _ | exact Pers.slv _ _ _) | apply Pick.cons (by repeat (first | exact Pick1.here | apply Pick1.there))))).trans ((Imp.bufNew (sz := 10) (n := 1) (cs := encM (⟨m.kind + 1, x.me, m.fr, m.term, 0, 0, 0, true, none, 0, 0, none, 0, 0⟩ : RM)) rfl).trans ((Imp.pick (by repeat (first | exact Pick.nil | apply Pick.keep (by repeat (first | exact List.Mem.head _ | apply List.Mem.tail)) (by first | exact Pers.cells _ _ _ | exact Pers.slv _ _ _) | apply Pick.cons (by repeat (first | exact Pick1.here | apply Pick1.there))))).trans (enode_close (x := y) (b := b) (o := o) L ⟨hL.c, hL.cn, hL.e, hL.en, hL.n, hL.m⟩ (Γ := [buf 10 (some ⟨bo, 0, none⟩) 1 1 ([(⟨m.kind + 1, x.me, m.fr, m.term, 0, 0, 0, true, none, 0, 0, none, 0, 0⟩ : RM)].flatMap encM)]))))) ⟨some ⟨bo, 0, none⟩, 1, rfl, rfl⟩)
      · try simp only [decide_eq_true_eq, decide_eq_false_iff_not, beq_iff_eq, bne_iff_ne, beq_eq_false_iff_ne, bne_eq_false_iff_eq, Bool.not_eq_true', Bool.not_eq_false', Bool.not_eq_eq_eq_not, Bool.not_true, Bool.not_false, ne_eq, Decidable.not_not, Int.not_lt, Int.not_le, gt_iff_lt, ge_iff_le] at h3
        refine WPC.seqR ?_
        first | refine L_s (q_faK fa_api_Msg_OK rfl) rfl ?_ | refine L_s (q_fa fa_api_Msg_OK rfl) rfl ?_
        first | refine L_s (q_load1z ld_bool rfl (by repeat (first | exact List.Mem.head _ | apply List.Mem.tail)) (by rfl)) rfl ?_ | refine L_s (q_load1 ld_bool rfl (by repeat (first | exact List.Mem.head _ | apply List.Mem.tail)) rfl (by rfl)) rfl ?_
        refine L_s (q_assign rfl) rfl ?_
        refine WPL.nil ?_
        refine WPC.cond rfl (fun h4 => ?_) (fun h4 => ?_)
        · try simp only [decide_eq_true_eq, decide_eq_false_iff_not, beq_iff_eq, bne_iff_ne, beq_eq_false_iff_ne, bne_eq_false_iff_eq, Bool.not_eq_true', Bool.not_eq_false', Bool.not_eq_eq_eq_not, Bool.not_true, Bool.not_false, ne_eq, Decidable.not_not, Int.not_lt, Int.not_le, gt_iff_lt, ge_iff_le] at h4
          refine WPC.region ?_
          refine L_s (q_move rfl) rfl ?_
          first | refine L_s (q_faK fa_api_Msg_From rfl) rfl ?_ | refine L_s (q_fa fa_api_Msg_From rfl) rfl ?_
          first | refine L_s (q_load1z ld_int rfl (by repeat (first | exact List.Mem.head _ | apply List.Mem.tail)) (by rfl)) rfl ?_ | refine L_s (q_load1 ld_int rfl (by repeat (first | exact List.Mem.head _ | apply List.Mem.tail)) rfl (by rfl)) rfl ?_
          first | refine L_s (q_nilP rfl) rfl ?_ | refine L_s (q_nilF rfl) rfl ?_
          first | refine L_s (q_faK fa_elect_Node_Vote rfl) rfl ?_ | refine L_s (q_fa fa_elect_Node_Vote rfl) rfl ?_
          refine WPL.cons rfl (S1.wpo (s_store1k sz_int rfl rfl rfl rfl (by repeat (first | exact Upd.here | apply Upd.there)) (by repeat constructor)) rfl ?_)
          refine WPL.putN ?_
          refine WPL.nil ?_
          refine blockQ_n ?_
          refine thenQ_n ?_
          refine WPC.seqR ?_
          first | refine L_s (q_loadNz (us := [_, _, _, _, _, _, _, _, _, _]) ld_api_Msg rfl (by repeat (first | exact List.Mem.head _ | apply List.Mem.tail)) (by exact ⟨rfl, rfl⟩)) rfl ?_ | refine L_s (q_loadNk (us := [_, _, _, _, _, _, _, _, _, _]) ld_api_Msg rfl (by repeat (first | exact List.Mem.head _ | apply List.Mem.tail)) (by exact ⟨rfl, rfl⟩)) rfl ?_
          refine WPL.cons rfl (E1.wpo (e_buildSlice mk_sl_api_Msg (by decide) rfl rfl rfl) rfl ?_)
          rintro _ _ ⟨bo, rfl, rfl⟩
          refine WPL.putS ?_
          refine L_s (q_assign rfl) rfl ?_
          refine WPL.nil ?_
          refine WPC.ret ?_
          (have ef : x.onAsk m = ({ y with vote := m.fr }, [(⟨m.kind + 1, x.me, m.fr, y.term, 0, 0, 0, true, none, 0, 0, none, 0, 0⟩ : RM)]) := (by rw [hres]; clear hres hy hymv hyf hyb; simp_all [EN.newer]); rw [ef]; (try rw [show y.would m = true by clear ef hres hy hymv hyf hyb; simp_all]); exact endR_r rfl (.tmp rfl .nil) ((Imp.pick (Δ := cells true bo 0 (encM (⟨m.kind + 1, x.me, m.fr, y.term, 0, 0, 0, true, none, 0, 0, none, 0, 0⟩ : RM)) :: cells true b o (nodeC { y with vote := m.fr } L) :: sl false (L).ca (({ y with vote := m.fr }).conf.map (.int .i64)) :: buf 1 (L).ya (L).yn (L).yc (({ y with vote := m.fr }).yes.map (.int .i64)) :: sl false (L).ea (({ y with vote := m.fr }).es.flatMap encE) :: cells true (L).na 0 (({ y with vote := m.fr }).next.map (.int .u64)) :: cells true (L).ma 0 (({ y with vote := m.fr }).mtch.map (.int .u64)) :: []) (by repeat (first | exact Pick.nil | apply Pick.keep (by repeat (first | exact List.Mem.head _ | apply List.Mem.tail)) (by first | exact Pers.cells _ _ _ | exact Pers.slv _ _ _) | apply Pick.cons (by repeat (first | exact Pick1.here | apply Pick1.there))))).trans ((Imp.bufNew (sz := 10) (n := 1) (cs := encM (⟨m.kind + 1, x.me, m.fr, y.term, 0, 0, 0, true, none, 0, 0, none, 0, 0⟩ : RM)) rfl).trans ((Imp.pick (by repeat (first | exact Pick.nil | apply Pick.keep (by repeat (first | exact List.Mem.head _ | apply List.Mem.tail)) (by first | exact Pers.cells _ _ _ | exact Pers.slv _ _ _) | apply Pick.cons (by repeat (first | exact Pick1.here | apply Pick1.there))))).trans (enode_close (x := { y with vote := m.fr }) (b := b) (o := o) L ⟨hL.c, hL.cn, hL.e, hL.en, hL.n, hL.m⟩ (Γ := [buf 10 (some ⟨bo, 0, none⟩) 1 1 ([(⟨m.kind + 1, x.me, m.fr, y.term, 0, 0, 0, true, none, 0, 0, none, 0, 0⟩ : RM)].flatMap encM)]))))) ⟨some ⟨bo, 0, none⟩, 1, rfl, rfl⟩)
        · try simp only [decide_eq_true_eq, decide_eq_false_iff_not, beq_iff_eq, bne_iff_ne, beq_eq_false_iff_ne, bne_eq_false_iff_eq, Bool.not_eq_true', Bool.not_eq_false', Bool.not_eq_eq_eq_not, Bool.not_true, Bool.not_false, ne_eq, Decidable.not_not, Int.not_lt, Int.not_le, gt_iff_lt, ge_iff_le] at h4
          refine WPC.skip ?_
          refine blockQ_n ?_
          refine thenQ_n ?_
          refine WPC.seqR ?_
          first | refine L_s (q_loadNz (us := [_, _, _, _, _, _, _, _, _, _]) ld_api_Msg rfl (by repeat (first | exact List.Mem.head _ | apply List.Mem.tail)) (by exact ⟨rfl, rfl⟩)) rfl ?_ | refine L_s (q_loadNk (us := [_, _, _, _, _, _, _, _, _, _]) ld_api_Msg rfl (by repeat (first | exact List.Mem.head _ | apply List.Mem.tail)) (by exact ⟨rfl, rfl⟩)) rfl ?_
          refine WPL.cons rfl (E1.wpo (e_buildSlice mk_sl_api_Msg (by decide) rfl rfl rfl) rfl ?_)
          rintro _ _ ⟨bo, rfl, rfl⟩
          refine WPL.putS ?_
          refine L_s (q_assign rfl) rfl ?_
          refine WPL.nil ?_
          refine WPC.ret ?_
          (have ef : x.onAsk m = (y, [(⟨m.kind + 1, x.me, m.fr, y.term, 0, 0, 0, false, none, 0, 0, none, 0, 0⟩ : RM)]) := (by rw [hres]; clear hres hy hymv hyf hyb; simp_all [EN.newer]); rw [ef]; (try rw [show y.would m = false by clear ef hres hy hymv hyf hyb; simp_all]); exact endR_r rfl (.tmp rfl .nil) ((Imp.pick (Δ := cells true bo 0 (encM (⟨m.kind + 1, x.me, m.fr, y.term, 0, 0, 0, false, none, 0, 0, none, 0, 0⟩ : RM)) :: cells true b o (nodeC y L) :: sl false (L).ca ((y).conf.map (.int .i64)) :: buf 1 (L).ya (L).yn (L).yc ((y).yes.map (.int .i64)) :: sl false (L).ea ((y).es.flatMap encE) :: cells true (L).na 0 ((y).next.map (.int .u64)) :: cells true (L).ma 0 ((y).mtch.map (.int .u64)) :: []) (by repeat (first | exact Pick.nil | apply Pick.keep (by repeat (first | exact List.Mem.head _ | apply List.Mem.tail)) (by first | exact Pers.cells _ _ _ | exact Pers.slv _ _ _) | apply Pick.cons (by repeat (first | exact Pick1.here | apply Pick1.there))))).trans ((Imp.bufNew (sz := 10) (n := 1) (cs := encM (⟨m.kind + 1, x.me, m.fr, y.term, 0, 0, 0, false, none, 0, 0, none, 0, 0⟩ : RM)) rfl).trans ((Imp.pick (by repeat (first | exact Pick.nil | apply Pick.keep (by repeat (first | exact List.Mem.head _ | apply List.Mem.tail)) (by first | exact Pers.cells _ _ _ | exact Pers.slv _ _ _) | apply Pick.cons (by repeat (first | exact Pick1.here | apply Pick1.there))))).trans (enode_close (x := y) (b := b) (o := o) L ⟨hL.c, hL.cn, hL.e, hL.en, hL.n, hL.m⟩ (Γ := [buf 10 (some ⟨bo, 0, none⟩) 1 1 ([(⟨m.kind + 1, x.me, m.fr, y.term, 0, 0, 0, false, none, 0, 0, none, 0, 0⟩ : RM)].flatMap encM)]))))) ⟨some ⟨bo, 0, none⟩, 1, rfl, rfl⟩)
    · try simp only [decide_eq_true_eq, decide_eq_false_iff_not, beq_iff_eq, bne_iff_ne, beq_eq_false_iff_ne, bne_eq_false_iff_eq, Bool.not_eq_true', Bool.not_eq_false', Bool.not_eq_eq_eq_not, Bool.not_true, Bool.not_false, ne_eq, Decidable.not_not, Int.not_lt, Int.not_le, gt_iff_lt, ge_iff_le] at g9_9
      refine WPA.takeN 10 rfl rfl rfl rfl rfl (by kernel_rfl) (by kernel_rfl) (by kernel_rfl) rfl (.nil _) ?_
      refine WPA.putS ?_
      refine WPA.takeN 11 rfl rfl rfl rfl rfl (by kernel_rfl) (by kernel_rfl) (by kernel_rfl) rfl (.nil _) ?_
      refine WPA.putS ?_
      refine WPA.takeN 12 rfl rfl rfl rfl rfl (by kernel_rfl) (by kernel_rfl) (by kernel_rfl) rfl (.nil _) ?_
      refine WPA.putS ?_
      first | refine WPA.takeP 13 rfl (q_pickT rfl rfl) (by kernel_rfl) (by kernel_rfl) (by kernel_rfl) rfl rfl (.nil _) ?_ | refine WPA.takeP 13 rfl (q_pickF rfl rfl) (by kernel_rfl) (by kernel_rfl) (by kernel_rfl) rfl rfl (.nil _) ?_
      refine WPA.putS ?_
      first | refine WPA.takeP 14 rfl (q_faK fa_api_Msg_OK rfl) (by kernel_rfl) (by kernel_rfl) (by kernel_rfl) rfl rfl (.nil _) ?_ | refine WPA.takeP 14 rfl (q_fa fa_api_Msg_OK rfl) (by kernel_rfl) (by kernel_rfl) (by kernel_rfl) rfl rfl (.nil _) ?_
      refine WPA.putS ?_
      refine WPA.oneE 15 [] (by kernel_rfl) rfl rfl (by repeat (first | exact .nil | refine .anc rfl ?_ | refine .keep (by repeat (first | exact List.Mem.head _ | apply List.Mem.tail)) ?_)) (S1.wpo (s_store1k sz_bool rfl rfl rfl rfl (by repeat (first | exact Upd.here | apply Upd.there)) (by repeat constructor)) rfl ?_)
      refine ⟨(.nil _), ?_⟩
      refine WPA.putN ?_
      refine WPA.done (by kernel_rfl) ?_
      refine WPC.seqR ?_
      refine L_s (q_move rfl) rfl ?_
      first | refine L_s (q_nilP rfl) rfl ?_ | refine L_s (q_nilF rfl) rfl ?_
      first | refine L_s (q_faK fa_elect_Node_Term rfl) rfl ?_ | refine L_s (q_fa fa_elect_Node_Term rfl) rfl ?_
      first | refine L_s (q_load1z ld_uint64 rfl (by repeat (first | exact List.Mem.head _ | apply List.Mem.tail)) (by rfl)) rfl ?_ | refine L_s (q_load1 ld_uint64 rfl (by repeat (first | exact List.Mem.head _ | apply List.Mem.tail)) rfl (by rfl)) rfl ?_
      first | refine L_s (q_faK fa_api_Msg_Term rfl) rfl ?_ | refine L_s (q_fa fa_api_Msg_Term rfl) rfl ?_
      refine WPL.cons rfl (S1.wpo (s_store1k sz_uint64 rfl rfl rfl rfl (by repeat (first | exact Upd.here | apply Upd.there)) (by repeat constructor)) rfl ?_)
      refine WPL.putN ?_
      refine WPL.nil ?_
      refine WPC.prune [(0, _), (3, _), (5, _)] (by repeat (first | exact trivial | refine ⟨rfl, ?_⟩)) ?_
      refine WPC.seq ?_
      refine WPC.block ?_
      refine WPC.seqR ?_
      first | refine L_s (q_faK fa_api_Msg_OK rfl) rfl ?_ | refine L_s (q_fa fa_api_Msg_OK rfl) rfl ?_
      first | refine L_s (q_load1z ld_bool rfl (by repeat (first | exact List.Mem.head _ | apply List.Mem.tail)) (by rfl)) rfl ?_ | refine L_s (q_load1 ld_bool rfl (by repeat (first | exact List.Mem.head _ | apply List.Mem.tail)) rfl (by rfl)) rfl ?_
      refine L_s (q_move rfl) rfl ?_
      apply WPL.joinA (e' := [(0, _), (3, _), (5, _)]) 57 61 4 rfl
      · intro g11_2
        try simp only [decide_eq_true_eq, decide_eq_false_iff_not, beq_iff_eq, bne_iff_ne, beq_eq_false_iff_ne, bne_eq_false_iff_eq, Bool.not_eq_true', Bool.not_eq_false', Bool.not_eq_eq_eq_not, Bool.not_true, Bool.not_false, ne_eq, Decidable.not_not, Int.not_lt, Int.not_le, gt_iff_lt, ge_iff_le] at g11_2
        first | refine L_yes rfl rfl (q_faK fa_api_Msg_Kind rfl) rfl ?_ | refine L_yes rfl rfl (q_fa fa_api_Msg_Kind rfl) rfl ?_
        first | refine L_yes rfl rfl (q_load1z ld_int rfl (by repeat (first | exact List.Mem.head _ | apply List.Mem.tail)) (by rfl)) rfl ?_ | refine L_yes rfl rfl (q_load1 ld_int rfl (by repeat (first | exact List.Mem.head _ | apply List.Mem.tail)) rfl (by rfl)) rfl ?_
        refine L_yes rfl rfl (q_int rfl rfl rfl) rfl ?_
        first | refine L_s (q_pickT rfl rfl) rfl ?_ | refine L_s (q_pickF rfl rfl) rfl ?_
        first | exact WPL.jn rfl rfl (by repeat (first | exact trivial | refine ⟨rfl, ?_⟩)) | exact WPL.jnI rfl rfl (by repeat (first | exact trivial | refine ⟨rfl, ?_⟩)) (Imp.pick (by repeat (first | exact Pick.nil | apply Pick.keep (by repeat (first | exact List.Mem.head _ | apply List.Mem.tail)) (by first | exact Pers.cells _ _ _ | exact Pers.slv _ _ _) | apply Pick.cons (by repeat (first | exact Pick1.here | apply Pick1.there)))))
      · intro g11_2
        try simp only [decide_eq_true_eq, decide_eq_false_iff_not, beq_iff_eq, bne_iff_ne, beq_eq_false_iff_ne, bne_eq_false_iff_eq, Bool.not_eq_true', Bool.not_eq_false', Bool.not_eq_eq_eq_not, Bool.not_true, Bool.not_false, ne_eq, Decidable.not_not, Int.not_lt, Int.not_le, gt_iff_lt, ge_iff_le] at g11_2
        refine L_no rfl rfl rfl rfl ?_
        refine L_no rfl rfl rfl rfl ?_
        refine L_no rfl rfl rfl rfl ?_
        first | refine L_s (q_pickT rfl rfl) rfl ?_ | refine L_s (q_pickF rfl rfl) rfl ?_
        first | exact WPL.jn rfl rfl (by repeat (first | exact trivial | refine ⟨rfl, ?_⟩)) | exact WPL.jnI rfl rfl (by repeat (first | exact trivial | refine ⟨rfl, ?_⟩)) (Imp.pick (by repeat (first | exact Pick.nil | apply Pick.keep (by repeat (first | exact List.Mem.head _ | apply List.Mem.tail)) (by first | exact Pers.cells _ _ _ | exact Pers.slv _ _ _) | apply Pick.cons (by repeat (first | exact Pick1.here | apply Pick1.there)))))
      refine L_s (q_assign rfl) rfl ?_
      refine WPL.nil ?_
      refine WPC.cond rfl (fun h3 => ?_) (fun h3 => ?_)
      · try simp only [decide_eq_true_eq, decide_eq_false_iff_not, beq_iff_eq, bne_iff_ne, beq_eq_false_iff_ne, bne_eq_false_iff_eq, Bool.not_eq_true', Bool.not_eq_false', Bool.not_eq_eq_eq_not, Bool.not_true, Bool.not_false, ne_eq, Decidable.not_not, Int.not_lt, Int.not_le, gt_iff_lt, ge_iff_le] at h3
        refine WPC.region ?_
        first | refine L_s (q_faK fa_api_Msg_Term rfl) rfl ?_ | refine L_s (q_fa fa_api_Msg_Term rfl) rfl ?_
        first | refine L_s (q_load1z ld_uint64 rfl (by repeat (first | exact List.Mem.head _ | apply List.Mem.tail)) (by rfl)) rfl ?_ | refine L_s (q_load1 ld_uint64 rfl (by repeat (first | exact List.Mem.head _ | apply List.Mem.tail)) rfl (by rfl)) rfl ?_
        first | refine L_s (q_faK fa_api_Msg_Term rfl) rfl ?_ | refine L_s (q_fa fa_api_Msg_Term rfl) rfl ?_
        refine WPL.cons rfl (S1.wpo (s_store1k sz_uint64 rfl rfl rfl rfl (by repeat (first | exact Upd.here | apply Upd.there)) (by repeat constructor)) rfl ?_)
        refine WPL.putN ?_
        refine WPL.nil ?_
        refine blockQ_n ?_
        refine thenQ_n ?_
        refine WPC.seqR ?_
        first | refine L_s (q_loadNz (us := [_, _, _, _, _, _, _, _, _, _]) ld_api_Msg rfl (by repeat (first | exact List.Mem.head _ | apply List.Mem.tail)) (by exact ⟨rfl, rfl⟩)) rfl ?_ | refine L_s (q_loadNk (us := [_, _, _, _, _, _, _, _, _, _]) ld_api_Msg rfl (by repeat (first | exact List.Mem.head _ | apply List.Mem.tail)) (by exact ⟨rfl, rfl⟩)) rfl ?_
        refine WPL.cons rfl (E1.wpo (e_buildSlice mk_sl_api_Msg (by decide) rfl rfl rfl) rfl ?_)
        rintro _ _ ⟨bo, rfl, rfl⟩
        refine WPL.putS ?_
        refine L_s (q_assign rfl) rfl ?_
        refine WPL.nil ?_
        refine WPC.ret ?_
        exfalso; clear hres hy hymv hyf hyb; simp_all
      · try simp only [decide_eq_true_eq, decide_eq_false_iff_not, beq_iff_eq, bne_iff_ne, beq_eq_false_iff_ne, bne_eq_false_iff_eq, Bool.not_eq_true', Bool.not_eq_false', Bool.not_eq_eq_eq_not, Bool.not_true, Bool.not_false, ne_eq, Decidable.not_not, Int.not_lt, Int.not_le, gt_iff_lt, ge_iff_le] at h3
        refine WPC.seqR ?_
        first | refine L_s (q_faK fa_api_Msg_OK rfl) rfl ?_ | refine L_s (q_fa fa_api_Msg_OK rfl) rfl ?_
        first | refine L_s (q_load1z ld_bool rfl (by repeat (first | exact List.Mem.head _ | apply List.Mem.tail)) (by rfl)) rfl ?_ | refine L_s (q_load1 ld_bool rfl (by repeat (first | exact List.Mem.head _ | apply List.Mem.tail)) rfl (by rfl)) rfl ?_
        refine L_s (q_assign rfl) rfl ?_
        refine WPL.nil ?_
        refine WPC.cond rfl (fun h4 => ?_) (fun h4 => ?_)
        · try simp only [decide_eq_true_eq, decide_eq_false_iff_not, beq_iff_eq, bne_iff_ne, beq_eq_false_iff_ne, bne_eq_false_iff_eq, Bool.not_eq_true', Bool.not_eq_false', Bool.not_eq_eq_eq_not, Bool.not_true, Bool.not_false, ne_eq, Decidable.not_not, Int.not_lt, Int.not_le, gt_iff_lt, ge_iff_le] at h4
          refine WPC.region ?_
          refine L_s (q_move rfl) rfl ?_
          first | refine L_s (q_faK fa_api_Msg_From rfl) rfl ?_ | refine L_s (q_fa fa_api_Msg_From rfl) rfl ?_
          first | refine L_s (q_load1z ld_int rfl (by repeat (first | exact List.Mem.head _ | apply List.Mem.tail)) (by rfl)) rfl ?_ | refine L_s (q_load1 ld_int rfl (by repeat (first | exact List.Mem.head _ | apply List.Mem.tail)) rfl (by rfl)) rfl ?_
          first | refine L_s (q_nilP rfl) rfl ?_ | refine L_s (q_nilF rfl) rfl ?_
          first | refine L_s (q_faK fa_elect_Node_Vote rfl) rfl ?_ | refine L_s (q_fa fa_elect_Node_Vote rfl) rfl ?_
          refine WPL.cons rfl (S1.wpo (s_store1k sz_int rfl rfl rfl rfl (by repeat (first | exact Upd.here | apply Upd.there)) (by repeat constructor)) rfl ?_)
          refine WPL.putN ?_
          refine WPL.nil ?_
          refine blockQ_n ?_
          refine thenQ_n ?_
          refine WPC.seqR ?_
          first | refine L_s (q_loadNz (us := [_, _, _, _, _, _, _, _, _, _]) ld_api_Msg rfl (by repeat (first | exact List.Mem.head _ | apply List.Mem.tail)) (by exact ⟨rfl, rfl⟩)) rfl ?_ | refine L_s (q_loadNk (us := [_, _, _, _, _, _, _, _, _, _]) ld_api_Msg rfl (by repeat (first | exact List.Mem.head _ | apply List.Mem.tail)) (by exact ⟨rfl, rfl⟩)) rfl ?_
          refine WPL.cons rfl (E1.wpo (e_buildSlice mk_sl_api_Msg (by decide) rfl rfl rfl) rfl ?_)
          rintro _ _ ⟨bo, rfl, rfl⟩
          refine WPL.putS ?_
          refine L_s (q_assign rfl) rfl ?_
          refine WPL.nil ?_
          refine WPC.ret ?_
          exfalso; clear hres hy hymv hyf hyb; simp_all
        · try simp only [decide_eq_true_eq, decide_eq_false_iff_not, beq_iff_eq, bne_iff_ne, beq_eq_false_iff_ne, bne_eq_false_iff_eq, Bool.not_eq_true', Bool.not_eq_false', Bool.not_eq_eq_eq_not, Bool.not_true, Bool.not_false, ne_eq, Decidable.not_not, Int.not_lt, Int.not_le, gt_iff_lt, ge_iff_le] at h4
          refine WPC.skip ?_
          refine blockQ_n ?_
          refine thenQ_n ?_
          refine WPC.seqR ?_
          first | refine L_s (q_loadNz (us := [_, _, _, _, _, _, _, _, _, _]) ld_api_Msg rfl (by repeat (first | exact List.Mem.head _ | apply List.Mem.tail)) (by exact ⟨rfl, rfl⟩)) rfl ?_ | refine L_s (q_loadNk (us := [_, _, _, _, _, _, _, _, _, _]) ld_api_Msg rfl (by repeat (first | exact List.Mem.head _ | apply List.Mem.tail)) (by exact ⟨rfl, rfl⟩)) rfl ?_
          refine WPL.cons rfl (E1.wpo (e_buildSlice mk_sl_api_Msg (by decide) rfl rfl rfl) rfl ?_)
          rintro _ _ ⟨bo, rfl, rfl⟩
          refine WPL.putS ?_
          refine L_s (q_assign rfl) rfl ?_
          refine WPL.nil ?_
          refine WPC.ret ?_
          (have ef : x.onAsk m = (y, [(⟨m.kind + 1, x.me, m.fr, y.term, 0, 0, 0, false, none, 0, 0, none, 0, 0⟩ : RM)]) := (by rw [hres]; clear hres hy hymv hyf hyb; simp_all [EN.newer]); rw [ef]; (try rw [show y.would m = false by clear ef hres hy hymv hyf hyb; simp_all]); exact endR_r rfl (.tmp rfl .nil) ((Imp.pick (Δ := cells true bo 0 (encM (⟨m.kind + 1, x.me, m.fr, y.term, 0, 0, 0, false, none, 0, 0, none, 0, 0⟩ : RM)) :: cells true b o (nodeC y L) :: sl false (L).ca ((y).conf.map (.int .i64)) :: buf 1 (L).ya (L).yn (L).yc ((y).yes.map (.int .i64)) :: sl false (L).ea ((y).es.flatMap encE) :: cells true (L).na 0 ((y).next.map (.int .u64)) :: cells true (L).ma 0 ((y).mtch.map (.int .u64)) :: []) (by repeat (first | exact Pick.nil | apply Pick.keep (by repeat (first | exact List.Mem.head _ | apply List.Mem.tail)) (by first | exact Pers.cells _ _ _ | exact Pers.slv _ _ _) | apply Pick.cons (by repeat (first | exact Pick1.here | apply Pick1.there))))).trans ((Imp.bufNew (sz := 10) (n := 1) (cs := encM (⟨m.kind + 1, x.me, m.fr, y.term, 0, 0, 0, false, none, 0, 0, none, 0, 0⟩ : RM)) rfl).trans ((Imp.pick (by repeat (first | exact Pick.nil | apply Pick.keep (by repeat (first | exact List.Mem.head _ | apply List.Mem.tail)) (by first | exact Pers.cells _ _ _ | exact Pers.slv _ _ _) | apply Pick.cons (by repeat (first | exact Pick1.here | apply Pick1.there))))).trans (enode_close (x := y) (b := b) (o := o) L ⟨hL.c, hL.cn, hL.e, hL.en, hL.n, hL.m⟩ (Γ := [buf 10 (some ⟨bo, 0, none⟩) 1 1 ([(⟨m.kind + 1, x.me, m.fr, y.term, 0, 0, 0, false, none, 0, 0, none, 0, 0⟩ : RM)].flatMap encM)]))))) ⟨some ⟨bo, 0, none⟩, 1, rfl, rfl⟩)

theorem c_chosen {b o : Nat} {x : EN} (hx : x.fits) (ht : x.term + 1 < 2305843009213693952) : Trip Try.prog 32 #[.pointer (some ⟨b, o, none⟩)] [enode b o x] (fun r Δ => ∃ (a : Option Addr) (c : Nat), r = .slice a x.chosen.2.length c ∧ Δ = [enode b o x.chosen.1, buf 10 a x.chosen.2.length c (x.chosen.2.flatMap encM)]) := by
  unfold EN.chosen
  split
  · rename_i h; exact c_chosenA hx h ht
  · rename_i h; exact c_chosenL hx h

theorem c_OnAnswer {b o : Nat} {x : EN} {m : RM} (hx : x.fits) (hxt : x.term < 1152921504606846976) (hmt : 0 ≤ m.term ∧ m.term < 1152921504606846976) (hxy : x.yes.length < 1073741) : Trip Try.prog 20 #[.pointer (some ⟨b, o, none⟩), .agg (encM m).toArray] [enode b o x] fun r Δ => ∃ (a : Option Addr) (c : Nat), r = .slice a (x.onAnswer m).2.length c ∧ Δ = [enode b o (x.onAnswer m).1, buf 10 a (x.onAnswer m).2.length c ((x.onAnswer m).2.flatMap encM)] := by
  obtain ⟨hme, hterm, hbase, hes, hys⟩ := id hx
  obtain ⟨y, hy⟩ : ∃ y, y = if x.term < m.term ∧ (m.ok = false ∨ m.kind = 2) then x.follow m.term (-1) else x := ⟨_, rfl⟩
  have hyf : y.fits := by
    rw [hy]
    split
    · exact ⟨hme, by show 0 ≤ (if x.term < m.term then m.term else x.term) ∧ (if x.term < m.term then m.term else x.term) < _; split <;> omega, hbase, hes, by simp [EN.follow]⟩
    · exact hx
  have hyt : y.term < 1152921504606846976 := by
    rw [hy]; split
    · show (if x.term < m.term then m.term else x.term) < _; split <;> omega
    · exact hxt
  have hyy : y.yes.length < 1073741 := by
    rw [hy]; split
    · simp [EN.follow]
    · exact hxy
  have hres : (m.kind = 2 ∨ m.kind = 4) → x.onAnswer m = if y.counts m then (if agrees y.conf (y.yes ++ [m.fr]) then ({ y with yes := y.yes ++ [m.fr] } : EN).chosen else (({ y with yes := y.yes ++ [m.fr] } : EN), [])) else (y, []) := fun h => by
    unfold EN.onAnswer; rw [if_pos h, ← hy]
  have hres0 : ¬ (m.kind = 2 ∨ m.kind = 4) → x.onAnswer m = (x, []) := fun h => by unfold EN.onAnswer; rw [if_neg h]
  refine enode_open fun L hL => ?_
  refine Trip.start 61 [.tmp 4] [(0, .pointer (some ⟨b, o, none⟩)), (1, .agg (encM m).toArray)] Try.func20 rfl Try.ntmps20 rfl ⟨rfl, rfl, trivial⟩ rfl ?_
  refine WPC.seqR ?_
  first | refine WPL.cons rfl (E1.wpo (e_boxN rfl) rfl ?_) | refine WPL.cons rfl (E1.wpo (e_box1 rfl rfl) rfl ?_)
  rintro _ _ ⟨b1, rfl, rfl⟩
  refine WPL.putS ?_
  refine L_s (q_assign rfl) rfl ?_
  refine WPL.nil ?_
  refine WPC.seq ?_
  refine WPC.seqR ?_
  first | refine L_s (q_faK fa_api_Msg_Kind rfl) rfl ?_ | refine L_s (q_fa fa_api_Msg_Kind rfl) rfl ?_
  first | refine L_s (q_load1z ld_int rfl (by repeat (first | exact List.Mem.head _ | apply List.Mem.tail)) (by rfl)) rfl ?_ | refine L_s (q_load1 ld_int rfl (by repeat (first | exact List.Mem.head _ | apply List.Mem.tail)) rfl (by rfl)) rfl ?_
  refine L_s (q_int rfl rfl rfl) rfl ?_
  refine L_s (q_move rfl) rfl ?_
  apply WPL.joinA (e' := [(0, _), (3, _), (4, _)]) 8 12 4 rfl
  · intro g1_3
    try simp only [decide_eq_true_eq, decide_eq_false_iff_not, beq_iff_eq, bne_iff_ne, beq_eq_false_iff_ne, bne_eq_false_iff_eq, Bool.not_eq_true', Bool.not_eq_false', Bool.not_eq_eq_eq_not, Bool.not_true, Bool.not_false, ne_eq, Decidable.not_not, Int.not_lt, Int.not_le, gt_iff_lt, ge_iff_le] at g1_3
    first | refine L_yes rfl rfl (q_faK fa_api_Msg_Kind rfl) rfl ?_ | refine L_yes rfl rfl (q_fa fa_api_Msg_Kind rfl) rfl ?_
    first | refine L_yes rfl rfl (q_load1z ld_int rfl (by repeat (first | exact List.Mem.head _ | apply List.Mem.tail)) (by rfl)) rfl ?_ | refine L_yes rfl rfl (q_load1 ld_int rfl (by repeat (first | exact List.Mem.head _ | apply List.Mem.tail)) rfl (by rfl)) rfl ?_
    refine L_yes rfl rfl (q_int rfl rfl rfl) rfl ?_
    first | refine L_s (q_pickT rfl rfl) rfl ?_ | refine L_s (q_pickF rfl rfl) rfl ?_
    first | exact WPL.jn rfl rfl (by repeat (first | exact trivial | refine ⟨rfl, ?_⟩)) | exact WPL.jnI rfl rfl (by repeat (first | exact trivial | refine ⟨rfl, ?_⟩)) (Imp.pick (by repeat (first | exact Pick.nil | apply Pick.keep (by repeat (first | exact List.Mem.head _ | apply List.Mem.tail)) (by first | exact Pers.cells _ _ _ | exact Pers.slv _ _ _) | apply Pick.cons (by repeat (first | exact Pick1.here | apply Pick1.there)))))
  · intro g1_3
    try simp only [decide_eq_true_eq, decide_eq_false_iff_not, beq_iff_eq, bne_iff_ne, beq_eq_false_iff_ne, bne_eq_false_iff_eq, Bool.not_eq_true', Bool.not_eq_false', Bool.not_eq_eq_eq_not, Bool.not_true, Bool.not_false, ne_eq, Decidable.not_not, Int.not_lt, Int.not_le, gt_iff_lt, ge_iff_le] at g1_3
    refine L_no rfl rfl rfl rfl ?_
    refine L_no rfl rfl rfl rfl ?_
    refine L_no rfl rfl rfl rfl ?_
    first | refine L_s (q_pickT rfl rfl) rfl ?_ | refine L_s (q_pickF rfl rfl) rfl ?_
    first | exact WPL.jn rfl rfl (by repeat (first | exact trivial | refine ⟨rfl, ?_⟩)) | exact WPL.jnI rfl rfl (by repeat (first | exact trivial | refine ⟨rfl, ?_⟩)) (Imp.pick (by repeat (first | exact Pick.nil | apply Pick.keep (by repeat (first | exact List.Mem.head _ | apply List.Mem.tail)) (by first | exact Pers.cells _ _ _ | exact Pers.slv _ _ _) | apply Pick.cons (by repeat (first | exact Pick1.here | apply Pick1.there)))))
  refine WPL.nil ?_
  refine WPC.cond rfl (fun h0 => ?_) (fun h0 => ?_)
  · simp only [Bool.and_eq_true, bne_iff_ne, ne_eq] at h0
    refine WPC.seqR ?_
    refine L_s (q_assign rfl) rfl ?_
    refine WPL.nil ?_
    refine WPC.ret ?_
    refine thenQ_r ?_
    rw [hres0 (by omega)]
    exact endR_r rfl (.tmp rfl .nil) ((Imp.bufNil (sz := 10)).trans ((Imp.pick (Δ := cells true b o (nodeC x L) :: sl false (L).ca ((x).conf.map (.int .i64)) :: buf 1 (L).ya (L).yn (L).yc ((x).yes.map (.int .i64)) :: sl false (L).ea ((x).es.flatMap encE) :: cells true (L).na 0 ((x).next.map (.int .u64)) :: cells true (L).ma 0 ((x).mtch.map (.int .u64)) :: [buf 10 none 0 0 []]) (by repeat (first | exact Pick.nil | apply Pick.keep (by repeat (first | exact List.Mem.head _ | apply List.Mem.tail)) (by first | exact Pers.cells _ _ _ | exact Pers.slv _ _ _) | apply Pick.cons (by repeat (first | exact Pick1.here | apply Pick1.there))))).trans (enode_close (x := x) (b := b) (o := o) L hL (Γ := [buf 10 none 0 0 []])))) ⟨none, 0, rfl, rfl⟩
  · simp only [Bool.and_eq_false_iff, bne_eq_false_iff_eq] at h0
    refine WPC.skip ?_
    refine thenQ_n ?_
    refine WPC.seq ?_
    refine WPC.seqQ mixed (by kernel_rfl) ?_
    first | refine WPQ.cons (q_faK fa_api_Msg_Term rfl) rfl ?_ | refine WPQ.cons (q_fa fa_api_Msg_Term rfl) rfl ?_
    first | refine WPQ.cons (q_load1z ld_uint64 rfl (by repeat (first | exact List.Mem.head _ | apply List.Mem.tail)) (by rfl)) rfl ?_ | refine WPQ.cons (q_load1 ld_uint64 rfl (by repeat (first | exact List.Mem.head _ | apply List.Mem.tail)) rfl (by rfl)) rfl ?_
    refine WPQ.cons (q_move rfl) rfl ?_
    first | refine WPQ.cons (q_nilP rfl) rfl ?_ | refine WPQ.cons (q_nilF rfl) rfl ?_
    first | refine WPQ.cons (q_faK fa_elect_Node_Term rfl) rfl ?_ | refine WPQ.cons (q_fa fa_elect_Node_Term rfl) rfl ?_
    first | refine WPQ.cons (q_load1z ld_uint64 rfl (by repeat (first | exact List.Mem.head _ | apply List.Mem.tail)) (by rfl)) rfl ?_ | refine WPQ.cons (q_load1 ld_uint64 rfl (by repeat (first | exact List.Mem.head _ | apply List.Mem.tail)) rfl (by rfl)) rfl ?_
    refine WPQ.cons (q_int rfl rfl rfl) rfl ?_
    refine WPQ.cons (q_move rfl) rfl ?_
    apply WPQ.joinA (e' := [(0, _), (3, _), (4, _)]) 20 29 9 rfl
    · intro g3_7
      try simp only [decide_eq_true_eq, decide_eq_false_iff_not, beq_iff_eq, bne_iff_ne, beq_eq_false_iff_ne, bne_eq_false_iff_eq, Bool.not_eq_true', Bool.not_eq_false', Bool.not_eq_eq_eq_not, Bool.not_true, Bool.not_false, ne_eq, Decidable.not_not, Int.not_lt, Int.not_le, gt_iff_lt, ge_iff_le] at g3_7
      first | refine WPQ.yes rfl rfl (q_faK fa_api_Msg_OK rfl) rfl ?_ | refine WPQ.yes rfl rfl (q_fa fa_api_Msg_OK rfl) rfl ?_
      first | refine WPQ.yes rfl rfl (q_load1z ld_bool rfl (by repeat (first | exact List.Mem.head _ | apply List.Mem.tail)) (by rfl)) rfl ?_ | refine WPQ.yes rfl rfl (q_load1 ld_bool rfl (by repeat (first | exact List.Mem.head _ | apply List.Mem.tail)) rfl (by rfl)) rfl ?_
      refine WPQ.yes rfl rfl (q_not rfl) rfl ?_
      refine WPQ.yes rfl rfl (q_move rfl) rfl ?_
      apply WPQ.joinO (e' := [(0, _), (3, _), (4, _), (20, _)]) 24 28 4 rfl
      · intro g3_11
        try simp only [decide_eq_true_eq, decide_eq_false_iff_not, beq_iff_eq, bne_iff_ne, beq_eq_false_iff_ne, bne_eq_false_iff_eq, Bool.not_eq_true', Bool.not_eq_false', Bool.not_eq_eq_eq_not, Bool.not_true, Bool.not_false, ne_eq, Decidable.not_not, Int.not_lt, Int.not_le, gt_iff_lt, ge_iff_le] at g3_11
        refine WPQ.no rfl rfl rfl rfl ?_
        refine WPQ.no rfl rfl rfl rfl ?_
        refine WPQ.no rfl rfl rfl rfl ?_
        first | refine WPQ.yes rfl rfl (q_pickT rfl rfl) rfl ?_ | refine WPQ.yes rfl rfl (q_pickF rfl rfl) rfl ?_
        exact WPQ.jn rfl rfl (by repeat (first | exact trivial | refine ⟨rfl, ?_⟩))
      · intro g3_11
        try simp only [decide_eq_true_eq, decide_eq_false_iff_not, beq_iff_eq, bne_iff_ne, beq_eq_false_iff_ne, bne_eq_false_iff_eq, Bool.not_eq_true', Bool.not_eq_false', Bool.not_eq_eq_eq_not, Bool.not_true, Bool.not_false, ne_eq, Decidable.not_not, Int.not_lt, Int.not_le, gt_iff_lt, ge_iff_le] at g3_11
        first | refine WPQ.yes rfl rfl (q_faK fa_api_Msg_Kind rfl) rfl ?_ | refine WPQ.yes rfl rfl (q_fa fa_api_Msg_Kind rfl) rfl ?_
        first | refine WPQ.yes rfl rfl (q_load1z ld_int rfl (by repeat (first | exact List.Mem.head _ | apply List.Mem.tail)) (by rfl)) rfl ?_ | refine WPQ.yes rfl rfl (q_load1 ld_int rfl (by repeat (first | exact List.Mem.head _ | apply List.Mem.tail)) rfl (by rfl)) rfl ?_
        refine WPQ.yes rfl rfl (q_int rfl rfl rfl) rfl ?_
        first | refine WPQ.yes rfl rfl (q_pickT rfl rfl) rfl ?_ | refine WPQ.yes rfl rfl (q_pickF rfl rfl) rfl ?_
        exact WPQ.jn rfl rfl (by repeat (first | exact trivial | refine ⟨rfl, ?_⟩))
      first | refine WPQ.cons (q_pickT rfl rfl) rfl ?_ | refine WPQ.cons (q_pickF rfl rfl) rfl ?_
      exact WPQ.jn rfl rfl (by repeat (first | exact trivial | refine ⟨rfl, ?_⟩))
    · intro g3_7
      try simp only [decide_eq_true_eq, decide_eq_false_iff_not, beq_iff_eq, bne_iff_ne, beq_eq_false_iff_ne, bne_eq_false_iff_eq, Bool.not_eq_true', Bool.not_eq_false', Bool.not_eq_eq_eq_not, Bool.not_true, Bool.not_false, ne_eq, Decidable.not_not, Int.not_lt, Int.not_le, gt_iff_lt, ge_iff_le] at g3_7
      refine WPQ.no rfl rfl rfl rfl ?_
      refine WPQ.no rfl rfl rfl rfl ?_
      refine WPQ.no rfl rfl rfl rfl ?_
      refine WPQ.no rfl rfl rfl rfl ?_
      refine WPQ.off rfl rfl rfl ?_
      refine WPQ.off rfl rfl rfl ?_
      refine WPQ.off rfl rfl rfl ?_
      refine WPQ.no rfl rfl rfl rfl ?_
      first | refine WPQ.cons (q_pickT rfl rfl) rfl ?_ | refine WPQ.cons (q_pickF rfl rfl) rfl ?_
      exact WPQ.jn rfl rfl (by repeat (first | exact trivial | refine ⟨rfl, ?_⟩))
    refine WPQ.nil ?_
    refine WPC.midS (fun e Γ => ∃ L : NL, NOk y L ∧ e = [(0, .pointer (some ⟨b, o, none⟩)), (3, .pointer (some ⟨b1, 0, none⟩))] ∧ Γ = [cells true b1 0 (encM m), cells true b o (nodeC y L), sl false (L).ca ((y).conf.map (.int .i64)), buf 1 (L).ya (L).yn (L).yc ((y).yes.map (.int .i64)), sl false (L).ea ((y).es.flatMap encE), cells true (L).na 0 ((y).next.map (.int .u64)), cells true (L).ma 0 ((y).mtch.map (.int .u64))]) ?_ ?_
    · refine WPC.cond rfl (fun h1 => ?_) (fun h1 => ?_)
      · have hy1 : y = x.follow m.term (-1) := by rw [hy, if_pos (by simpa using h1)]
        subst hy1
        refine WPC.region ?_
        refine L_s (q_move rfl) rfl ?_
        first | refine L_s (q_faK fa_api_Msg_Term rfl) rfl ?_ | refine L_s (q_fa fa_api_Msg_Term rfl) rfl ?_
        first | refine L_s (q_load1z ld_uint64 rfl (by repeat (first | exact List.Mem.head _ | apply List.Mem.tail)) (by rfl)) rfl ?_ | refine L_s (q_load1 ld_uint64 rfl (by repeat (first | exact List.Mem.head _ | apply List.Mem.tail)) rfl (by rfl)) rfl ?_
        refine WPL.cons rfl (C1.call (c_call Try.func11 rfl rfl rfl) (c_Follow (L := L) m.term (-1)) (by repeat (first | exact Pick.nil | apply Pick.keep (by repeat (first | exact List.Mem.head _ | apply List.Mem.tail)) (by first | exact Pers.cells _ _ _ | exact Pers.slv _ _ _) | apply Pick.cons (by repeat (first | exact Pick1.here | apply Pick1.there)))) rfl ?_)
        rintro _ _ ⟨rfl, rfl⟩
        refine WPL.putS ?_
        refine WPL.imp (Imp.bufNil (sz := 1)) ?_
        refine WPL.nil ?_
        refine thenQ_n ?_
        exact ⟨rfl, _, _, ⟨{ L with ya := none, yn := 0, yc := 0 }, ⟨hL.c, hL.cn, hL.e, hL.en, hL.n, hL.m⟩, rfl, rfl⟩, (by repeat (first | exact trivial | refine ⟨rfl, ?_⟩)), Imp.pick (by repeat (first | exact Pick.nil | apply Pick.keep (by repeat (first | exact List.Mem.head _ | apply List.Mem.tail)) (by first | exact Pers.cells _ _ _ | exact Pers.slv _ _ _) | apply Pick.cons (by repeat (first | exact Pick1.here | apply Pick1.there))))⟩
      · have hy1 : y = x := by rw [hy, if_neg (by simpa using h1)]
        subst hy1
        refine WPC.skip ?_
        refine thenQ_n ?_
        exact ⟨rfl, _, _, ⟨L, hL, rfl, rfl⟩, (by repeat (first | exact trivial | refine ⟨rfl, ?_⟩)), Imp.pick (by repeat (first | exact Pick.nil | apply Pick.keep (by repeat (first | exact List.Mem.head _ | apply List.Mem.tail)) (by first | exact Pers.cells _ _ _ | exact Pers.slv _ _ _) | apply Pick.cons (by repeat (first | exact Pick1.here | apply Pick1.there))))⟩
    · clear hL
      clear L
      rintro e Γ ⟨L, hL, rfl, rfl⟩
      refine WPC.seq ?_
      refine WPC.seqR ?_
      refine L_s (q_move rfl) rfl ?_
      first | refine L_s (q_loadNz (us := [_, _, _, _, _, _, _, _, _, _]) ld_api_Msg rfl (by repeat (first | exact List.Mem.head _ | apply List.Mem.tail)) (by exact ⟨rfl, rfl⟩)) rfl ?_ | refine L_s (q_loadNk (us := [_, _, _, _, _, _, _, _, _, _]) ld_api_Msg rfl (by repeat (first | exact List.Mem.head _ | apply List.Mem.tail)) (by exact ⟨rfl, rfl⟩)) rfl ?_
      refine WPL.imp (Imp.pick (Δ := [buf 1 (L).ya (L).yn (L).yc ((y).yes.map (.int .i64)), cells true b o (nodeC y L), sl false (L).ca ((y).conf.map (.int .i64)), sl false (L).ea ((y).es.flatMap encE), cells true (L).na 0 ((y).next.map (.int .u64)), cells true (L).ma 0 ((y).mtch.map (.int .u64)), cells true b1 0 (encM m)]) (by repeat (first | exact Pick.nil | apply Pick.keep (by repeat (first | exact List.Mem.head _ | apply List.Mem.tail)) (by first | exact Pers.cells _ _ _ | exact Pers.slv _ _ _) | apply Pick.cons (by repeat (first | exact Pick1.here | apply Pick1.there))))) ?_
      refine WPL.bufOpen fun sp hyok hsp => ?_
      have hyl : L.yn = y.yes.length := by have := hyok.len; simp at this; omega
      have hyn : L.yn < 1073741824 := by omega
      refine WPL.cons rfl (C1.call (c_call Try.func46 rfl rfl rfl) (c_counts (L := L) m hL.c hL.cn hyok hyn hyf.term) (by repeat (first | exact Pick.nil | apply Pick.keep (by repeat (first | exact List.Mem.head _ | apply List.Mem.tail)) (by first | exact Pers.cells _ _ _ | exact Pers.slv _ _ _) | apply Pick.cons (by repeat (first | exact Pick1.here | apply Pick1.there)))) rfl ?_)
      rintro _ _ ⟨rfl, rfl⟩
      refine WPL.putS ?_
      refine WPL.imp ((Imp.pick (Δ := sl true (L).ya ((y).yes.map (Value.int .i64)) :: cells true (blk (L).ya) (off (L).ya + (((y).yes.map (Value.int .i64))).length) sp :: [cells true b o (nodeC y L), sl false (L).ca ((y).conf.map (.int .i64)), sl false (L).ea ((y).es.flatMap encE), cells true (L).na 0 ((y).next.map (.int .u64)), cells true (L).ma 0 ((y).mtch.map (.int .u64)), cells true b1 0 (encM m)]) (by repeat (first | exact Pick.nil | apply Pick.keep (by repeat (first | exact List.Mem.head _ | apply List.Mem.tail)) (by first | exact Pers.cells _ _ _ | exact Pers.slv _ _ _) | apply Pick.cons (by repeat (first | exact Pick1.here | apply Pick1.there))))).trans (Imp.bufClose hyok hsp)) ?_
      refine L_s (q_not rfl) rfl ?_
      refine WPL.nil ?_
      refine WPC.cond rfl (fun h2 => ?_) (fun h2 => ?_)
      · try simp only [decide_eq_true_eq, decide_eq_false_iff_not, beq_iff_eq, bne_iff_ne, beq_eq_false_iff_ne, bne_eq_false_iff_eq, Bool.not_eq_true', Bool.not_eq_false', Bool.not_eq_eq_eq_not, Bool.not_true, Bool.not_false, ne_eq, Decidable.not_not, Int.not_lt, Int.not_le, gt_iff_lt, ge_iff_le] at h2
        refine WPC.seqR ?_
        refine L_s (q_assign rfl) rfl ?_
        refine WPL.nil ?_
        refine WPC.ret ?_
        refine thenQ_r ?_
        rw [hres h0, if_neg (by simp [h2])]
        exact endR_r rfl (.tmp rfl .nil) ((Imp.bufNil (sz := 10)).trans ((Imp.pick (Δ := cells true b o (nodeC y L) :: sl false (L).ca ((y).conf.map (.int .i64)) :: buf 1 (L).ya (L).yn (L).yc ((y).yes.map (.int .i64)) :: sl false (L).ea ((y).es.flatMap encE) :: cells true (L).na 0 ((y).next.map (.int .u64)) :: cells true (L).ma 0 ((y).mtch.map (.int .u64)) :: [buf 10 none 0 0 []]) (by repeat (first | exact Pick.nil | apply Pick.keep (by repeat (first | exact List.Mem.head _ | apply List.Mem.tail)) (by first | exact Pers.cells _ _ _ | exact Pers.slv _ _ _) | apply Pick.cons (by repeat (first | exact Pick1.here | apply Pick1.there))))).trans (enode_close (x := y) (b := b) (o := o) L hL (Γ := [buf 10 none 0 0 []])))) ⟨none, 0, rfl, rfl⟩
      · try simp only [decide_eq_true_eq, decide_eq_false_iff_not, beq_iff_eq, bne_iff_ne, beq_eq_false_iff_ne, bne_eq_false_iff_eq, Bool.not_eq_true', Bool.not_eq_false', Bool.not_eq_eq_eq_not, Bool.not_true, Bool.not_false, ne_eq, Decidable.not_not, Int.not_lt, Int.not_le, gt_iff_lt, ge_iff_le] at h2
        refine WPC.skip ?_
        refine thenQ_n ?_
        refine WPC.seqD mixed ?_
        refine WPA.takeP 0 rfl (q_move rfl) (by kernel_rfl) (by kernel_rfl) (by kernel_rfl) rfl rfl (.nil _) ?_
        refine WPA.putS ?_
        refine WPA.takeP 1 rfl (q_move rfl) (by kernel_rfl) (by kernel_rfl) (by kernel_rfl) rfl rfl (.nil _) ?_
        refine WPA.putS ?_
        first | refine WPA.takeP 2 rfl (q_nilP rfl) (by kernel_rfl) (by kernel_rfl) (by kernel_rfl) rfl rfl (.nil _) ?_ | refine WPA.takeP 2 rfl (q_nilF rfl) (by kernel_rfl) (by kernel_rfl) (by kernel_rfl) rfl rfl (.nil _) ?_
        refine WPA.putS ?_
        first | refine WPA.takeP 3 rfl (q_faK fa_elect_Node_Yes rfl) (by kernel_rfl) (by kernel_rfl) (by kernel_rfl) rfl rfl (.nil _) ?_ | refine WPA.takeP 3 rfl (q_fa fa_elect_Node_Yes rfl) (by kernel_rfl) (by kernel_rfl) (by kernel_rfl) rfl rfl (.nil _) ?_
        refine WPA.putS ?_
        first | refine WPA.takeL 4 rfl (Ent.mem (by repeat (first | exact List.Mem.head _ | apply List.Mem.tail))) (q_load1z ld_sl_int rfl (.head _) (by rfl)) (by kernel_rfl) (by kernel_rfl) (by kernel_rfl) rfl rfl (.nil _) ?_ | refine WPA.takeL 4 rfl (Ent.mem (by repeat (first | exact List.Mem.head _ | apply List.Mem.tail))) (q_load1 ld_sl_int rfl (.head _) rfl (by rfl)) (by kernel_rfl) (by kernel_rfl) (by kernel_rfl) rfl rfl (.nil _) ?_
        refine WPA.putS ?_
        first | refine WPA.takeP 5 rfl (q_faK fa_api_Msg_From rfl) (by kernel_rfl) (by kernel_rfl) (by kernel_rfl) rfl rfl (.cons (Ent.mem (by repeat (first | exact List.Mem.head _ | apply List.Mem.tail))) (.nil _)) ?_ | refine WPA.takeP 5 rfl (q_fa fa_api_Msg_From rfl) (by kernel_rfl) (by kernel_rfl) (by kernel_rfl) rfl rfl (.cons (Ent.mem (by repeat (first | exact List.Mem.head _ | apply List.Mem.tail))) (.nil _)) ?_
        refine WPA.putS ?_
        first | refine WPA.takeL 6 rfl (Ent.mem (by repeat (first | exact List.Mem.head _ | apply List.Mem.tail))) (q_load1z ld_int rfl (.head _) (by rfl)) (by kernel_rfl) (by kernel_rfl) (by kernel_rfl) rfl rfl (.cons (Ent.mem (by repeat (first | exact List.Mem.head _ | apply List.Mem.tail))) (.nil _)) ?_ | refine WPA.takeL 6 rfl (Ent.mem (by repeat (first | exact List.Mem.head _ | apply List.Mem.tail))) (q_load1 ld_int rfl (.head _) rfl (by rfl)) (by kernel_rfl) (by kernel_rfl) (by kernel_rfl) rfl rfl (.cons (Ent.mem (by repeat (first | exact List.Mem.head _ | apply List.Mem.tail))) (.nil _)) ?_
        refine WPA.putS ?_
        refine WPA.oneE 7 [(4, [_])] (by kernel_rfl) rfl rfl (by repeat (first | exact .nil | refine .anc rfl ?_ | refine .keep (by repeat (first | exact List.Mem.head _ | apply List.Mem.tail)) ?_)) (E1.wpo (e_buildSlice mk_sl_int (by decide) rfl rfl rfl) rfl ?_)
        rintro _ _ ⟨bE, rfl, rfl⟩
        refine ⟨(.cons (Ent.mem (by repeat (first | exact List.Mem.head _ | apply List.Mem.tail))) (.nil _)), ?_⟩
        refine WPA.putS ?_
        refine WPA.oneE 8 [] (by kernel_rfl) rfl rfl (by repeat (first | exact .nil | refine .anc rfl ?_ | refine .keep (by repeat (first | exact List.Mem.head _ | apply List.Mem.tail)) ?_)) (E1.wpo (e_append (n := L.yn) (m := 1) (cs := y.yes.map (.int .i64)) (news := [.int .i64 m.fr]) mk_sl_int (by decide) rfl rfl (by repeat (first | exact Pick1.here | apply Pick1.there)) (Rd.part (i := 0) (b := bE) (o := 0) (vs := [.int .i64 m.fr]) (by repeat (first | exact List.Mem.head _ | apply List.Mem.tail)) rfl rfl rfl) (by simp [Value.oneCell']) (by omega) (by omega)) rfl ?_)
        rintro _ _ ⟨a2, c2, rfl, -, rfl⟩
        rw [show y.yes.map (Value.int .i64) ++ [.int .i64 m.fr] = (y.yes ++ [m.fr]).map (.int .i64) by simp]
        refine ⟨(.nil _), ?_⟩
        refine WPA.putS ?_
        first | refine WPA.takeP 9 rfl (q_nilP rfl) (by kernel_rfl) (by kernel_rfl) (by kernel_rfl) rfl rfl (.nil _) ?_ | refine WPA.takeP 9 rfl (q_nilF rfl) (by kernel_rfl) (by kernel_rfl) (by kernel_rfl) rfl rfl (.nil _) ?_
        refine WPA.putS ?_
        first | refine WPA.takeP 10 rfl (q_faK fa_elect_Node_Yes rfl) (by kernel_rfl) (by kernel_rfl) (by kernel_rfl) rfl rfl (.nil _) ?_ | refine WPA.takeP 10 rfl (q_fa fa_elect_Node_Yes rfl) (by kernel_rfl) (by kernel_rfl) (by kernel_rfl) rfl rfl (.nil _) ?_
        refine WPA.putS ?_
        refine WPA.oneE 11 [] (by kernel_rfl) rfl rfl (by repeat (first | exact .nil | refine .anc rfl ?_ | refine .keep (by repeat (first | exact List.Mem.head _ | apply List.Mem.tail)) ?_)) (S1.wpo (s_store1k sz_sl_int rfl rfl rfl rfl (by repeat (first | exact Upd.here | apply Upd.there)) (by repeat constructor)) rfl ?_)
        refine ⟨(.nil _), ?_⟩
        refine WPA.putN ?_
        refine WPA.done (by kernel_rfl) ?_
        refine WPC.imp (Imp.pick (Δ := [buf 1 (({ L with ya := a2, yn := L.yn + 1, yc := c2 } : NL)).ya (({ L with ya := a2, yn := L.yn + 1, yc := c2 } : NL)).yn (({ L with ya := a2, yn := L.yn + 1, yc := c2 } : NL)).yc ((({ y with yes := y.yes ++ [m.fr] } : EN)).yes.map (.int .i64)), cells true b o (nodeC ({ y with yes := y.yes ++ [m.fr] } : EN) ({ L with ya := a2, yn := L.yn + 1, yc := c2 } : NL)), sl false (({ L with ya := a2, yn := L.yn + 1, yc := c2 } : NL)).ca ((({ y with yes := y.yes ++ [m.fr] } : EN)).conf.map (.int .i64)), sl false (({ L with ya := a2, yn := L.yn + 1, yc := c2 } : NL)).ea ((({ y with yes := y.yes ++ [m.fr] } : EN)).es.flatMap encE), cells true (({ L with ya := a2, yn := L.yn + 1, yc := c2 } : NL)).na 0 ((({ y with yes := y.yes ++ [m.fr] } : EN)).next.map (.int .u64)), cells true (({ L with ya := a2, yn := L.yn + 1, yc := c2 } : NL)).ma 0 ((({ y with yes := y.yes ++ [m.fr] } : EN)).mtch.map (.int .u64)), cells true b1 0 (encM m)]) (by repeat (first | exact Pick.nil | apply Pick.keep (by repeat (first | exact List.Mem.head _ | apply List.Mem.tail)) (by first | exact Pers.cells _ _ _ | exact Pers.slv _ _ _) | apply Pick.cons (by repeat (first | exact Pick1.here | apply Pick1.there))))) ?_
        refine WPC.bufOpen fun sp hyok hsp => ?_
        refine WPC.seq ?_
        refine WPC.seqD mixed ?_
        refine WPA.takeP 0 rfl (q_move rfl) (by kernel_rfl) (by kernel_rfl) (by kernel_rfl) rfl rfl (.nil _) ?_
        refine WPA.putS ?_
        first | refine WPA.takeP 1 rfl (q_nilP rfl) (by kernel_rfl) (by kernel_rfl) (by kernel_rfl) rfl rfl (.nil _) ?_ | refine WPA.takeP 1 rfl (q_nilF rfl) (by kernel_rfl) (by kernel_rfl) (by kernel_rfl) rfl rfl (.nil _) ?_
        refine WPA.putS ?_
        first | refine WPA.takeP 2 rfl (q_faK fa_elect_Node_Conf rfl) (by kernel_rfl) (by kernel_rfl) (by kernel_rfl) rfl rfl (.nil _) ?_ | refine WPA.takeP 2 rfl (q_fa fa_elect_Node_Conf rfl) (by kernel_rfl) (by kernel_rfl) (by kernel_rfl) rfl rfl (.nil _) ?_
        refine WPA.putS ?_
        first | refine WPA.takeL 3 rfl (Ent.mem (by repeat (first | exact List.Mem.head _ | apply List.Mem.tail))) (q_load1z ld_sl_int rfl (.head _) (by rfl)) (by kernel_rfl) (by kernel_rfl) (by kernel_rfl) rfl rfl (.nil _) ?_ | refine WPA.takeL 3 rfl (Ent.mem (by repeat (first | exact List.Mem.head _ | apply List.Mem.tail))) (q_load1 ld_sl_int rfl (.head _) rfl (by rfl)) (by kernel_rfl) (by kernel_rfl) (by kernel_rfl) rfl rfl (.nil _) ?_
        refine WPA.putS ?_
        refine WPA.takeP 4 rfl (q_move rfl) (by kernel_rfl) (by kernel_rfl) (by kernel_rfl) rfl rfl (.cons (Ent.mem (by repeat (first | exact List.Mem.head _ | apply List.Mem.tail))) (.nil _)) ?_
        refine WPA.putS ?_
        first | refine WPA.takeP 5 rfl (q_nilP rfl) (by kernel_rfl) (by kernel_rfl) (by kernel_rfl) rfl rfl (.cons (Ent.mem (by repeat (first | exact List.Mem.head _ | apply List.Mem.tail))) (.nil _)) ?_ | refine WPA.takeP 5 rfl (q_nilF rfl) (by kernel_rfl) (by kernel_rfl) (by kernel_rfl) rfl rfl (.cons (Ent.mem (by repeat (first | exact List.Mem.head _ | apply List.Mem.tail))) (.nil _)) ?_
        refine WPA.putS ?_
        first | refine WPA.takeP 6 rfl (q_faK fa_elect_Node_Yes rfl) (by kernel_rfl) (by kernel_rfl) (by kernel_rfl) rfl rfl (.cons (Ent.mem (by repeat (first | exact List.Mem.head _ | apply List.Mem.tail))) (.nil _)) ?_ | refine WPA.takeP 6 rfl (q_fa fa_elect_Node_Yes rfl) (by kernel_rfl) (by kernel_rfl) (by kernel_rfl) rfl rfl (.cons (Ent.mem (by repeat (first | exact List.Mem.head _ | apply List.Mem.tail))) (.nil _)) ?_
        refine WPA.putS ?_
        first | refine WPA.takeL 7 rfl (Ent.mem (by repeat (first | exact List.Mem.head _ | apply List.Mem.tail))) (q_load1z ld_sl_int rfl (.head _) (by rfl)) (by kernel_rfl) (by kernel_rfl) (by kernel_rfl) rfl rfl (.cons (Ent.mem (by repeat (first | exact List.Mem.head _ | apply List.Mem.tail))) (.nil _)) ?_ | refine WPA.takeL 7 rfl (Ent.mem (by repeat (first | exact List.Mem.head _ | apply List.Mem.tail))) (q_load1 ld_sl_int rfl (.head _) rfl (by rfl)) (by kernel_rfl) (by kernel_rfl) (by kernel_rfl) rfl rfl (.cons (Ent.mem (by repeat (first | exact List.Mem.head _ | apply List.Mem.tail))) (.nil _)) ?_
        refine WPA.putS ?_
        refine WPA.oneE 8 [] (by kernel_rfl) rfl rfl (by repeat (first | exact .nil | refine .anc rfl ?_ | refine .keep (by repeat (first | exact List.Mem.head _ | apply List.Mem.tail)) ?_)) (C1.call (c_call Try.func31 rfl rfl rfl) (c_Agrees (ys := y.yes ++ [m.fr]) hL.c hyok hL.cn (by dsimp only; omega)) (by repeat (first | exact Pick.nil | apply Pick.keep (by repeat (first | exact List.Mem.head _ | apply List.Mem.tail)) (by first | exact Pers.cells _ _ _ | exact Pers.slv _ _ _) | apply Pick.cons (by repeat (first | exact Pick1.here | apply Pick1.there)))) rfl ?_)
        rintro _ _ ⟨rfl, rfl⟩
        refine ⟨(.nil _), ?_⟩
        refine WPA.putS ?_
        refine WPA.takeP 9 rfl (q_not rfl) (by kernel_rfl) (by kernel_rfl) (by kernel_rfl) rfl rfl (.nil _) ?_
        refine WPA.putS ?_
        refine WPA.done (by kernel_rfl) ?_
        refine WPC.imp ((Imp.pick (Δ := sl true (({ L with ya := a2, yn := L.yn + 1, yc := c2 } : NL)).ya ((({ y with yes := y.yes ++ [m.fr] } : EN)).yes.map (Value.int .i64)) :: cells true (blk (({ L with ya := a2, yn := L.yn + 1, yc := c2 } : NL)).ya) (off (({ L with ya := a2, yn := L.yn + 1, yc := c2 } : NL)).ya + (((({ y with yes := y.yes ++ [m.fr] } : EN)).yes.map (Value.int .i64))).length) sp :: [cells true b o (nodeC ({ y with yes := y.yes ++ [m.fr] } : EN) ({ L with ya := a2, yn := L.yn + 1, yc := c2 } : NL)), sl false (({ L with ya := a2, yn := L.yn + 1, yc := c2 } : NL)).ca ((({ y with yes := y.yes ++ [m.fr] } : EN)).conf.map (.int .i64)), sl false (({ L with ya := a2, yn := L.yn + 1, yc := c2 } : NL)).ea ((({ y with yes := y.yes ++ [m.fr] } : EN)).es.flatMap encE), cells true (({ L with ya := a2, yn := L.yn + 1, yc := c2 } : NL)).na 0 ((({ y with yes := y.yes ++ [m.fr] } : EN)).next.map (.int .u64)), cells true (({ L with ya := a2, yn := L.yn + 1, yc := c2 } : NL)).ma 0 ((({ y with yes := y.yes ++ [m.fr] } : EN)).mtch.map (.int .u64)), cells true b1 0 (encM m)]) (by repeat (first | exact Pick.nil | apply Pick.keep (by repeat (first | exact List.Mem.head _ | apply List.Mem.tail)) (by first | exact Pers.cells _ _ _ | exact Pers.slv _ _ _) | apply Pick.cons (by repeat (first | exact Pick1.here | apply Pick1.there))))).trans (Imp.bufClose hyok hsp)) ?_
        refine WPC.cond rfl (fun h3 => ?_) (fun h3 => ?_)
        · try simp only [decide_eq_true_eq, decide_eq_false_iff_not, beq_iff_eq, bne_iff_ne, beq_eq_false_iff_ne, bne_eq_false_iff_eq, Bool.not_eq_true', Bool.not_eq_false', Bool.not_eq_eq_eq_not, Bool.not_true, Bool.not_false, ne_eq, Decidable.not_not, Int.not_lt, Int.not_le, gt_iff_lt, ge_iff_le] at h3
          refine WPC.seqR ?_
          refine L_s (q_assign rfl) rfl ?_
          refine WPL.nil ?_
          refine WPC.prune [(0, _), (4, _)] (by repeat (first | exact trivial | refine ⟨rfl, ?_⟩)) ?_
          refine WPC.ret ?_
          refine thenQ_r ?_
          rw [hres h0, if_pos h2, if_neg (by simp [h3])]
          exact endR_r rfl (.tmp rfl .nil) ((Imp.bufNil (sz := 10)).trans ((Imp.pick (Δ := cells true b o (nodeC ({ y with yes := y.yes ++ [m.fr] } : EN) ({ L with ya := a2, yn := L.yn + 1, yc := c2 } : NL)) :: sl false (({ L with ya := a2, yn := L.yn + 1, yc := c2 } : NL)).ca ((({ y with yes := y.yes ++ [m.fr] } : EN)).conf.map (.int .i64)) :: buf 1 (({ L with ya := a2, yn := L.yn + 1, yc := c2 } : NL)).ya (({ L with ya := a2, yn := L.yn + 1, yc := c2 } : NL)).yn (({ L with ya := a2, yn := L.yn + 1, yc := c2 } : NL)).yc ((({ y with yes := y.yes ++ [m.fr] } : EN)).yes.map (.int .i64)) :: sl false (({ L with ya := a2, yn := L.yn + 1, yc := c2 } : NL)).ea ((({ y with yes := y.yes ++ [m.fr] } : EN)).es.flatMap encE) :: cells true (({ L with ya := a2, yn := L.yn + 1, yc := c2 } : NL)).na 0 ((({ y with yes := y.yes ++ [m.fr] } : EN)).next.map (.int .u64)) :: cells true (({ L with ya := a2, yn := L.yn + 1, yc := c2 } : NL)).ma 0 ((({ y with yes := y.yes ++ [m.fr] } : EN)).mtch.map (.int .u64)) :: [buf 10 none 0 0 []]) (by repeat (first | exact Pick.nil | apply Pick.keep (by repeat (first | exact List.Mem.head _ | apply List.Mem.tail)) (by first | exact Pers.cells _ _ _ | exact Pers.slv _ _ _) | apply Pick.cons (by repeat (first | exact Pick1.here | apply Pick1.there))))).trans (enode_close (x := ({ y with yes := y.yes ++ [m.fr] } : EN)) (b := b) (o := o) ({ L with ya := a2, yn := L.yn + 1, yc := c2 } : NL) ⟨hL.c, hL.cn, hL.e, hL.en, hL.n, hL.m⟩ (Γ := [buf 10 none 0 0 []])))) ⟨none, 0, rfl, rfl⟩
        · try simp only [decide_eq_true_eq, decide_eq_false_iff_not, beq_iff_eq, bne_iff_ne, beq_eq_false_iff_ne, bne_eq_false_iff_eq, Bool.not_eq_true', Bool.not_eq_false', Bool.not_eq_eq_eq_not, Bool.not_true, Bool.not_false, ne_eq, Decidable.not_not, Int.not_lt, Int.not_le, gt_iff_lt, ge_iff_le] at h3
          refine WPC.skip ?_
          refine thenQ_n ?_
          refine WPC.seqR ?_
          refine L_s (q_move rfl) rfl ?_
          refine WPL.imp ((Imp.pick (Δ := cells true b o (nodeC ({ y with yes := y.yes ++ [m.fr] } : EN) ({ L with ya := a2, yn := L.yn + 1, yc := c2 } : NL)) :: sl false (({ L with ya := a2, yn := L.yn + 1, yc := c2 } : NL)).ca ((({ y with yes := y.yes ++ [m.fr] } : EN)).conf.map (.int .i64)) :: buf 1 (({ L with ya := a2, yn := L.yn + 1, yc := c2 } : NL)).ya (({ L with ya := a2, yn := L.yn + 1, yc := c2 } : NL)).yn (({ L with ya := a2, yn := L.yn + 1, yc := c2 } : NL)).yc ((({ y with yes := y.yes ++ [m.fr] } : EN)).yes.map (.int .i64)) :: sl false (({ L with ya := a2, yn := L.yn + 1, yc := c2 } : NL)).ea ((({ y with yes := y.yes ++ [m.fr] } : EN)).es.flatMap encE) :: cells true (({ L with ya := a2, yn := L.yn + 1, yc := c2 } : NL)).na 0 ((({ y with yes := y.yes ++ [m.fr] } : EN)).next.map (.int .u64)) :: cells true (({ L with ya := a2, yn := L.yn + 1, yc := c2 } : NL)).ma 0 ((({ y with yes := y.yes ++ [m.fr] } : EN)).mtch.map (.int .u64)) :: []) (by repeat (first | exact Pick.nil | apply Pick.keep (by repeat (first | exact List.Mem.head _ | apply List.Mem.tail)) (by first | exact Pers.cells _ _ _ | exact Pers.slv _ _ _) | apply Pick.cons (by repeat (first | exact Pick1.here | apply Pick1.there))))).trans (enode_close (x := ({ y with yes := y.yes ++ [m.fr] } : EN)) (b := b) (o := o) ({ L with ya := a2, yn := L.yn + 1, yc := c2 } : NL) ⟨hL.c, hL.cn, hL.e, hL.en, hL.n, hL.m⟩ (Γ := []))) ?_
          refine WPL.cons rfl (C1.call (c_call Try.func32 rfl rfl rfl) (c_chosen (x := ({ y with yes := y.yes ++ [m.fr] } : EN)) ⟨hyf.me, hyf.term, hyf.base, hyf.es, by simp; omega⟩ (by show y.term + 1 < _; omega)) (by repeat (first | exact Pick.nil | apply Pick.keep (by repeat (first | exact List.Mem.head _ | apply List.Mem.tail)) (by first | exact Pers.cells _ _ _ | exact Pers.slv _ _ _) | apply Pick.cons (by repeat (first | exact Pick1.here | apply Pick1.there)))) rfl ?_)
          rintro _ _ ⟨a, c, rfl, rfl⟩
          refine WPL.putS ?_
          refine L_s (q_assign rfl) rfl ?_
          refine WPL.nil ?_
          refine WPC.prune [(4, _)] (by repeat (first | exact trivial | refine ⟨rfl, ?_⟩)) ?_
          refine WPC.ret ?_
          rw [hres h0, if_pos h2, if_pos (by simpa using h3)]
          exact endR_r rfl (.tmp rfl .nil) (Imp.pick (by repeat (first | exact Pick.nil | apply Pick.keep (by repeat (first | exact List.Mem.head _ | apply List.Mem.tail)) (by first | exact Pers.cells _ _ _ | exact Pers.slv _ _ _) | apply Pick.cons (by repeat (first | exact Pick1.here | apply Pick1.there))))) ⟨a, c, rfl, rfl⟩

end Go.Sl
