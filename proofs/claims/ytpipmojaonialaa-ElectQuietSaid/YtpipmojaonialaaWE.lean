/- Walks: ElectQuiet. -/
import Derived.Test.YtpipmojaonialaaWD
namespace Go.Sl
open Go Go.RowKit Go.Proofs
set_option linter.unusedSimpArgs false
set_option linter.unusedVariables false
attribute [local irreducible] faB szB ldB zB zL slB mkB arB plB intB cells objc star stars buf slv grp whole Sat WPC WPL WPA WPO Trip

theorem c_QuietNil {ca ea : Option Addr} {cn cc en ec : Nat} {xs : List Int} {es mes : List RE} {me role vote term base bt : Int} {m : RM} (hc : Sok 1 ca cn cc (xs.map (.int .i64))) (he : Sok 3 ea en ec (es.flatMap encE)) (hm : Sok 3 m.ea m.en m.ec (mes.flatMap encE)) (hg : ¬ (right xs = true ∧ base < 1152921504606846976 ∧ (en : Int) ≤ 20 ∧ 0 ≤ me ∧ me ≤ 15 ∧ 0 ≤ role ∧ role ≤ 3 ∧ -1 ≤ vote ∧ vote ≤ 15 ∧ term < 1152921504606846976 ∧ ((0 : Nat) : Int) ≤ 20)) : Trip Try.prog 4 #[.int .i64 me, .slice ca cn cc, .int .i64 role, .int .i64 vote, .int .u64 term, .agg #[.int .u64 base, .int .u64 bt, .slice ea en ec], .agg (encM m).toArray] [sl false ca (xs.map (.int .i64)), sl false ea (es.flatMap encE), sl false m.ea (mes.flatMap encE)] fun r Δ => r = .bool true ∧ Δ = [] := by
  have hy0 : Sok 1 none 0 0 (([] : List Int).map (.int .i64)) := ⟨rfl, Nat.le_refl _, .inl rfl⟩
  refine Trip.start 103 [.tmp 14] [(0, .int .i64 me), (1, .slice ca cn cc), (2, .int .i64 role), (3, .int .i64 vote), (4, .int .u64 term), (5, .agg #[.int .u64 base, .int .u64 bt, .slice ea en ec]), (6, .agg (encM m).toArray)] Try.func4 rfl Try.ntmps4 rfl ⟨rfl, rfl, rfl, rfl, rfl, rfl, rfl, trivial⟩ rfl ?_
  refine WPC.seqR ?_
  first | refine WPL.cons rfl (E1.wpo (e_boxN rfl) rfl ?_) | refine WPL.cons rfl (E1.wpo (e_box1 rfl rfl) rfl ?_)
  rintro _ _ ⟨b1, rfl, rfl⟩
  refine WPL.putS ?_
  first | refine WPL.cons rfl (E1.wpo (e_boxN rfl) rfl ?_) | refine WPL.cons rfl (E1.wpo (e_box1 rfl rfl) rfl ?_)
  rintro _ _ ⟨b2, rfl, rfl⟩
  refine WPL.putS ?_
  refine L_s (q_assign rfl) rfl ?_
  refine WPL.nil ?_
  refine WPC.seqR ?_
  refine WPL.cons rfl (C1.call (c_call Try.func5 rfl rfl rfl) c_awake (by repeat (first | exact Pick.nil | apply Pick.keep (by repeat (first | exact List.Mem.head _ | apply List.Mem.tail)) (by first | exact Pers.cells _ _ _ | exact Pers.slv _ _ _) | apply Pick.cons (by repeat (first | exact Pick1.here | apply Pick1.there)))) rfl ?_)
  rintro _ _ ⟨rfl, rfl⟩
  refine WPL.putS ?_
  refine L_s (q_assign rfl) rfl ?_
  refine WPL.nil ?_
  refine WPC.seqR ?_
  refine L_s (q_move rfl) rfl ?_
  refine L_s (q_move rfl) rfl ?_
  refine L_s (q_move rfl) rfl ?_
  refine L_s (q_move rfl) rfl ?_
  refine L_s (q_move rfl) rfl ?_
  first | refine L_s (q_loadNz (us := [_, _, _]) ld_terms_Log rfl (by repeat (first | exact List.Mem.head _ | apply List.Mem.tail)) (by exact ⟨rfl, rfl⟩)) rfl ?_ | refine L_s (q_loadNk (us := [_, _, _]) ld_terms_Log rfl (by repeat (first | exact List.Mem.head _ | apply List.Mem.tail)) (by exact ⟨rfl, rfl⟩)) rfl ?_
  refine WPL.imp (Imp.slEmpty (p := false) (a := none)) ?_
  refine WPL.cons rfl (C1.call (c_call Try.func6 rfl rfl rfl) (c_bothNil hc hy0 he hg) (by repeat (first | exact Pick.nil | apply Pick.keep (by repeat (first | exact List.Mem.head _ | apply List.Mem.tail)) (by first | exact Pers.cells _ _ _ | exact Pers.slv _ _ _) | apply Pick.cons (by repeat (first | exact Pick1.here | apply Pick1.there)))) rfl ?_)
  rintro _ _ ⟨rfl, rfl⟩
  refine WPL.putS ?_
  refine L_s (q_move rfl) rfl ?_
  refine L_s (q_extract rfl rfl) rfl ?_
  refine L_s (q_extract rfl rfl) rfl ?_
  refine L_s (q_assign rfl) rfl ?_
  refine L_s (q_assign rfl) rfl ?_
  refine WPL.nil ?_
  refine WPC.seqR ?_
  first | refine L_s (q_loadNz (us := [_, _, _, _, _, _, _, _, _, _]) ld_api_Msg rfl (by repeat (first | exact List.Mem.head _ | apply List.Mem.tail)) (by exact ⟨rfl, rfl⟩)) rfl ?_ | refine L_s (q_loadNk (us := [_, _, _, _, _, _, _, _, _, _]) ld_api_Msg rfl (by repeat (first | exact List.Mem.head _ | apply List.Mem.tail)) (by exact ⟨rfl, rfl⟩)) rfl ?_
  refine WPL.cons rfl (C1.call (c_call Try.func18 rfl rfl rfl) (c_Short11 hm) (by repeat (first | exact Pick.nil | apply Pick.keep (by repeat (first | exact List.Mem.head _ | apply List.Mem.tail)) (by first | exact Pers.cells _ _ _ | exact Pers.slv _ _ _) | apply Pick.cons (by repeat (first | exact Pick1.here | apply Pick1.there)))) rfl ?_)
  rintro _ _ ⟨t, rfl, ht, rfl⟩
  refine WPL.putS ?_
  refine L_s (q_assign rfl) rfl ?_
  refine WPL.nil ?_
  refine WPC.prune [(2, _), (3, _), (4, _), (13, _), (14, _), (15, _), (16, _), (18, _)] (by repeat (first | exact trivial | refine ⟨rfl, ?_⟩)) ?_
  refine WPC.seq ?_
  refine WPC.seqR ?_
  refine L_s (q_move rfl) rfl ?_
  first | refine L_s (q_ptNilEq un_ptr_elect_Node rfl rfl) rfl ?_ | refine L_s (q_ptNoneEq un_ptr_elect_Node rfl rfl) rfl ?_
  refine L_s (q_move rfl) rfl ?_
  apply WPL.joinO (e' := [(2, _), (3, _), (4, _), (13, _), (14, _), (15, _), (16, _)]) 36 39 3 rfl
  · intro g4_2
    try simp only [decide_eq_true_eq, decide_eq_false_iff_not, beq_iff_eq, bne_iff_ne, beq_eq_false_iff_ne, bne_eq_false_iff_eq, Bool.not_eq_true', Bool.not_eq_false', Bool.not_eq_eq_eq_not, Bool.not_true, Bool.not_false, ne_eq, Decidable.not_not, Int.not_lt, Int.not_le, gt_iff_lt, ge_iff_le] at g4_2
    refine L_no rfl rfl rfl rfl ?_
    refine L_no rfl rfl rfl rfl ?_
    first | refine L_s (q_pickT rfl rfl) rfl ?_ | refine L_s (q_pickF rfl rfl) rfl ?_
    first | exact WPL.jn rfl rfl (by repeat (first | exact trivial | refine ⟨rfl, ?_⟩)) | exact WPL.jnI rfl rfl (by repeat (first | exact trivial | refine ⟨rfl, ?_⟩)) (Imp.pick (by repeat (first | exact Pick.nil | apply Pick.keep (by repeat (first | exact List.Mem.head _ | apply List.Mem.tail)) (by first | exact Pers.cells _ _ _ | exact Pers.slv _ _ _) | apply Pick.cons (by repeat (first | exact Pick1.here | apply Pick1.there)))))
  · intro g4_2
    try simp only [decide_eq_true_eq, decide_eq_false_iff_not, beq_iff_eq, bne_iff_ne, beq_eq_false_iff_ne, bne_eq_false_iff_eq, Bool.not_eq_true', Bool.not_eq_false', Bool.not_eq_eq_eq_not, Bool.not_true, Bool.not_false, ne_eq, Decidable.not_not, Int.not_lt, Int.not_le, gt_iff_lt, ge_iff_le] at g4_2
    refine L_yes rfl rfl (q_move rfl) rfl ?_
    refine L_yes rfl rfl (q_not rfl) rfl ?_
    first | refine L_s (q_pickT rfl rfl) rfl ?_ | refine L_s (q_pickF rfl rfl) rfl ?_
    first | exact WPL.jn rfl rfl (by repeat (first | exact trivial | refine ⟨rfl, ?_⟩)) | exact WPL.jnI rfl rfl (by repeat (first | exact trivial | refine ⟨rfl, ?_⟩)) (Imp.pick (by repeat (first | exact Pick.nil | apply Pick.keep (by repeat (first | exact List.Mem.head _ | apply List.Mem.tail)) (by first | exact Pers.cells _ _ _ | exact Pers.slv _ _ _) | apply Pick.cons (by repeat (first | exact Pick1.here | apply Pick1.there)))))
  refine L_s (q_move rfl) rfl ?_
  apply WPL.joinO (e' := [(2, _), (3, _), (4, _), (13, _), (14, _), (15, _), (16, _)]) 40 44 4 rfl
  · intro g4_6
    try simp only [decide_eq_true_eq, decide_eq_false_iff_not, beq_iff_eq, bne_iff_ne, beq_eq_false_iff_ne, bne_eq_false_iff_eq, Bool.not_eq_true', Bool.not_eq_false', Bool.not_eq_eq_eq_not, Bool.not_true, Bool.not_false, ne_eq, Decidable.not_not, Int.not_lt, Int.not_le, gt_iff_lt, ge_iff_le] at g4_6
    refine L_no rfl rfl rfl rfl ?_
    refine L_no rfl rfl rfl rfl ?_
    refine L_no rfl rfl rfl rfl ?_
    first | refine L_s (q_pickT rfl rfl) rfl ?_ | refine L_s (q_pickF rfl rfl) rfl ?_
    first | exact WPL.jn rfl rfl (by repeat (first | exact trivial | refine ⟨rfl, ?_⟩)) | exact WPL.jnI rfl rfl (by repeat (first | exact trivial | refine ⟨rfl, ?_⟩)) (Imp.pick (by repeat (first | exact Pick.nil | apply Pick.keep (by repeat (first | exact List.Mem.head _ | apply List.Mem.tail)) (by first | exact Pers.cells _ _ _ | exact Pers.slv _ _ _) | apply Pick.cons (by repeat (first | exact Pick1.here | apply Pick1.there)))))
  · intro g4_6
    try simp only [decide_eq_true_eq, decide_eq_false_iff_not, beq_iff_eq, bne_iff_ne, beq_eq_false_iff_ne, bne_eq_false_iff_eq, Bool.not_eq_true', Bool.not_eq_false', Bool.not_eq_eq_eq_not, Bool.not_true, Bool.not_false, ne_eq, Decidable.not_not, Int.not_lt, Int.not_le, gt_iff_lt, ge_iff_le] at g4_6
    first | refine L_yes rfl rfl (q_faK fa_api_Msg_Kind rfl) rfl ?_ | refine L_yes rfl rfl (q_fa fa_api_Msg_Kind rfl) rfl ?_
    first | refine L_yes rfl rfl (q_load1z ld_int rfl (by repeat (first | exact List.Mem.head _ | apply List.Mem.tail)) (by rfl)) rfl ?_ | refine L_yes rfl rfl (q_load1 ld_int rfl (by repeat (first | exact List.Mem.head _ | apply List.Mem.tail)) rfl (by rfl)) rfl ?_
    refine L_yes rfl rfl (q_int rfl rfl rfl) rfl ?_
    first | refine L_s (q_pickT rfl rfl) rfl ?_ | refine L_s (q_pickF rfl rfl) rfl ?_
    first | exact WPL.jn rfl rfl (by repeat (first | exact trivial | refine ⟨rfl, ?_⟩)) | exact WPL.jnI rfl rfl (by repeat (first | exact trivial | refine ⟨rfl, ?_⟩)) (Imp.pick (by repeat (first | exact Pick.nil | apply Pick.keep (by repeat (first | exact List.Mem.head _ | apply List.Mem.tail)) (by first | exact Pers.cells _ _ _ | exact Pers.slv _ _ _) | apply Pick.cons (by repeat (first | exact Pick1.here | apply Pick1.there)))))
  refine WPL.nil ?_
  refine WPC.cond rfl (fun h0 => ?_) (fun h0 => ?_)
  · skip
    refine WPC.seqR ?_
    refine L_s (q_move rfl) rfl ?_
    refine L_s (q_assign rfl) rfl ?_
    refine WPL.nil ?_
    refine WPC.ret ?_
    refine thenQ_r ?_
    exact endR_r rfl (.tmp rfl .nil) (Imp.nil _) ⟨rfl, rfl⟩
  · try simp only [decide_eq_true_eq, decide_eq_false_iff_not, beq_iff_eq, bne_iff_ne, beq_eq_false_iff_ne, bne_eq_false_iff_eq, Bool.not_eq_true', Bool.not_eq_false', Bool.not_eq_eq_eq_not, Bool.not_true, Bool.not_false, ne_eq, Decidable.not_not, Int.not_lt, Int.not_le, gt_iff_lt, ge_iff_le] at h0
    simp at h0

theorem c_Quiet {ca ea : Option Addr} {cn cc en ec : Nat} {xs : List Int} {es mes : List RE} {me role vote term base bt : Int} {m : RM} (hc : Sok 1 ca cn cc (xs.map (.int .i64))) (he : Sok 3 ea en ec (es.flatMap encE)) (hm : Sok 3 m.ea m.en m.ec (mes.flatMap encE)) (hg : (right xs = true ∧ base < 1152921504606846976 ∧ (en : Int) ≤ 20 ∧ 0 ≤ me ∧ me ≤ 15 ∧ 0 ≤ role ∧ role ≤ 3 ∧ -1 ≤ vote ∧ vote ≤ 15 ∧ term < 1152921504606846976 ∧ ((0 : Nat) : Int) ≤ 20)) (hterm : 0 ≤ term) (hbase : 0 ≤ base) (hmt : 0 ≤ m.term) : Trip Try.prog 4 #[.int .i64 me, .slice ca cn cc, .int .i64 role, .int .i64 vote, .int .u64 term, .agg #[.int .u64 base, .int .u64 bt, .slice ea en ec], .agg (encM m).toArray] [sl false ca (xs.map (.int .i64)), sl false ea (es.flatMap encE), sl false m.ea (mes.flatMap encE)] fun r Δ => r = .bool true ∧ Δ = [] := by
  have hy0 : Sok 1 none 0 0 (([] : List Int).map (.int .i64)) := ⟨rfl, Nat.le_refl _, .inl rfl⟩
  have hel : es.length = en := by have := he.len; rw [flat_length encE_len] at this; omega
  have hxf : (EN.of me vote role xs [] term base bt es false).fits := ⟨⟨hg.2.2.2.1, by have := hg.2.2.2.2.1; show me < 16; omega⟩, ⟨hterm, by have := hg.2.2.2.2.2.2.2.2.2.1; show term < _; omega⟩, ⟨hbase, by have := hg.2.1; show base < _; omega⟩, by have := hg.2.2.1; show es.length < _; omega, by show 0 < _; omega⟩
  have hxt : (EN.of me vote role xs [] term base bt es false).term < 1152921504606846976 := hg.2.2.2.2.2.2.2.2.2.1
  refine Trip.start 103 [.tmp 14] [(0, .int .i64 me), (1, .slice ca cn cc), (2, .int .i64 role), (3, .int .i64 vote), (4, .int .u64 term), (5, .agg #[.int .u64 base, .int .u64 bt, .slice ea en ec]), (6, .agg (encM m).toArray)] Try.func4 rfl Try.ntmps4 rfl ⟨rfl, rfl, rfl, rfl, rfl, rfl, rfl, trivial⟩ rfl ?_
  refine WPC.seqR ?_
  first | refine WPL.cons rfl (E1.wpo (e_boxN rfl) rfl ?_) | refine WPL.cons rfl (E1.wpo (e_box1 rfl rfl) rfl ?_)
  rintro _ _ ⟨b1, rfl, rfl⟩
  refine WPL.putS ?_
  first | refine WPL.cons rfl (E1.wpo (e_boxN rfl) rfl ?_) | refine WPL.cons rfl (E1.wpo (e_box1 rfl rfl) rfl ?_)
  rintro _ _ ⟨b2, rfl, rfl⟩
  refine WPL.putS ?_
  refine L_s (q_assign rfl) rfl ?_
  refine WPL.nil ?_
  refine WPC.seqR ?_
  refine WPL.cons rfl (C1.call (c_call Try.func5 rfl rfl rfl) c_awake (by repeat (first | exact Pick.nil | apply Pick.keep (by repeat (first | exact List.Mem.head _ | apply List.Mem.tail)) (by first | exact Pers.cells _ _ _ | exact Pers.slv _ _ _) | apply Pick.cons (by repeat (first | exact Pick1.here | apply Pick1.there)))) rfl ?_)
  rintro _ _ ⟨rfl, rfl⟩
  refine WPL.putS ?_
  refine L_s (q_assign rfl) rfl ?_
  refine WPL.nil ?_
  refine WPC.seqR ?_
  refine L_s (q_move rfl) rfl ?_
  refine L_s (q_move rfl) rfl ?_
  refine L_s (q_move rfl) rfl ?_
  refine L_s (q_move rfl) rfl ?_
  refine L_s (q_move rfl) rfl ?_
  first | refine L_s (q_loadNz (us := [_, _, _]) ld_terms_Log rfl (by repeat (first | exact List.Mem.head _ | apply List.Mem.tail)) (by exact ⟨rfl, rfl⟩)) rfl ?_ | refine L_s (q_loadNk (us := [_, _, _]) ld_terms_Log rfl (by repeat (first | exact List.Mem.head _ | apply List.Mem.tail)) (by exact ⟨rfl, rfl⟩)) rfl ?_
  refine WPL.imp (Imp.slEmpty (p := false) (a := none)) ?_
  refine WPL.cons rfl (C1.call (c_call Try.func6 rfl rfl rfl) (c_both hc hy0 he hg) (by repeat (first | exact Pick.nil | apply Pick.keep (by repeat (first | exact List.Mem.head _ | apply List.Mem.tail)) (by first | exact Pers.cells _ _ _ | exact Pers.slv _ _ _) | apply Pick.cons (by repeat (first | exact Pick1.here | apply Pick1.there)))) rfl ?_)
  rintro _ _ ⟨bx, by_, rfl, rfl⟩
  refine WPL.putS ?_
  refine L_s (q_move rfl) rfl ?_
  refine L_s (q_extract rfl rfl) rfl ?_
  refine L_s (q_extract rfl rfl) rfl ?_
  refine L_s (q_assign rfl) rfl ?_
  refine L_s (q_assign rfl) rfl ?_
  refine WPL.nil ?_
  refine WPC.seqR ?_
  first | refine L_s (q_loadNz (us := [_, _, _, _, _, _, _, _, _, _]) ld_api_Msg rfl (by repeat (first | exact List.Mem.head _ | apply List.Mem.tail)) (by exact ⟨rfl, rfl⟩)) rfl ?_ | refine L_s (q_loadNk (us := [_, _, _, _, _, _, _, _, _, _]) ld_api_Msg rfl (by repeat (first | exact List.Mem.head _ | apply List.Mem.tail)) (by exact ⟨rfl, rfl⟩)) rfl ?_
  refine WPL.cons rfl (C1.call (c_call Try.func18 rfl rfl rfl) (c_Short11 hm) (by repeat (first | exact Pick.nil | apply Pick.keep (by repeat (first | exact List.Mem.head _ | apply List.Mem.tail)) (by first | exact Pers.cells _ _ _ | exact Pers.slv _ _ _) | apply Pick.cons (by repeat (first | exact Pick1.here | apply Pick1.there)))) rfl ?_)
  rintro _ _ ⟨t, rfl, ht, rfl⟩
  refine WPL.putS ?_
  refine L_s (q_assign rfl) rfl ?_
  refine WPL.nil ?_
  refine WPC.prune [(2, _), (3, _), (4, _), (13, _), (14, _), (15, _), (16, _), (18, _)] (by repeat (first | exact trivial | refine ⟨rfl, ?_⟩)) ?_
  refine WPC.seq ?_
  refine WPC.seqR ?_
  refine L_s (q_move rfl) rfl ?_
  first | refine L_s (q_ptNilEq un_ptr_elect_Node rfl rfl) rfl ?_ | refine L_s (q_ptNoneEq un_ptr_elect_Node rfl rfl) rfl ?_
  refine L_s (q_move rfl) rfl ?_
  apply WPL.joinO (e' := [(2, _), (3, _), (4, _), (13, _), (14, _), (15, _), (16, _)]) 36 39 3 rfl
  · intro g4_2
    try simp only [decide_eq_true_eq, decide_eq_false_iff_not, beq_iff_eq, bne_iff_ne, beq_eq_false_iff_ne, bne_eq_false_iff_eq, Bool.not_eq_true', Bool.not_eq_false', Bool.not_eq_eq_eq_not, Bool.not_true, Bool.not_false, ne_eq, Decidable.not_not, Int.not_lt, Int.not_le, gt_iff_lt, ge_iff_le] at g4_2
    refine L_no rfl rfl rfl rfl ?_
    refine L_no rfl rfl rfl rfl ?_
    first | refine L_s (q_pickT rfl rfl) rfl ?_ | refine L_s (q_pickF rfl rfl) rfl ?_
    first | exact WPL.jn rfl rfl (by repeat (first | exact trivial | refine ⟨rfl, ?_⟩)) | exact WPL.jnI rfl rfl (by repeat (first | exact trivial | refine ⟨rfl, ?_⟩)) (Imp.pick (by repeat (first | exact Pick.nil | apply Pick.keep (by repeat (first | exact List.Mem.head _ | apply List.Mem.tail)) (by first | exact Pers.cells _ _ _ | exact Pers.slv _ _ _) | apply Pick.cons (by repeat (first | exact Pick1.here | apply Pick1.there)))))
  · intro g4_2
    try simp only [decide_eq_true_eq, decide_eq_false_iff_not, beq_iff_eq, bne_iff_ne, beq_eq_false_iff_ne, bne_eq_false_iff_eq, Bool.not_eq_true', Bool.not_eq_false', Bool.not_eq_eq_eq_not, Bool.not_true, Bool.not_false, ne_eq, Decidable.not_not, Int.not_lt, Int.not_le, gt_iff_lt, ge_iff_le] at g4_2
    refine L_yes rfl rfl (q_move rfl) rfl ?_
    refine L_yes rfl rfl (q_not rfl) rfl ?_
    first | refine L_s (q_pickT rfl rfl) rfl ?_ | refine L_s (q_pickF rfl rfl) rfl ?_
    first | exact WPL.jn rfl rfl (by repeat (first | exact trivial | refine ⟨rfl, ?_⟩)) | exact WPL.jnI rfl rfl (by repeat (first | exact trivial | refine ⟨rfl, ?_⟩)) (Imp.pick (by repeat (first | exact Pick.nil | apply Pick.keep (by repeat (first | exact List.Mem.head _ | apply List.Mem.tail)) (by first | exact Pers.cells _ _ _ | exact Pers.slv _ _ _) | apply Pick.cons (by repeat (first | exact Pick1.here | apply Pick1.there)))))
  refine L_s (q_move rfl) rfl ?_
  apply WPL.joinO (e' := [(2, _), (3, _), (4, _), (13, _), (14, _), (15, _), (16, _)]) 40 44 4 rfl
  · intro g4_6
    try simp only [decide_eq_true_eq, decide_eq_false_iff_not, beq_iff_eq, bne_iff_ne, beq_eq_false_iff_ne, bne_eq_false_iff_eq, Bool.not_eq_true', Bool.not_eq_false', Bool.not_eq_eq_eq_not, Bool.not_true, Bool.not_false, ne_eq, Decidable.not_not, Int.not_lt, Int.not_le, gt_iff_lt, ge_iff_le] at g4_6
    refine L_no rfl rfl rfl rfl ?_
    refine L_no rfl rfl rfl rfl ?_
    refine L_no rfl rfl rfl rfl ?_
    first | refine L_s (q_pickT rfl rfl) rfl ?_ | refine L_s (q_pickF rfl rfl) rfl ?_
    first | exact WPL.jn rfl rfl (by repeat (first | exact trivial | refine ⟨rfl, ?_⟩)) | exact WPL.jnI rfl rfl (by repeat (first | exact trivial | refine ⟨rfl, ?_⟩)) (Imp.pick (by repeat (first | exact Pick.nil | apply Pick.keep (by repeat (first | exact List.Mem.head _ | apply List.Mem.tail)) (by first | exact Pers.cells _ _ _ | exact Pers.slv _ _ _) | apply Pick.cons (by repeat (first | exact Pick1.here | apply Pick1.there)))))
  · intro g4_6
    try simp only [decide_eq_true_eq, decide_eq_false_iff_not, beq_iff_eq, bne_iff_ne, beq_eq_false_iff_ne, bne_eq_false_iff_eq, Bool.not_eq_true', Bool.not_eq_false', Bool.not_eq_eq_eq_not, Bool.not_true, Bool.not_false, ne_eq, Decidable.not_not, Int.not_lt, Int.not_le, gt_iff_lt, ge_iff_le] at g4_6
    first | refine L_yes rfl rfl (q_faK fa_api_Msg_Kind rfl) rfl ?_ | refine L_yes rfl rfl (q_fa fa_api_Msg_Kind rfl) rfl ?_
    first | refine L_yes rfl rfl (q_load1z ld_int rfl (by repeat (first | exact List.Mem.head _ | apply List.Mem.tail)) (by rfl)) rfl ?_ | refine L_yes rfl rfl (q_load1 ld_int rfl (by repeat (first | exact List.Mem.head _ | apply List.Mem.tail)) rfl (by rfl)) rfl ?_
    refine L_yes rfl rfl (q_int rfl rfl rfl) rfl ?_
    first | refine L_s (q_pickT rfl rfl) rfl ?_ | refine L_s (q_pickF rfl rfl) rfl ?_
    first | exact WPL.jn rfl rfl (by repeat (first | exact trivial | refine ⟨rfl, ?_⟩)) | exact WPL.jnI rfl rfl (by repeat (first | exact trivial | refine ⟨rfl, ?_⟩)) (Imp.pick (by repeat (first | exact Pick.nil | apply Pick.keep (by repeat (first | exact List.Mem.head _ | apply List.Mem.tail)) (by first | exact Pers.cells _ _ _ | exact Pers.slv _ _ _) | apply Pick.cons (by repeat (first | exact Pick1.here | apply Pick1.there)))))
  refine WPL.nil ?_
  refine WPC.cond rfl (fun h0 => ?_) (fun h0 => ?_)
  · skip
    refine WPC.seqR ?_
    refine L_s (q_move rfl) rfl ?_
    refine L_s (q_assign rfl) rfl ?_
    refine WPL.nil ?_
    refine WPC.ret ?_
    refine thenQ_r ?_
    exact endR_r rfl (.tmp rfl .nil) (Imp.nil _) ⟨rfl, rfl⟩
  · simp only [Bool.or_eq_false_iff, Bool.not_eq_false', bne_eq_false_iff_eq] at h0
    have hk := h0.2
    have hs := ht h0.1.2
    have hon : EN.onAsk (EN.of me vote role xs [] term base bt es false) m = ((EN.of me vote role xs [] term base bt es false), [(⟨4, me, m.fr, if (EN.of me vote role xs [] term base bt es false).newer m && (EN.of me vote role xs [] term base bt es false).would m then m.term else term, 0, 0, 0, (EN.of me vote role xs [] term base bt es false).newer m && (EN.of me vote role xs [] term base bt es false).would m, none, 0, 0, none, 0, 0⟩ : RM)]) := by unfold EN.onAsk; rw [if_neg (by omega), if_pos hk]; rfl
    have han : EN.onAnswer (EN.of me vote role xs [] term base bt es false) m = ((EN.of me vote role xs [] term base bt es false), []) := by unfold EN.onAnswer; rw [if_neg (by omega)]
    refine WPC.skip ?_
    refine thenQ_n ?_
    refine WPC.seqR ?_
    refine L_s (q_move rfl) rfl ?_
    first | refine L_s (q_loadNz (us := [_, _, _, _, _, _, _, _, _, _]) ld_api_Msg rfl (by repeat (first | exact List.Mem.head _ | apply List.Mem.tail)) (by exact ⟨rfl, rfl⟩)) rfl ?_ | refine L_s (q_loadNk (us := [_, _, _, _, _, _, _, _, _, _]) ld_api_Msg rfl (by repeat (first | exact List.Mem.head _ | apply List.Mem.tail)) (by exact ⟨rfl, rfl⟩)) rfl ?_
    refine WPL.cons rfl (C1.call (c_call Try.func19 rfl rfl rfl) (show Trip _ _ _ _ (fun r Δ => ∃ (a : Option Addr) (c : Nat), r = .slice a 1 c ∧ Δ = [enode bx 0 (EN.of me vote role xs [] term base bt es false), buf 10 a 1 c ([(⟨4, me, m.fr, if (EN.of me vote role xs [] term base bt es false).newer m && (EN.of me vote role xs [] term base bt es false).would m then m.term else term, 0, 0, 0, (EN.of me vote role xs [] term base bt es false).newer m && (EN.of me vote role xs [] term base bt es false).would m, none, 0, 0, none, 0, 0⟩ : RM)].flatMap encM)]) from by have := c_OnAsk (b := bx) (o := 0) (x := (EN.of me vote role xs [] term base bt es false)) (m := m) hxf ⟨by omega, by omega⟩ ⟨hmt, hs.2⟩; rw [hon] at this; exact this) (by repeat (first | exact Pick.nil | apply Pick.keep (by repeat (first | exact List.Mem.head _ | apply List.Mem.tail)) (by first | exact Pers.cells _ _ _ | exact Pers.slv _ _ _) | apply Pick.cons (by repeat (first | exact Pick1.here | apply Pick1.there)))) rfl ?_)
    rintro _ _ ⟨a1, c1, rfl, rfl⟩
    refine WPL.putS ?_
    refine L_s (q_assign rfl) rfl ?_
    refine WPL.nil ?_
    refine WPC.seqR ?_
    refine L_s (q_move rfl) rfl ?_
    first | refine L_s (q_loadNz (us := [_, _, _, _, _, _, _, _, _, _]) ld_api_Msg rfl (by repeat (first | exact List.Mem.head _ | apply List.Mem.tail)) (by exact ⟨rfl, rfl⟩)) rfl ?_ | refine L_s (q_loadNk (us := [_, _, _, _, _, _, _, _, _, _]) ld_api_Msg rfl (by repeat (first | exact List.Mem.head _ | apply List.Mem.tail)) (by exact ⟨rfl, rfl⟩)) rfl ?_
    refine WPL.cons rfl (C1.call (c_call Try.func20 rfl rfl rfl) (show Trip _ _ _ _ (fun r Δ => ∃ (a : Option Addr) (c : Nat), r = .slice a 0 c ∧ Δ = [enode bx 0 (EN.of me vote role xs [] term base bt es false), buf 10 a 0 c []]) from by have := c_OnAnswer (b := bx) (o := 0) (x := (EN.of me vote role xs [] term base bt es false)) (m := m) hxf hxt ⟨hmt, hs.2⟩ (by show 0 < _; omega); rw [han] at this; exact this) (by repeat (first | exact Pick.nil | apply Pick.keep (by repeat (first | exact List.Mem.head _ | apply List.Mem.tail)) (by first | exact Pers.cells _ _ _ | exact Pers.slv _ _ _) | apply Pick.cons (by repeat (first | exact Pick1.here | apply Pick1.there)))) rfl ?_)
    rintro _ _ ⟨a2, c2, rfl, rfl⟩
    refine WPL.putS ?_
    refine WPL.imp (Imp.pick (Δ := [buf 10 a1 1 c1 ([(⟨4, me, m.fr, if (EN.of me vote role xs [] term base bt es false).newer m && (EN.of me vote role xs [] term base bt es false).would m then m.term else term, 0, 0, 0, (EN.of me vote role xs [] term base bt es false).newer m && (EN.of me vote role xs [] term base bt es false).would m, none, 0, 0, none, 0, 0⟩ : RM)].flatMap encM), enode bx 0 (EN.of me vote role xs [] term base bt es false), cells true b2 0 (encM m)]) (by repeat (first | exact Pick.nil | apply Pick.keep (by repeat (first | exact List.Mem.head _ | apply List.Mem.tail)) (by first | exact Pers.cells _ _ _ | exact Pers.slv _ _ _) | apply Pick.cons (by repeat (first | exact Pick1.here | apply Pick1.there))))) ?_
    refine WPL.bufRo fun hsa => ?_
    have hp1 : Pl a1 := hsa.at (by omega) (by omega)
    refine WPL.imp (Imp.perm (.swap _ _ _)) ?_
    refine WPL.exg (L := fun N => enodeL bx 0 (EN.of me vote role xs [] term base bt es false) N) fun N => WPL.pure fun hN => ?_
    refine L_s (q_assign rfl) rfl ?_
    refine WPL.nil ?_
    refine WPC.seqQ mixed (by kernel_rfl) ?_
    refine WPQ.cons (q_move rfl) rfl ?_
    refine WPQ.cons (q_move rfl) rfl ?_
    apply WPQ.joinA (e' := [(2, _), (3, _), (4, _), (13, _), (14, _), (16, _), (19, _), (20, _)]) 53 57 4 rfl
    · intro g8_1
      try simp only [decide_eq_true_eq, decide_eq_false_iff_not, beq_iff_eq, bne_iff_ne, beq_eq_false_iff_ne, bne_eq_false_iff_eq, Bool.not_eq_true', Bool.not_eq_false', Bool.not_eq_eq_eq_not, Bool.not_true, Bool.not_false, ne_eq, Decidable.not_not, Int.not_lt, Int.not_le, gt_iff_lt, ge_iff_le] at g8_1
      refine WPQ.yes rfl rfl (q_move rfl) rfl ?_
      refine WPQ.yes rfl rfl (q_len rfl un_sl_api_Msg rfl) rfl ?_
      refine WPQ.yes rfl rfl (q_int rfl rfl rfl) rfl ?_
      first | refine WPQ.cons (q_pickT rfl rfl) rfl ?_ | refine WPQ.cons (q_pickF rfl rfl) rfl ?_
      exact WPQ.jn rfl rfl (by repeat (first | exact trivial | refine ⟨rfl, ?_⟩))
    · intro g8_1
      try simp only [decide_eq_true_eq, decide_eq_false_iff_not, beq_iff_eq, bne_iff_ne, beq_eq_false_iff_ne, bne_eq_false_iff_eq, Bool.not_eq_true', Bool.not_eq_false', Bool.not_eq_eq_eq_not, Bool.not_true, Bool.not_false, ne_eq, Decidable.not_not, Int.not_lt, Int.not_le, gt_iff_lt, ge_iff_le] at g8_1
      refine WPQ.no rfl rfl rfl rfl ?_
      refine WPQ.no rfl rfl rfl rfl ?_
      refine WPQ.no rfl rfl rfl rfl ?_
      first | refine WPQ.cons (q_pickT rfl rfl) rfl ?_ | refine WPQ.cons (q_pickF rfl rfl) rfl ?_
      exact WPQ.jn rfl rfl (by repeat (first | exact trivial | refine ⟨rfl, ?_⟩))
    refine WPQ.cons (q_move rfl) rfl ?_
    apply WPQ.joinA (e' := [(2, _), (3, _), (4, _), (13, _), (14, _), (16, _), (19, _)]) 58 62 4 rfl
    · intro g8_6
      try simp only [decide_eq_true_eq, decide_eq_false_iff_not, beq_iff_eq, bne_iff_ne, beq_eq_false_iff_ne, bne_eq_false_iff_eq, Bool.not_eq_true', Bool.not_eq_false', Bool.not_eq_eq_eq_not, Bool.not_true, Bool.not_false, ne_eq, Decidable.not_not, Int.not_lt, Int.not_le, gt_iff_lt, ge_iff_le] at g8_6
      refine WPQ.yes rfl rfl (q_move rfl) rfl ?_
      refine WPQ.yes rfl rfl (q_len rfl un_sl_api_Msg rfl) rfl ?_
      refine WPQ.yes rfl rfl (q_int rfl rfl rfl) rfl ?_
      first | refine WPQ.cons (q_pickT rfl rfl) rfl ?_ | refine WPQ.cons (q_pickF rfl rfl) rfl ?_
      exact WPQ.jn rfl rfl (by repeat (first | exact trivial | refine ⟨rfl, ?_⟩))
    · intro g8_6
      try simp only [decide_eq_true_eq, decide_eq_false_iff_not, beq_iff_eq, bne_iff_ne, beq_eq_false_iff_ne, bne_eq_false_iff_eq, Bool.not_eq_true', Bool.not_eq_false', Bool.not_eq_eq_eq_not, Bool.not_true, Bool.not_false, ne_eq, Decidable.not_not, Int.not_lt, Int.not_le, gt_iff_lt, ge_iff_le] at g8_6
      refine WPQ.no rfl rfl rfl rfl ?_
      refine WPQ.no rfl rfl rfl rfl ?_
      refine WPQ.no rfl rfl rfl rfl ?_
      first | refine WPQ.cons (q_pickT rfl rfl) rfl ?_ | refine WPQ.cons (q_pickF rfl rfl) rfl ?_
      exact WPQ.jn rfl rfl (by repeat (first | exact trivial | refine ⟨rfl, ?_⟩))
    refine WPQ.cons (q_move rfl) rfl ?_
    apply WPQ.joinA (e' := [(2, _), (3, _), (13, _), (14, _), (16, _), (19, _)]) 63 70 7 rfl
    · intro g8_11
      try simp only [decide_eq_true_eq, decide_eq_false_iff_not, beq_iff_eq, bne_iff_ne, beq_eq_false_iff_ne, bne_eq_false_iff_eq, Bool.not_eq_true', Bool.not_eq_false', Bool.not_eq_eq_eq_not, Bool.not_true, Bool.not_false, ne_eq, Decidable.not_not, Int.not_lt, Int.not_le, gt_iff_lt, ge_iff_le] at g8_11
      refine WPQ.yes rfl rfl (q_move rfl) rfl ?_
      first | refine WPQ.yes rfl rfl (q_nilP rfl) rfl ?_ | refine WPQ.yes rfl rfl (q_nilF rfl) rfl ?_
      first | refine WPQ.yes rfl rfl (q_faK fa_elect_Node_Term rfl) rfl ?_ | refine WPQ.yes rfl rfl (q_fa fa_elect_Node_Term rfl) rfl ?_
      first | refine WPQ.yes rfl rfl (q_load1z ld_uint64 rfl (by repeat (first | exact List.Mem.head _ | apply List.Mem.tail)) (by rfl)) rfl ?_ | refine WPQ.yes rfl rfl (q_load1 ld_uint64 rfl (by repeat (first | exact List.Mem.head _ | apply List.Mem.tail)) rfl (by rfl)) rfl ?_
      refine WPQ.yes rfl rfl (q_move rfl) rfl ?_
      refine WPQ.yes rfl rfl (q_int rfl rfl rfl) rfl ?_
      first | refine WPQ.cons (q_pickT rfl rfl) rfl ?_ | refine WPQ.cons (q_pickF rfl rfl) rfl ?_
      exact WPQ.jn rfl rfl (by repeat (first | exact trivial | refine ⟨rfl, ?_⟩))
    · intro g8_11
      try simp only [decide_eq_true_eq, decide_eq_false_iff_not, beq_iff_eq, bne_iff_ne, beq_eq_false_iff_ne, bne_eq_false_iff_eq, Bool.not_eq_true', Bool.not_eq_false', Bool.not_eq_eq_eq_not, Bool.not_true, Bool.not_false, ne_eq, Decidable.not_not, Int.not_lt, Int.not_le, gt_iff_lt, ge_iff_le] at g8_11
      refine WPQ.no rfl rfl rfl rfl ?_
      refine WPQ.no rfl rfl rfl rfl ?_
      refine WPQ.no rfl rfl rfl rfl ?_
      refine WPQ.no rfl rfl rfl rfl ?_
      refine WPQ.no rfl rfl rfl rfl ?_
      refine WPQ.no rfl rfl rfl rfl ?_
      first | refine WPQ.cons (q_pickT rfl rfl) rfl ?_ | refine WPQ.cons (q_pickF rfl rfl) rfl ?_
      exact WPQ.jn rfl rfl (by repeat (first | exact trivial | refine ⟨rfl, ?_⟩))
    refine WPQ.cons (q_move rfl) rfl ?_
    apply WPQ.joinA (e' := [(2, _), (13, _), (14, _), (16, _), (19, _)]) 71 78 7 rfl
    · intro g8_19
      try simp only [decide_eq_true_eq, decide_eq_false_iff_not, beq_iff_eq, bne_iff_ne, beq_eq_false_iff_ne, bne_eq_false_iff_eq, Bool.not_eq_true', Bool.not_eq_false', Bool.not_eq_eq_eq_not, Bool.not_true, Bool.not_false, ne_eq, Decidable.not_not, Int.not_lt, Int.not_le, gt_iff_lt, ge_iff_le] at g8_19
      refine WPQ.yes rfl rfl (q_move rfl) rfl ?_
      first | refine WPQ.yes rfl rfl (q_nilP rfl) rfl ?_ | refine WPQ.yes rfl rfl (q_nilF rfl) rfl ?_
      first | refine WPQ.yes rfl rfl (q_faK fa_elect_Node_Vote rfl) rfl ?_ | refine WPQ.yes rfl rfl (q_fa fa_elect_Node_Vote rfl) rfl ?_
      first | refine WPQ.yes rfl rfl (q_load1z ld_int rfl (by repeat (first | exact List.Mem.head _ | apply List.Mem.tail)) (by rfl)) rfl ?_ | refine WPQ.yes rfl rfl (q_load1 ld_int rfl (by repeat (first | exact List.Mem.head _ | apply List.Mem.tail)) rfl (by rfl)) rfl ?_
      refine WPQ.yes rfl rfl (q_move rfl) rfl ?_
      refine WPQ.yes rfl rfl (q_int rfl rfl rfl) rfl ?_
      first | refine WPQ.cons (q_pickT rfl rfl) rfl ?_ | refine WPQ.cons (q_pickF rfl rfl) rfl ?_
      exact WPQ.jn rfl rfl (by repeat (first | exact trivial | refine ⟨rfl, ?_⟩))
    · intro g8_19
      try simp only [decide_eq_true_eq, decide_eq_false_iff_not, beq_iff_eq, bne_iff_ne, beq_eq_false_iff_ne, bne_eq_false_iff_eq, Bool.not_eq_true', Bool.not_eq_false', Bool.not_eq_eq_eq_not, Bool.not_true, Bool.not_false, ne_eq, Decidable.not_not, Int.not_lt, Int.not_le, gt_iff_lt, ge_iff_le] at g8_19
      refine WPQ.no rfl rfl rfl rfl ?_
      refine WPQ.no rfl rfl rfl rfl ?_
      refine WPQ.no rfl rfl rfl rfl ?_
      refine WPQ.no rfl rfl rfl rfl ?_
      refine WPQ.no rfl rfl rfl rfl ?_
      refine WPQ.no rfl rfl rfl rfl ?_
      first | refine WPQ.cons (q_pickT rfl rfl) rfl ?_ | refine WPQ.cons (q_pickF rfl rfl) rfl ?_
      exact WPQ.jn rfl rfl (by repeat (first | exact trivial | refine ⟨rfl, ?_⟩))
    refine WPQ.cons (q_move rfl) rfl ?_
    apply WPQ.joinA (e' := [(13, _), (14, _), (19, _)]) 79 86 7 rfl
    · intro g8_27
      try simp only [decide_eq_true_eq, decide_eq_false_iff_not, beq_iff_eq, bne_iff_ne, beq_eq_false_iff_ne, bne_eq_false_iff_eq, Bool.not_eq_true', Bool.not_eq_false', Bool.not_eq_eq_eq_not, Bool.not_true, Bool.not_false, ne_eq, Decidable.not_not, Int.not_lt, Int.not_le, gt_iff_lt, ge_iff_le] at g8_27
      refine WPQ.yes rfl rfl (q_move rfl) rfl ?_
      first | refine WPQ.yes rfl rfl (q_nilP rfl) rfl ?_ | refine WPQ.yes rfl rfl (q_nilF rfl) rfl ?_
      first | refine WPQ.yes rfl rfl (q_faK fa_elect_Node_Role rfl) rfl ?_ | refine WPQ.yes rfl rfl (q_fa fa_elect_Node_Role rfl) rfl ?_
      first | refine WPQ.yes rfl rfl (q_load1z ld_int rfl (by repeat (first | exact List.Mem.head _ | apply List.Mem.tail)) (by rfl)) rfl ?_ | refine WPQ.yes rfl rfl (q_load1 ld_int rfl (by repeat (first | exact List.Mem.head _ | apply List.Mem.tail)) rfl (by rfl)) rfl ?_
      refine WPQ.yes rfl rfl (q_move rfl) rfl ?_
      refine WPQ.yes rfl rfl (q_int rfl rfl rfl) rfl ?_
      first | refine WPQ.cons (q_pickT rfl rfl) rfl ?_ | refine WPQ.cons (q_pickF rfl rfl) rfl ?_
      exact WPQ.jn rfl rfl (by repeat (first | exact trivial | refine ⟨rfl, ?_⟩))
    · intro g8_27
      try simp only [decide_eq_true_eq, decide_eq_false_iff_not, beq_iff_eq, bne_iff_ne, beq_eq_false_iff_ne, bne_eq_false_iff_eq, Bool.not_eq_true', Bool.not_eq_false', Bool.not_eq_eq_eq_not, Bool.not_true, Bool.not_false, ne_eq, Decidable.not_not, Int.not_lt, Int.not_le, gt_iff_lt, ge_iff_le] at g8_27
      refine WPQ.no rfl rfl rfl rfl ?_
      refine WPQ.no rfl rfl rfl rfl ?_
      refine WPQ.no rfl rfl rfl rfl ?_
      refine WPQ.no rfl rfl rfl rfl ?_
      refine WPQ.no rfl rfl rfl rfl ?_
      refine WPQ.no rfl rfl rfl rfl ?_
      first | refine WPQ.cons (q_pickT rfl rfl) rfl ?_ | refine WPQ.cons (q_pickF rfl rfl) rfl ?_
      exact WPQ.jn rfl rfl (by repeat (first | exact trivial | refine ⟨rfl, ?_⟩))
    refine WPQ.cons (q_move rfl) rfl ?_
    apply WPQ.joinA (e' := [(13, _), (14, _), (19, _)]) 87 93 6 rfl
    · intro g8_35
      try simp only [decide_eq_true_eq, decide_eq_false_iff_not, beq_iff_eq, bne_iff_ne, beq_eq_false_iff_ne, bne_eq_false_iff_eq, Bool.not_eq_true', Bool.not_eq_false', Bool.not_eq_eq_eq_not, Bool.not_true, Bool.not_false, ne_eq, Decidable.not_not, Int.not_lt, Int.not_le, gt_iff_lt, ge_iff_le] at g8_35
      refine WPQ.yes rfl rfl (q_move rfl) rfl ?_
      first | refine WPQ.yes rfl rfl (q_idxN sl_sl_api_Msg rfl rfl (by omega) (by assumption)) rfl ?_ | refine WPQ.yes rfl rfl (q_idx sl_sl_api_Msg rfl rfl (by omega) (by omega) (by assumption)) rfl ?_
      first | refine WPQ.yes rfl rfl (q_faK fa_api_Msg_Kind rfl) rfl ?_ | refine WPQ.yes rfl rfl (q_fa fa_api_Msg_Kind rfl) rfl ?_
      refine WPQ.yes rfl rfl (show Q1 _ _ _ _ (.int .i64 4) from q_ldFlat1 (k := 10) (i := 0) (j := 0) (e := (⟨4, me, m.fr, if (EN.of me vote role xs [] term base bt es false).newer m && (EN.of me vote role xs [] term base bt es false).would m then m.term else term, 0, 0, 0, (EN.of me vote role xs [] term base bt es false).newer m && (EN.of me vote role xs [] term base bt es false).would m, none, 0, 0, none, 0, 0⟩ : RM)) (xs := [(⟨4, me, m.fr, if (EN.of me vote role xs [] term base bt es false).newer m && (EN.of me vote role xs [] term base bt es false).would m then m.term else term, 0, 0, 0, (EN.of me vote role xs [] term base bt es false).newer m && (EN.of me vote role xs [] term base bt es false).would m, none, 0, 0, none, 0, 0⟩ : RM)]) (enc := encM) ld_int rfl (by repeat (first | exact List.Mem.head _ | apply List.Mem.tail)) encM_len rfl (by omega) rfl) rfl ?_
      refine WPQ.yes rfl rfl (q_int rfl rfl rfl) rfl ?_
      first | refine WPQ.cons (q_pickT rfl rfl) rfl ?_ | refine WPQ.cons (q_pickF rfl rfl) rfl ?_
      exact WPQ.jn rfl rfl (by repeat (first | exact trivial | refine ⟨rfl, ?_⟩))
    · intro g8_35
      try simp only [decide_eq_true_eq, decide_eq_false_iff_not, beq_iff_eq, bne_iff_ne, beq_eq_false_iff_ne, bne_eq_false_iff_eq, Bool.not_eq_true', Bool.not_eq_false', Bool.not_eq_eq_eq_not, Bool.not_true, Bool.not_false, ne_eq, Decidable.not_not, Int.not_lt, Int.not_le, gt_iff_lt, ge_iff_le] at g8_35
      refine WPQ.no rfl rfl rfl rfl ?_
      refine WPQ.no rfl rfl rfl rfl ?_
      refine WPQ.no rfl rfl rfl rfl ?_
      refine WPQ.no rfl rfl rfl rfl ?_
      refine WPQ.no rfl rfl rfl rfl ?_
      first | refine WPQ.cons (q_pickT rfl rfl) rfl ?_ | refine WPQ.cons (q_pickF rfl rfl) rfl ?_
      exact WPQ.jn rfl rfl (by repeat (first | exact trivial | refine ⟨rfl, ?_⟩))
    refine WPQ.cons (q_move rfl) rfl ?_
    apply WPQ.joinA (e' := [(14, _)]) 94 102 8 rfl
    · intro g8_42
      try simp only [decide_eq_true_eq, decide_eq_false_iff_not, beq_iff_eq, bne_iff_ne, beq_eq_false_iff_ne, bne_eq_false_iff_eq, Bool.not_eq_true', Bool.not_eq_false', Bool.not_eq_eq_eq_not, Bool.not_true, Bool.not_false, ne_eq, Decidable.not_not, Int.not_lt, Int.not_le, gt_iff_lt, ge_iff_le] at g8_42
      refine WPQ.yes rfl rfl (q_move rfl) rfl ?_
      first | refine WPQ.yes rfl rfl (q_idxN sl_sl_api_Msg rfl rfl (by omega) (by assumption)) rfl ?_ | refine WPQ.yes rfl rfl (q_idx sl_sl_api_Msg rfl rfl (by omega) (by omega) (by assumption)) rfl ?_
      first | refine WPQ.yes rfl rfl (q_faK fa_api_Msg_To rfl) rfl ?_ | refine WPQ.yes rfl rfl (q_fa fa_api_Msg_To rfl) rfl ?_
      refine WPQ.yes rfl rfl (show Q1 _ _ _ _ (.int .i64 m.fr) from q_ldFlat1 (k := 10) (i := 0) (j := 2) (e := (⟨4, me, m.fr, if (EN.of me vote role xs [] term base bt es false).newer m && (EN.of me vote role xs [] term base bt es false).would m then m.term else term, 0, 0, 0, (EN.of me vote role xs [] term base bt es false).newer m && (EN.of me vote role xs [] term base bt es false).would m, none, 0, 0, none, 0, 0⟩ : RM)) (xs := [(⟨4, me, m.fr, if (EN.of me vote role xs [] term base bt es false).newer m && (EN.of me vote role xs [] term base bt es false).would m then m.term else term, 0, 0, 0, (EN.of me vote role xs [] term base bt es false).newer m && (EN.of me vote role xs [] term base bt es false).would m, none, 0, 0, none, 0, 0⟩ : RM)]) (enc := encM) ld_int rfl (by repeat (first | exact List.Mem.head _ | apply List.Mem.tail)) encM_len rfl (by omega) rfl) rfl ?_
      first | refine WPQ.yes rfl rfl (q_faK fa_api_Msg_From rfl) rfl ?_ | refine WPQ.yes rfl rfl (q_fa fa_api_Msg_From rfl) rfl ?_
      first | refine WPQ.yes rfl rfl (q_load1z ld_int rfl (by repeat (first | exact List.Mem.head _ | apply List.Mem.tail)) (by rfl)) rfl ?_ | refine WPQ.yes rfl rfl (q_load1 ld_int rfl (by repeat (first | exact List.Mem.head _ | apply List.Mem.tail)) rfl (by rfl)) rfl ?_
      refine WPQ.yes rfl rfl (q_int rfl rfl rfl) rfl ?_
      first | refine WPQ.cons (q_pickT rfl rfl) rfl ?_ | refine WPQ.cons (q_pickF rfl rfl) rfl ?_
      exact WPQ.jn rfl rfl (by repeat (first | exact trivial | refine ⟨rfl, ?_⟩))
    · intro g8_42
      try simp only [decide_eq_true_eq, decide_eq_false_iff_not, beq_iff_eq, bne_iff_ne, beq_eq_false_iff_ne, bne_eq_false_iff_eq, Bool.not_eq_true', Bool.not_eq_false', Bool.not_eq_eq_eq_not, Bool.not_true, Bool.not_false, ne_eq, Decidable.not_not, Int.not_lt, Int.not_le, gt_iff_lt, ge_iff_le] at g8_42
      refine WPQ.no rfl rfl rfl rfl ?_
      refine WPQ.no rfl rfl rfl rfl ?_
      refine WPQ.no rfl rfl rfl rfl ?_
      refine WPQ.no rfl rfl rfl rfl ?_
      refine WPQ.no rfl rfl rfl rfl ?_
      refine WPQ.no rfl rfl rfl rfl ?_
      refine WPQ.no rfl rfl rfl rfl ?_
      first | refine WPQ.cons (q_pickT rfl rfl) rfl ?_ | refine WPQ.cons (q_pickF rfl rfl) rfl ?_
      exact WPQ.jn rfl rfl (by repeat (first | exact trivial | refine ⟨rfl, ?_⟩))
    refine WPQ.cons (q_assign rfl) rfl ?_
    refine WPQ.nil ?_
    refine WPC.ret ?_
    exact endR_r rfl (.tmp rfl .nil) (Imp.nil _) ⟨by simp [packV, EN.of], rfl⟩

end Go.Sl
