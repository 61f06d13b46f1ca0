/- Walks: JournalLost. -/
import Derived.Test.YtdbpjcplmfkgaaaDoorJR
namespace Go.Sl
open Go Go.RowKit Go.Proofs
set_option linter.unusedSimpArgs false
set_option linter.unusedVariables false
attribute [local irreducible] faB szB ldB zB zL slB mkB arB plB intB cells objc star stars buf slv grp whole Sat WPC WPL WPA WPO Trip

theorem c_LostNil {D : A} (hD : Pers D) {n : Int} {a : Option Addr} {c : Nat} {ops : List OpV} (hs : Sok 4 a ops.length c (ops.flatMap encO)) {pa : Option Addr} {pc : Nat} {ps : List Int} {marked more drop : Int} (hp : Sok 1 pa ps.length pc (ps.map (.int .i64))) (hg : ¬ (1 ≤ n ∧ n ≤ 17 ∧ ops.length ≤ 30)) : Trip Tryd.prog 4 #[.int .i64 n, .slice a ops.length c, .int .i64 marked, .slice pa ps.length pc, .int .i64 more, .int .i64 drop] [sl false a (ops.flatMap encO), tblA, D, sl false pa (ps.map (.int .i64))] fun r Δ => r = .bool true ∧ Δ = [] := by
  refine Trip.start 140 [.tmp 12] [(0, .int .i64 n), (1, .slice a ops.length c), (2, .int .i64 marked), (3, .slice pa ps.length pc), (4, .int .i64 more), (5, .int .i64 drop)] Tryd.func4 rfl Tryd.ntmps4 rfl ⟨rfl, rfl, rfl, rfl, rfl, rfl, trivial⟩ rfl ?_
  refine WPC.seqR ?_
  refine L_s (q_assign rfl) rfl ?_
  refine WPL.nil ?_
  refine WPC.seqR ?_
  refine WPL.cons rfl (C1.call (c_call Tryd.func8 rfl rfl rfl) c_awake (by repeat (first | exact Pick.nil | apply Pick.keep (by repeat (first | exact List.Mem.head _ | apply List.Mem.tail)) (by first | exact Pers.cells _ _ _ | exact Pers.slv _ _ _ | exact hD | exact Pers.bytes _) | apply Pick.cons (by repeat (first | exact Pick1.here | apply Pick1.there)))) rfl ?_)
  rintro _ _ ⟨rfl, rfl⟩
  refine WPL.putS ?_
  refine L_s (q_assign rfl) rfl ?_
  refine WPL.nil ?_
  refine WPC.seqR ?_
  refine L_s (q_move rfl) rfl ?_
  refine L_s (q_move rfl) rfl ?_
  refine WPL.cons rfl (C1.call (c_call Tryd.func9 rfl rfl rfl) (c_madeNil hD hs hg) (by repeat (first | exact Pick.nil | apply Pick.keep (by repeat (first | exact List.Mem.head _ | apply List.Mem.tail)) (by first | exact Pers.cells _ _ _ | exact Pers.slv _ _ _ | exact hD | exact Pers.bytes _) | apply Pick.cons (by repeat (first | exact Pick1.here | apply Pick1.there)))) rfl ?_)
  rintro _ _ ⟨rfl, rfl⟩
  refine WPL.putS ?_
  refine L_s (q_move rfl) rfl ?_
  refine L_s (q_extract rfl rfl) rfl ?_
  refine L_s (q_extract rfl rfl) rfl ?_
  refine L_s (q_assign rfl) rfl ?_
  refine L_s (q_assign rfl) rfl ?_
  refine WPL.nil ?_
  refine WPC.seq ?_
  refine WPC.seqR ?_
  refine L_s (q_move rfl) rfl ?_
  first | refine L_s (q_ptNilEq un_ptr_disk_Disk rfl rfl) rfl ?_ | refine L_s (q_ptNoneEq un_ptr_disk_Disk rfl rfl) rfl ?_
  refine L_s (q_move rfl) rfl ?_
  apply WPL.joinO (e' := [(0, _), (2, _), (3, _), (4, _), (5, _), (12, _), (13, _), (14, _), (15, _)]) 34 37 3 rfl
  · intro g3_2
    try simp only [decide_eq_true_eq, decide_eq_false_iff_not, beq_iff_eq, bne_iff_ne, beq_eq_false_iff_ne, bne_eq_false_iff_eq, Bool.not_eq_true', Bool.not_eq_false', Bool.not_eq_eq_eq_not, Bool.not_true, Bool.not_false, ne_eq, Decidable.not_not, Int.not_lt, Int.not_le, gt_iff_lt, ge_iff_le] at g3_2
    refine L_no rfl rfl rfl rfl ?_
    refine L_no rfl rfl rfl rfl ?_
    first | refine L_s (q_pickT rfl rfl) rfl ?_ | refine L_s (q_pickF rfl rfl) rfl ?_
    first | exact WPL.jn rfl rfl (by repeat (first | exact trivial | refine ⟨rfl, ?_⟩)) | exact WPL.jnI rfl rfl (by repeat (first | exact trivial | refine ⟨rfl, ?_⟩)) (Imp.pick (by repeat (first | exact Pick.nil | apply Pick.keep (by repeat (first | exact List.Mem.head _ | apply List.Mem.tail)) (by first | exact Pers.cells _ _ _ | exact Pers.slv _ _ _ | exact hD | exact Pers.bytes _) | apply Pick.cons (by repeat (first | exact Pick1.here | apply Pick1.there)))))
  · intro g3_2
    try simp only [decide_eq_true_eq, decide_eq_false_iff_not, beq_iff_eq, bne_iff_ne, beq_eq_false_iff_ne, bne_eq_false_iff_eq, Bool.not_eq_true', Bool.not_eq_false', Bool.not_eq_eq_eq_not, Bool.not_true, Bool.not_false, ne_eq, Decidable.not_not, Int.not_lt, Int.not_le, gt_iff_lt, ge_iff_le] at g3_2
    refine L_yes rfl rfl (q_move rfl) rfl ?_
    first | refine L_yes rfl rfl (q_ptNilEq un_ptr_journal_Journal rfl rfl) rfl ?_ | refine L_yes rfl rfl (q_ptNoneEq un_ptr_journal_Journal rfl rfl) rfl ?_
    first | refine L_s (q_pickT rfl rfl) rfl ?_ | refine L_s (q_pickF rfl rfl) rfl ?_
    first | exact WPL.jn rfl rfl (by repeat (first | exact trivial | refine ⟨rfl, ?_⟩)) | exact WPL.jnI rfl rfl (by repeat (first | exact trivial | refine ⟨rfl, ?_⟩)) (Imp.pick (by repeat (first | exact Pick.nil | apply Pick.keep (by repeat (first | exact List.Mem.head _ | apply List.Mem.tail)) (by first | exact Pers.cells _ _ _ | exact Pers.slv _ _ _ | exact hD | exact Pers.bytes _) | apply Pick.cons (by repeat (first | exact Pick1.here | apply Pick1.there)))))
  refine L_s (q_move rfl) rfl ?_
  apply WPL.joinO (e' := [(0, _), (2, _), (3, _), (4, _), (5, _), (12, _), (13, _), (14, _), (15, _)]) 38 41 3 rfl
  · intro g3_6
    try simp only [decide_eq_true_eq, decide_eq_false_iff_not, beq_iff_eq, bne_iff_ne, beq_eq_false_iff_ne, bne_eq_false_iff_eq, Bool.not_eq_true', Bool.not_eq_false', Bool.not_eq_eq_eq_not, Bool.not_true, Bool.not_false, ne_eq, Decidable.not_not, Int.not_lt, Int.not_le, gt_iff_lt, ge_iff_le] at g3_6
    refine L_no rfl rfl rfl rfl ?_
    refine L_no rfl rfl rfl rfl ?_
    first | refine L_s (q_pickT rfl rfl) rfl ?_ | refine L_s (q_pickF rfl rfl) rfl ?_
    first | exact WPL.jn rfl rfl (by repeat (first | exact trivial | refine ⟨rfl, ?_⟩)) | exact WPL.jnI rfl rfl (by repeat (first | exact trivial | refine ⟨rfl, ?_⟩)) (Imp.pick (by repeat (first | exact Pick.nil | apply Pick.keep (by repeat (first | exact List.Mem.head _ | apply List.Mem.tail)) (by first | exact Pers.cells _ _ _ | exact Pers.slv _ _ _ | exact hD | exact Pers.bytes _) | apply Pick.cons (by repeat (first | exact Pick1.here | apply Pick1.there)))))
  · intro g3_6
    try simp only [decide_eq_true_eq, decide_eq_false_iff_not, beq_iff_eq, bne_iff_ne, beq_eq_false_iff_ne, bne_eq_false_iff_eq, Bool.not_eq_true', Bool.not_eq_false', Bool.not_eq_eq_eq_not, Bool.not_true, Bool.not_false, ne_eq, Decidable.not_not, Int.not_lt, Int.not_le, gt_iff_lt, ge_iff_le] at g3_6
    refine L_yes rfl rfl (q_move rfl) rfl ?_
    refine L_yes rfl rfl (q_int rfl rfl rfl) rfl ?_
    first | refine L_s (q_pickT rfl rfl) rfl ?_ | refine L_s (q_pickF rfl rfl) rfl ?_
    first | exact WPL.jn rfl rfl (by repeat (first | exact trivial | refine ⟨rfl, ?_⟩)) | exact WPL.jnI rfl rfl (by repeat (first | exact trivial | refine ⟨rfl, ?_⟩)) (Imp.pick (by repeat (first | exact Pick.nil | apply Pick.keep (by repeat (first | exact List.Mem.head _ | apply List.Mem.tail)) (by first | exact Pers.cells _ _ _ | exact Pers.slv _ _ _ | exact hD | exact Pers.bytes _) | apply Pick.cons (by repeat (first | exact Pick1.here | apply Pick1.there)))))
  refine L_s (q_move rfl) rfl ?_
  apply WPL.joinO (e' := [(0, _), (2, _), (3, _), (4, _), (5, _), (12, _), (13, _), (14, _), (15, _)]) 42 45 3 rfl
  · intro g3_10
    try simp only [decide_eq_true_eq, decide_eq_false_iff_not, beq_iff_eq, bne_iff_ne, beq_eq_false_iff_ne, bne_eq_false_iff_eq, Bool.not_eq_true', Bool.not_eq_false', Bool.not_eq_eq_eq_not, Bool.not_true, Bool.not_false, ne_eq, Decidable.not_not, Int.not_lt, Int.not_le, gt_iff_lt, ge_iff_le] at g3_10
    refine L_no rfl rfl rfl rfl ?_
    refine L_no rfl rfl rfl rfl ?_
    first | refine L_s (q_pickT rfl rfl) rfl ?_ | refine L_s (q_pickF rfl rfl) rfl ?_
    first | exact WPL.jn rfl rfl (by repeat (first | exact trivial | refine ⟨rfl, ?_⟩)) | exact WPL.jnI rfl rfl (by repeat (first | exact trivial | refine ⟨rfl, ?_⟩)) (Imp.pick (by repeat (first | exact Pick.nil | apply Pick.keep (by repeat (first | exact List.Mem.head _ | apply List.Mem.tail)) (by first | exact Pers.cells _ _ _ | exact Pers.slv _ _ _ | exact hD | exact Pers.bytes _) | apply Pick.cons (by repeat (first | exact Pick1.here | apply Pick1.there)))))
  · intro g3_10
    try simp only [decide_eq_true_eq, decide_eq_false_iff_not, beq_iff_eq, bne_iff_ne, beq_eq_false_iff_ne, bne_eq_false_iff_eq, Bool.not_eq_true', Bool.not_eq_false', Bool.not_eq_eq_eq_not, Bool.not_true, Bool.not_false, ne_eq, Decidable.not_not, Int.not_lt, Int.not_le, gt_iff_lt, ge_iff_le] at g3_10
    refine L_yes rfl rfl (q_move rfl) rfl ?_
    refine L_yes rfl rfl (q_int rfl rfl rfl) rfl ?_
    first | refine L_s (q_pickT rfl rfl) rfl ?_ | refine L_s (q_pickF rfl rfl) rfl ?_
    first | exact WPL.jn rfl rfl (by repeat (first | exact trivial | refine ⟨rfl, ?_⟩)) | exact WPL.jnI rfl rfl (by repeat (first | exact trivial | refine ⟨rfl, ?_⟩)) (Imp.pick (by repeat (first | exact Pick.nil | apply Pick.keep (by repeat (first | exact List.Mem.head _ | apply List.Mem.tail)) (by first | exact Pers.cells _ _ _ | exact Pers.slv _ _ _ | exact hD | exact Pers.bytes _) | apply Pick.cons (by repeat (first | exact Pick1.here | apply Pick1.there)))))
  refine L_s (q_move rfl) rfl ?_
  apply WPL.joinO (e' := [(0, _), (2, _), (3, _), (4, _), (5, _), (12, _), (13, _), (14, _), (15, _)]) 46 49 3 rfl
  · intro g3_14
    try simp only [decide_eq_true_eq, decide_eq_false_iff_not, beq_iff_eq, bne_iff_ne, beq_eq_false_iff_ne, bne_eq_false_iff_eq, Bool.not_eq_true', Bool.not_eq_false', Bool.not_eq_eq_eq_not, Bool.not_true, Bool.not_false, ne_eq, Decidable.not_not, Int.not_lt, Int.not_le, gt_iff_lt, ge_iff_le] at g3_14
    refine L_no rfl rfl rfl rfl ?_
    refine L_no rfl rfl rfl rfl ?_
    first | refine L_s (q_pickT rfl rfl) rfl ?_ | refine L_s (q_pickF rfl rfl) rfl ?_
    first | exact WPL.jn rfl rfl (by repeat (first | exact trivial | refine ⟨rfl, ?_⟩)) | exact WPL.jnI rfl rfl (by repeat (first | exact trivial | refine ⟨rfl, ?_⟩)) (Imp.pick (by repeat (first | exact Pick.nil | apply Pick.keep (by repeat (first | exact List.Mem.head _ | apply List.Mem.tail)) (by first | exact Pers.cells _ _ _ | exact Pers.slv _ _ _ | exact hD | exact Pers.bytes _) | apply Pick.cons (by repeat (first | exact Pick1.here | apply Pick1.there)))))
  · intro g3_14
    try simp only [decide_eq_true_eq, decide_eq_false_iff_not, beq_iff_eq, bne_iff_ne, beq_eq_false_iff_ne, bne_eq_false_iff_eq, Bool.not_eq_true', Bool.not_eq_false', Bool.not_eq_eq_eq_not, Bool.not_true, Bool.not_false, ne_eq, Decidable.not_not, Int.not_lt, Int.not_le, gt_iff_lt, ge_iff_le] at g3_14
    refine L_yes rfl rfl (q_move rfl) rfl ?_
    refine L_yes rfl rfl (q_int rfl rfl rfl) rfl ?_
    first | refine L_s (q_pickT rfl rfl) rfl ?_ | refine L_s (q_pickF rfl rfl) rfl ?_
    first | exact WPL.jn rfl rfl (by repeat (first | exact trivial | refine ⟨rfl, ?_⟩)) | exact WPL.jnI rfl rfl (by repeat (first | exact trivial | refine ⟨rfl, ?_⟩)) (Imp.pick (by repeat (first | exact Pick.nil | apply Pick.keep (by repeat (first | exact List.Mem.head _ | apply List.Mem.tail)) (by first | exact Pers.cells _ _ _ | exact Pers.slv _ _ _ | exact hD | exact Pers.bytes _) | apply Pick.cons (by repeat (first | exact Pick1.here | apply Pick1.there)))))
  refine L_s (q_move rfl) rfl ?_
  apply WPL.joinO (e' := [(0, _), (2, _), (3, _), (4, _), (5, _), (12, _), (13, _), (14, _), (15, _)]) 50 53 3 rfl
  · intro g3_18
    try simp only [decide_eq_true_eq, decide_eq_false_iff_not, beq_iff_eq, bne_iff_ne, beq_eq_false_iff_ne, bne_eq_false_iff_eq, Bool.not_eq_true', Bool.not_eq_false', Bool.not_eq_eq_eq_not, Bool.not_true, Bool.not_false, ne_eq, Decidable.not_not, Int.not_lt, Int.not_le, gt_iff_lt, ge_iff_le] at g3_18
    refine L_no rfl rfl rfl rfl ?_
    refine L_no rfl rfl rfl rfl ?_
    first | refine L_s (q_pickT rfl rfl) rfl ?_ | refine L_s (q_pickF rfl rfl) rfl ?_
    first | exact WPL.jn rfl rfl (by repeat (first | exact trivial | refine ⟨rfl, ?_⟩)) | exact WPL.jnI rfl rfl (by repeat (first | exact trivial | refine ⟨rfl, ?_⟩)) (Imp.pick (by repeat (first | exact Pick.nil | apply Pick.keep (by repeat (first | exact List.Mem.head _ | apply List.Mem.tail)) (by first | exact Pers.cells _ _ _ | exact Pers.slv _ _ _ | exact hD | exact Pers.bytes _) | apply Pick.cons (by repeat (first | exact Pick1.here | apply Pick1.there)))))
  · intro g3_18
    try simp only [decide_eq_true_eq, decide_eq_false_iff_not, beq_iff_eq, bne_iff_ne, beq_eq_false_iff_ne, bne_eq_false_iff_eq, Bool.not_eq_true', Bool.not_eq_false', Bool.not_eq_eq_eq_not, Bool.not_true, Bool.not_false, ne_eq, Decidable.not_not, Int.not_lt, Int.not_le, gt_iff_lt, ge_iff_le] at g3_18
    refine L_yes rfl rfl (q_move rfl) rfl ?_
    refine L_yes rfl rfl (q_int rfl rfl rfl) rfl ?_
    first | refine L_s (q_pickT rfl rfl) rfl ?_ | refine L_s (q_pickF rfl rfl) rfl ?_
    first | exact WPL.jn rfl rfl (by repeat (first | exact trivial | refine ⟨rfl, ?_⟩)) | exact WPL.jnI rfl rfl (by repeat (first | exact trivial | refine ⟨rfl, ?_⟩)) (Imp.pick (by repeat (first | exact Pick.nil | apply Pick.keep (by repeat (first | exact List.Mem.head _ | apply List.Mem.tail)) (by first | exact Pers.cells _ _ _ | exact Pers.slv _ _ _ | exact hD | exact Pers.bytes _) | apply Pick.cons (by repeat (first | exact Pick1.here | apply Pick1.there)))))
  refine WPL.nil ?_
  refine WPC.cond rfl (fun h0 => ?_) (fun h0 => ?_)
  · skip
    refine WPC.seqR ?_
    refine L_s (q_move rfl) rfl ?_
    refine L_s (q_assign rfl) rfl ?_
    refine WPL.nil ?_
    refine WPC.ret ?_
    refine thenQ_r ?_
    exact endR_r rfl (.tmp rfl .nil) (Imp.pick (by repeat (first | exact Pick.nil | apply Pick.keep (by repeat (first | exact List.Mem.head _ | apply List.Mem.tail)) (by first | exact Pers.cells _ _ _ | exact Pers.slv _ _ _ | exact Pers.bytes _) | apply Pick.cons (by repeat (first | exact Pick1.here | apply Pick1.there))))) ⟨rfl, rfl⟩
  · try simp only [decide_eq_true_eq, decide_eq_false_iff_not, beq_iff_eq, bne_iff_ne, beq_eq_false_iff_ne, bne_eq_false_iff_eq, Bool.not_eq_true', Bool.not_eq_false', Bool.not_eq_eq_eq_not, Bool.not_true, Bool.not_false, ne_eq, Decidable.not_not, Int.not_lt, Int.not_le, gt_iff_lt, ge_iff_le] at h0
    simp at h0

theorem c_Lost {D : A} (hD : Pers D) {n : Nat} {a : Option Addr} {c : Nat} {ops : List OpV} (hs : Sok 4 a ops.length c (ops.flatMap encO)) {pa : Option Addr} {pc : Nat} {ps : List Int} {marked more drop : Int} (hp : Sok 1 pa ps.length pc (ps.map (.int .i64))) (hn : 1 ≤ n ∧ n ≤ 17) (hlen : ops.length ≤ 30) (hops : OpsD D ops) : Trip Tryd.prog 4 #[.int .i64 (n : Int), .slice a ops.length c, .int .i64 marked, .slice pa ps.length pc, .int .i64 more, .int .i64 drop] [sl false a (ops.flatMap encO), tblA, D, sl false pa (ps.map (.int .i64))] fun r Δ => r = .bool true ∧ Δ = [] := by
  refine Trip.start 140 [.tmp 12] [(0, .int .i64 (n : Int)), (1, .slice a ops.length c), (2, .int .i64 marked), (3, .slice pa ps.length pc), (4, .int .i64 more), (5, .int .i64 drop)] Tryd.func4 rfl Tryd.ntmps4 rfl ⟨rfl, rfl, rfl, rfl, rfl, rfl, trivial⟩ rfl ?_
  refine WPC.seqR ?_
  refine L_s (q_assign rfl) rfl ?_
  refine WPL.nil ?_
  refine WPC.seqR ?_
  refine WPL.cons rfl (C1.call (c_call Tryd.func8 rfl rfl rfl) c_awake (by repeat (first | exact Pick.nil | apply Pick.keep (by repeat (first | exact List.Mem.head _ | apply List.Mem.tail)) (by first | exact Pers.cells _ _ _ | exact Pers.slv _ _ _ | exact hD | exact Pers.bytes _) | apply Pick.cons (by repeat (first | exact Pick1.here | apply Pick1.there)))) rfl ?_)
  rintro _ _ ⟨rfl, rfl⟩
  refine WPL.putS ?_
  refine L_s (q_assign rfl) rfl ?_
  refine WPL.nil ?_
  refine WPC.seqR ?_
  refine L_s (q_move rfl) rfl ?_
  refine L_s (q_move rfl) rfl ?_
  refine WPL.cons rfl (C1.call (c_call Tryd.func9 rfl rfl rfl) (c_made hD hs hn hlen hops) (by repeat (first | exact Pick.nil | apply Pick.keep (by repeat (first | exact List.Mem.head _ | apply List.Mem.tail)) (by first | exact Pers.cells _ _ _ | exact Pers.slv _ _ _ | exact hD | exact Pers.bytes _) | apply Pick.cons (by repeat (first | exact Pick1.here | apply Pick1.there)))) rfl ?_)
  rintro _ _ ⟨db, b, d, j, T, hT, rfl, hI, rfl⟩
  have hpl := hI.pl
  have hok := hI.ok
  refine WPL.putS ?_
  refine L_s (q_move rfl) rfl ?_
  refine L_s (q_extract rfl rfl) rfl ?_
  refine L_s (q_extract rfl rfl) rfl ?_
  refine L_s (q_assign rfl) rfl ?_
  refine L_s (q_assign rfl) rfl ?_
  refine WPL.nil ?_
  refine WPC.seq ?_
  refine WPC.seqR ?_
  refine L_s (q_move rfl) rfl ?_
  first | refine L_s (q_ptNilEq un_ptr_disk_Disk rfl rfl) rfl ?_ | refine L_s (q_ptNoneEq un_ptr_disk_Disk rfl rfl) rfl ?_
  refine L_s (q_move rfl) rfl ?_
  apply WPL.joinO (e' := [(0, _), (2, _), (3, _), (4, _), (5, _), (12, _), (13, _), (14, _), (15, _)]) 34 37 3 rfl
  · intro g3_2
    try simp only [decide_eq_true_eq, decide_eq_false_iff_not, beq_iff_eq, bne_iff_ne, beq_eq_false_iff_ne, bne_eq_false_iff_eq, Bool.not_eq_true', Bool.not_eq_false', Bool.not_eq_eq_eq_not, Bool.not_true, Bool.not_false, ne_eq, Decidable.not_not, Int.not_lt, Int.not_le, gt_iff_lt, ge_iff_le] at g3_2
    refine L_no rfl rfl rfl rfl ?_
    refine L_no rfl rfl rfl rfl ?_
    first | refine L_s (q_pickT rfl rfl) rfl ?_ | refine L_s (q_pickF rfl rfl) rfl ?_
    first | exact WPL.jn rfl rfl (by repeat (first | exact trivial | refine ⟨rfl, ?_⟩)) | exact WPL.jnI rfl rfl (by repeat (first | exact trivial | refine ⟨rfl, ?_⟩)) (Imp.pick (by repeat (first | exact Pick.nil | apply Pick.keep (by repeat (first | exact List.Mem.head _ | apply List.Mem.tail)) (by first | exact Pers.cells _ _ _ | exact Pers.slv _ _ _ | exact hD | exact Pers.bytes _) | apply Pick.cons (by repeat (first | exact Pick1.here | apply Pick1.there)))))
  · intro g3_2
    try simp only [decide_eq_true_eq, decide_eq_false_iff_not, beq_iff_eq, bne_iff_ne, beq_eq_false_iff_ne, bne_eq_false_iff_eq, Bool.not_eq_true', Bool.not_eq_false', Bool.not_eq_eq_eq_not, Bool.not_true, Bool.not_false, ne_eq, Decidable.not_not, Int.not_lt, Int.not_le, gt_iff_lt, ge_iff_le] at g3_2
    refine L_yes rfl rfl (q_move rfl) rfl ?_
    first | refine L_yes rfl rfl (q_ptNilEq un_ptr_journal_Journal rfl rfl) rfl ?_ | refine L_yes rfl rfl (q_ptNoneEq un_ptr_journal_Journal rfl rfl) rfl ?_
    first | refine L_s (q_pickT rfl rfl) rfl ?_ | refine L_s (q_pickF rfl rfl) rfl ?_
    first | exact WPL.jn rfl rfl (by repeat (first | exact trivial | refine ⟨rfl, ?_⟩)) | exact WPL.jnI rfl rfl (by repeat (first | exact trivial | refine ⟨rfl, ?_⟩)) (Imp.pick (by repeat (first | exact Pick.nil | apply Pick.keep (by repeat (first | exact List.Mem.head _ | apply List.Mem.tail)) (by first | exact Pers.cells _ _ _ | exact Pers.slv _ _ _ | exact hD | exact Pers.bytes _) | apply Pick.cons (by repeat (first | exact Pick1.here | apply Pick1.there)))))
  refine L_s (q_move rfl) rfl ?_
  apply WPL.joinO (e' := [(0, _), (2, _), (3, _), (4, _), (5, _), (12, _), (13, _), (14, _), (15, _)]) 38 41 3 rfl
  · intro g3_6
    try simp only [decide_eq_true_eq, decide_eq_false_iff_not, beq_iff_eq, bne_iff_ne, beq_eq_false_iff_ne, bne_eq_false_iff_eq, Bool.not_eq_true', Bool.not_eq_false', Bool.not_eq_eq_eq_not, Bool.not_true, Bool.not_false, ne_eq, Decidable.not_not, Int.not_lt, Int.not_le, gt_iff_lt, ge_iff_le] at g3_6
    refine L_no rfl rfl rfl rfl ?_
    refine L_no rfl rfl rfl rfl ?_
    first | refine L_s (q_pickT rfl rfl) rfl ?_ | refine L_s (q_pickF rfl rfl) rfl ?_
    first | exact WPL.jn rfl rfl (by repeat (first | exact trivial | refine ⟨rfl, ?_⟩)) | exact WPL.jnI rfl rfl (by repeat (first | exact trivial | refine ⟨rfl, ?_⟩)) (Imp.pick (by repeat (first | exact Pick.nil | apply Pick.keep (by repeat (first | exact List.Mem.head _ | apply List.Mem.tail)) (by first | exact Pers.cells _ _ _ | exact Pers.slv _ _ _ | exact hD | exact Pers.bytes _) | apply Pick.cons (by repeat (first | exact Pick1.here | apply Pick1.there)))))
  · intro g3_6
    try simp only [decide_eq_true_eq, decide_eq_false_iff_not, beq_iff_eq, bne_iff_ne, beq_eq_false_iff_ne, bne_eq_false_iff_eq, Bool.not_eq_true', Bool.not_eq_false', Bool.not_eq_eq_eq_not, Bool.not_true, Bool.not_false, ne_eq, Decidable.not_not, Int.not_lt, Int.not_le, gt_iff_lt, ge_iff_le] at g3_6
    refine L_yes rfl rfl (q_move rfl) rfl ?_
    refine L_yes rfl rfl (q_int rfl rfl rfl) rfl ?_
    first | refine L_s (q_pickT rfl rfl) rfl ?_ | refine L_s (q_pickF rfl rfl) rfl ?_
    first | exact WPL.jn rfl rfl (by repeat (first | exact trivial | refine ⟨rfl, ?_⟩)) | exact WPL.jnI rfl rfl (by repeat (first | exact trivial | refine ⟨rfl, ?_⟩)) (Imp.pick (by repeat (first | exact Pick.nil | apply Pick.keep (by repeat (first | exact List.Mem.head _ | apply List.Mem.tail)) (by first | exact Pers.cells _ _ _ | exact Pers.slv _ _ _ | exact hD | exact Pers.bytes _) | apply Pick.cons (by repeat (first | exact Pick1.here | apply Pick1.there)))))
  refine L_s (q_move rfl) rfl ?_
  apply WPL.joinO (e' := [(0, _), (2, _), (3, _), (4, _), (5, _), (12, _), (13, _), (14, _), (15, _)]) 42 45 3 rfl
  · intro g3_10
    try simp only [decide_eq_true_eq, decide_eq_false_iff_not, beq_iff_eq, bne_iff_ne, beq_eq_false_iff_ne, bne_eq_false_iff_eq, Bool.not_eq_true', Bool.not_eq_false', Bool.not_eq_eq_eq_not, Bool.not_true, Bool.not_false, ne_eq, Decidable.not_not, Int.not_lt, Int.not_le, gt_iff_lt, ge_iff_le] at g3_10
    refine L_no rfl rfl rfl rfl ?_
    refine L_no rfl rfl rfl rfl ?_
    first | refine L_s (q_pickT rfl rfl) rfl ?_ | refine L_s (q_pickF rfl rfl) rfl ?_
    first | exact WPL.jn rfl rfl (by repeat (first | exact trivial | refine ⟨rfl, ?_⟩)) | exact WPL.jnI rfl rfl (by repeat (first | exact trivial | refine ⟨rfl, ?_⟩)) (Imp.pick (by repeat (first | exact Pick.nil | apply Pick.keep (by repeat (first | exact List.Mem.head _ | apply List.Mem.tail)) (by first | exact Pers.cells _ _ _ | exact Pers.slv _ _ _ | exact hD | exact Pers.bytes _) | apply Pick.cons (by repeat (first | exact Pick1.here | apply Pick1.there)))))
  · intro g3_10
    try simp only [decide_eq_true_eq, decide_eq_false_iff_not, beq_iff_eq, bne_iff_ne, beq_eq_false_iff_ne, bne_eq_false_iff_eq, Bool.not_eq_true', Bool.not_eq_false', Bool.not_eq_eq_eq_not, Bool.not_true, Bool.not_false, ne_eq, Decidable.not_not, Int.not_lt, Int.not_le, gt_iff_lt, ge_iff_le] at g3_10
    refine L_yes rfl rfl (q_move rfl) rfl ?_
    refine L_yes rfl rfl (q_int rfl rfl rfl) rfl ?_
    first | refine L_s (q_pickT rfl rfl) rfl ?_ | refine L_s (q_pickF rfl rfl) rfl ?_
    first | exact WPL.jn rfl rfl (by repeat (first | exact trivial | refine ⟨rfl, ?_⟩)) | exact WPL.jnI rfl rfl (by repeat (first | exact trivial | refine ⟨rfl, ?_⟩)) (Imp.pick (by repeat (first | exact Pick.nil | apply Pick.keep (by repeat (first | exact List.Mem.head _ | apply List.Mem.tail)) (by first | exact Pers.cells _ _ _ | exact Pers.slv _ _ _ | exact hD | exact Pers.bytes _) | apply Pick.cons (by repeat (first | exact Pick1.here | apply Pick1.there)))))
  refine L_s (q_move rfl) rfl ?_
  apply WPL.joinO (e' := [(0, _), (2, _), (3, _), (4, _), (5, _), (12, _), (13, _), (14, _), (15, _)]) 46 49 3 rfl
  · intro g3_14
    try simp only [decide_eq_true_eq, decide_eq_false_iff_not, beq_iff_eq, bne_iff_ne, beq_eq_false_iff_ne, bne_eq_false_iff_eq, Bool.not_eq_true', Bool.not_eq_false', Bool.not_eq_eq_eq_not, Bool.not_true, Bool.not_false, ne_eq, Decidable.not_not, Int.not_lt, Int.not_le, gt_iff_lt, ge_iff_le] at g3_14
    refine L_no rfl rfl rfl rfl ?_
    refine L_no rfl rfl rfl rfl ?_
    first | refine L_s (q_pickT rfl rfl) rfl ?_ | refine L_s (q_pickF rfl rfl) rfl ?_
    first | exact WPL.jn rfl rfl (by repeat (first | exact trivial | refine ⟨rfl, ?_⟩)) | exact WPL.jnI rfl rfl (by repeat (first | exact trivial | refine ⟨rfl, ?_⟩)) (Imp.pick (by repeat (first | exact Pick.nil | apply Pick.keep (by repeat (first | exact List.Mem.head _ | apply List.Mem.tail)) (by first | exact Pers.cells _ _ _ | exact Pers.slv _ _ _ | exact hD | exact Pers.bytes _) | apply Pick.cons (by repeat (first | exact Pick1.here | apply Pick1.there)))))
  · intro g3_14
    try simp only [decide_eq_true_eq, decide_eq_false_iff_not, beq_iff_eq, bne_iff_ne, beq_eq_false_iff_ne, bne_eq_false_iff_eq, Bool.not_eq_true', Bool.not_eq_false', Bool.not_eq_eq_eq_not, Bool.not_true, Bool.not_false, ne_eq, Decidable.not_not, Int.not_lt, Int.not_le, gt_iff_lt, ge_iff_le] at g3_14
    refine L_yes rfl rfl (q_move rfl) rfl ?_
    refine L_yes rfl rfl (q_int rfl rfl rfl) rfl ?_
    first | refine L_s (q_pickT rfl rfl) rfl ?_ | refine L_s (q_pickF rfl rfl) rfl ?_
    first | exact WPL.jn rfl rfl (by repeat (first | exact trivial | refine ⟨rfl, ?_⟩)) | exact WPL.jnI rfl rfl (by repeat (first | exact trivial | refine ⟨rfl, ?_⟩)) (Imp.pick (by repeat (first | exact Pick.nil | apply Pick.keep (by repeat (first | exact List.Mem.head _ | apply List.Mem.tail)) (by first | exact Pers.cells _ _ _ | exact Pers.slv _ _ _ | exact hD | exact Pers.bytes _) | apply Pick.cons (by repeat (first | exact Pick1.here | apply Pick1.there)))))
  refine L_s (q_move rfl) rfl ?_
  apply WPL.joinO (e' := [(0, _), (2, _), (3, _), (4, _), (5, _), (12, _), (13, _), (14, _), (15, _)]) 50 53 3 rfl
  · intro g3_18
    try simp only [decide_eq_true_eq, decide_eq_false_iff_not, beq_iff_eq, bne_iff_ne, beq_eq_false_iff_ne, bne_eq_false_iff_eq, Bool.not_eq_true', Bool.not_eq_false', Bool.not_eq_eq_eq_not, Bool.not_true, Bool.not_false, ne_eq, Decidable.not_not, Int.not_lt, Int.not_le, gt_iff_lt, ge_iff_le] at g3_18
    refine L_no rfl rfl rfl rfl ?_
    refine L_no rfl rfl rfl rfl ?_
    first | refine L_s (q_pickT rfl rfl) rfl ?_ | refine L_s (q_pickF rfl rfl) rfl ?_
    first | exact WPL.jn rfl rfl (by repeat (first | exact trivial | refine ⟨rfl, ?_⟩)) | exact WPL.jnI rfl rfl (by repeat (first | exact trivial | refine ⟨rfl, ?_⟩)) (Imp.pick (by repeat (first | exact Pick.nil | apply Pick.keep (by repeat (first | exact List.Mem.head _ | apply List.Mem.tail)) (by first | exact Pers.cells _ _ _ | exact Pers.slv _ _ _ | exact hD | exact Pers.bytes _) | apply Pick.cons (by repeat (first | exact Pick1.here | apply Pick1.there)))))
  · intro g3_18
    try simp only [decide_eq_true_eq, decide_eq_false_iff_not, beq_iff_eq, bne_iff_ne, beq_eq_false_iff_ne, bne_eq_false_iff_eq, Bool.not_eq_true', Bool.not_eq_false', Bool.not_eq_eq_eq_not, Bool.not_true, Bool.not_false, ne_eq, Decidable.not_not, Int.not_lt, Int.not_le, gt_iff_lt, ge_iff_le] at g3_18
    refine L_yes rfl rfl (q_move rfl) rfl ?_
    refine L_yes rfl rfl (q_int rfl rfl rfl) rfl ?_
    first | refine L_s (q_pickT rfl rfl) rfl ?_ | refine L_s (q_pickF rfl rfl) rfl ?_
    first | exact WPL.jn rfl rfl (by repeat (first | exact trivial | refine ⟨rfl, ?_⟩)) | exact WPL.jnI rfl rfl (by repeat (first | exact trivial | refine ⟨rfl, ?_⟩)) (Imp.pick (by repeat (first | exact Pick.nil | apply Pick.keep (by repeat (first | exact List.Mem.head _ | apply List.Mem.tail)) (by first | exact Pers.cells _ _ _ | exact Pers.slv _ _ _ | exact hD | exact Pers.bytes _) | apply Pick.cons (by repeat (first | exact Pick1.here | apply Pick1.there)))))
  refine WPL.nil ?_
  refine WPC.cond rfl (fun h0 => ?_) (fun h0 => ?_)
  · skip
    refine WPC.seqR ?_
    refine L_s (q_move rfl) rfl ?_
    refine L_s (q_assign rfl) rfl ?_
    refine WPL.nil ?_
    refine WPC.ret ?_
    refine thenQ_r ?_
    exact endR_r rfl (.tmp rfl .nil) (Imp.pick (by repeat (first | exact Pick.nil | apply Pick.keep (by repeat (first | exact List.Mem.head _ | apply List.Mem.tail)) (by first | exact Pers.cells _ _ _ | exact Pers.slv _ _ _ | exact Pers.bytes _) | apply Pick.cons (by repeat (first | exact Pick1.here | apply Pick1.there))))) ⟨rfl, rfl⟩
  · simp only [Bool.or_eq_false_iff, decide_eq_false_iff_not] at h0
    obtain ⟨mk, rfl⟩ : ∃ mk : Nat, marked = (mk : Int) := ⟨marked.toNat, by omega⟩
    obtain ⟨mr, rfl⟩ : ∃ mr : Nat, more = (mr : Int) := ⟨more.toNat, by omega⟩
    have hmk : mk ≤ 10 ∧ mr ≤ 10 := by omega
    refine WPC.skip ?_
    refine thenQ_n ?_
    refine WPC.seqR ?_
    refine L_s (q_move rfl) rfl ?_
    refine WPL.cons rfl (C1.call (c_call Tryd.func10 rfl rfl rfl) (c_JSync hok (by omega)) (by repeat (first | exact Pick.nil | apply Pick.keep (by repeat (first | exact List.Mem.head _ | apply List.Mem.tail)) (by first | exact Pers.cells _ _ _ | exact Pers.slv _ _ _ | exact hD | exact Pers.bytes _) | apply Pick.cons (by repeat (first | exact Pick1.here | apply Pick1.there)))) rfl ?_)
    rintro _ _ ⟨rfl, rfl⟩
    have hI1 := hI.sync (by omega)
    refine WPL.putS ?_
    refine WPL.nil ?_
    refine WPC.seq ?_
    refine WPC.seqR ?_
    refine L_s (q_assign rfl) rfl ?_
    refine WPL.nil ?_
    refine WPC.block ?_
    refine WPC.loopS (fun m e Γ => ∃ (k : Nat) (d2 : DK) (j2 : JN), m = mk - k ∧ k ≤ mk ∧ Inv n (T + 1 + k) d2 j2 ∧ e = [(0, .int .i64 (n : Int)), (2, .int .i64 (mk : Int)), (3, .slice pa ps.length pc), (4, .int .i64 (mr : Int)), (5, .int .i64 drop), (13, .bool true), (14, .pointer (some ⟨db, 0, none⟩)), (15, .pointer (some ⟨b, 0, none⟩)), (16, .int .i64 (k : Int))] ∧ Γ = [jour b db j2, disk db d2, sl false pa (ps.map (.int .i64)), tblA]) (mk) ⟨0, _, _, rfl, by omega, hI1, rfl, rfl⟩ (by repeat (first | exact trivial | refine ⟨rfl, ?_⟩)) (Imp.pick (by repeat (first | exact Pick.nil | apply Pick.keep (by repeat (first | exact List.Mem.head _ | apply List.Mem.tail)) (by first | exact Pers.cells _ _ _ | exact Pers.slv _ _ _ | exact hD | exact Pers.bytes _) | apply Pick.cons (by repeat (first | exact Pick1.here | apply Pick1.there))))) ?_
    rintro m e Γ ⟨k, d2, j2, rfl, hk, hI2, rfl, rfl⟩
    refine WPC.seq ?_
    refine WPC.seqR ?_
    refine L_s (q_move rfl) rfl ?_
    refine L_s (q_move rfl) rfl ?_
    refine L_s (q_int rfl rfl rfl) rfl ?_
    refine WPL.nil ?_
    refine WPC.cond rfl (fun h1 => ?_) (fun h1 => ?_)
    · simp only [decide_eq_true_eq, Int.ofNat_lt] at h1
      refine WPC.skip ?_
      refine thenQ_n ?_
      refine WPC.seq ?_
      refine WPC.block ?_
      refine WPC.region ?_
      refine L_s (q_move rfl) rfl ?_
      refine L_s (q_move rfl) rfl ?_
      refine L_s (q_conv8 (a := k) in_int in_uint8 rfl) rfl ?_
      refine WPL.cons rfl (E1.wpo (e_buildSlice mk_sl_uint8 (by decide) rfl rfl rfl) rfl ?_)
      rintro _ _ ⟨bA, rfl, rfl⟩
      refine WPL.putS ?_
      refine WPL.cons rfl (C1.call (c_call Tryd.func12 rfl rfl rfl) (c_apI (n := n) [200, 201, 202, by_ k] (vs := [.int .u8 200, .int .u8 201, .int .u8 202, .int .u8 ((k % 256 : Nat) : Int)]) rfl hI2) (by repeat (first | exact Pick.nil | apply Pick.keep (by repeat (first | exact List.Mem.head _ | apply List.Mem.tail)) (by first | exact Pers.cells _ _ _ | exact Pers.slv _ _ _ | exact hD | exact Pers.bytes _) | apply Pick.cons (by repeat (first | exact Pick1.here | apply Pick1.there)))) rfl ?_)
      rintro _ _ ⟨rfl, rfl⟩
      refine WPL.putS ?_
      refine WPL.nil ?_
      refine blockQ_n ?_
      refine thenQ_n ?_
      refine WPC.region ?_
      refine L_s (q_move rfl) rfl ?_
      first | refine L_s (q_inc rfl rfl (by omega)) rfl ?_ | refine L_s (q_addI rfl rfl (by omega)) rfl ?_ | refine L_s (q_int rfl rfl rfl) rfl ?_
      refine L_s (q_assign rfl) rfl ?_
      refine WPL.nil ?_
      refine thenQ_n ?_
      exact ⟨rfl, _, _, _, by omega, ⟨k + 1, _, _, rfl, by omega, hI2.append (by omega) _, rfl, rfl⟩, (by repeat (first | exact trivial | refine ⟨rfl, ?_⟩)), Imp.pick (by repeat (first | exact Pick.nil | apply Pick.keep (by repeat (first | exact List.Mem.head _ | apply List.Mem.tail)) (by first | exact Pers.cells _ _ _ | exact Pers.slv _ _ _ | exact hD | exact Pers.bytes _) | apply Pick.cons (by repeat (first | exact Pick1.here | apply Pick1.there))))⟩
    · simp only [decide_eq_false_iff_not, Int.ofNat_lt] at h1
      refine WPC.exit ?_
      refine thenQ_e ?_
      refine thenQ_e ?_
      refine blockQ_here ?_
      refine thenQ_n ?_
      refine WPC.seqR ?_
      refine L_s (q_move rfl) rfl ?_
      refine L_s (q_move rfl) rfl ?_
      have hpl2 := hI2.pl
      obtain ⟨d3, j3, ho3, hI3⟩ := hI2.crash (by omega) ps
      refine WPL.cons rfl (C1.call (c_call Tryd.func13 rfl rfl rfl) (c_Crash (q := false) hI2.ok (by omega) hp) (by repeat (first | exact Pick.nil | apply Pick.keep (by repeat (first | exact List.Mem.head _ | apply List.Mem.tail)) (by first | exact Pers.cells _ _ _ | exact Pers.slv _ _ _ | exact hD | exact Pers.bytes _) | apply Pick.cons (by repeat (first | exact Pick1.here | apply Pick1.there)))) rfl ?_)
      rintro _ _ ⟨rfl, rfl⟩
      refine WPL.putS ?_
      refine WPL.nil ?_
      refine WPC.seqR ?_
      refine L_s (q_move rfl) rfl ?_
      refine L_s (q_move rfl) rfl ?_
      refine WPL.cons rfl (C1.call (c_call Tryd.func14 rfl rfl rfl) (c_OpenR hn (hI2.clen _) (hI2.ok.crash _) (by rw [crash_pl]; omega) ho3) (by repeat (first | exact Pick.nil | apply Pick.keep (by repeat (first | exact List.Mem.head _ | apply List.Mem.tail)) (by first | exact Pers.cells _ _ _ | exact Pers.slv _ _ _ | exact hD | exact Pers.bytes _) | apply Pick.cons (by repeat (first | exact Pick1.here | apply Pick1.there)))) rfl ?_)
      rintro _ _ ⟨b2, ua, uc, us, rfl, hus, hue, huo, rfl⟩
      have hul := bs_len hue
      have hun := hI3.hln
      refine WPL.putS ?_
      refine L_s (q_move rfl) rfl ?_
      refine L_s (q_extract rfl rfl) rfl ?_
      refine L_s (q_extract rfl rfl) rfl ?_
      refine L_s (q_extract rfl rfl) rfl ?_
      refine L_s (q_assign rfl) rfl ?_
      refine L_s (q_assign rfl) rfl ?_
      refine L_s (q_assign rfl) rfl ?_
      refine WPL.nil ?_
      refine WPC.seq ?_
      refine WPC.seqR ?_
      refine L_s (q_move rfl) rfl ?_
      first | refine L_s (q_ptNilEq un_ptr_journal_Journal rfl rfl) rfl ?_ | refine L_s (q_ptNoneEq un_ptr_journal_Journal rfl rfl) rfl ?_
      refine L_s (q_move rfl) rfl ?_
      apply WPL.joinO (e' := [(0, _), (4, _), (5, _), (13, _), (14, _), (15, _), (17, _)]) 79 82 3 rfl
      · intro g12_2
        try simp only [decide_eq_true_eq, decide_eq_false_iff_not, beq_iff_eq, bne_iff_ne, beq_eq_false_iff_ne, bne_eq_false_iff_eq, Bool.not_eq_true', Bool.not_eq_false', Bool.not_eq_eq_eq_not, Bool.not_true, Bool.not_false, ne_eq, Decidable.not_not, Int.not_lt, Int.not_le, gt_iff_lt, ge_iff_le] at g12_2
        refine L_no rfl rfl rfl rfl ?_
        refine L_no rfl rfl rfl rfl ?_
        first | refine L_s (q_pickT rfl rfl) rfl ?_ | refine L_s (q_pickF rfl rfl) rfl ?_
        first | exact WPL.jn rfl rfl (by repeat (first | exact trivial | refine ⟨rfl, ?_⟩)) | exact WPL.jnI rfl rfl (by repeat (first | exact trivial | refine ⟨rfl, ?_⟩)) (Imp.pick (by repeat (first | exact Pick.nil | apply Pick.keep (by repeat (first | exact List.Mem.head _ | apply List.Mem.tail)) (by first | exact Pers.cells _ _ _ | exact Pers.slv _ _ _ | exact hD | exact Pers.bytes _) | apply Pick.cons (by repeat (first | exact Pick1.here | apply Pick1.there)))))
      · intro g12_2
        try simp only [decide_eq_true_eq, decide_eq_false_iff_not, beq_iff_eq, bne_iff_ne, beq_eq_false_iff_ne, bne_eq_false_iff_eq, Bool.not_eq_true', Bool.not_eq_false', Bool.not_eq_eq_eq_not, Bool.not_true, Bool.not_false, ne_eq, Decidable.not_not, Int.not_lt, Int.not_le, gt_iff_lt, ge_iff_le] at g12_2
        refine L_yes rfl rfl (q_move rfl) rfl ?_
        refine L_yes rfl rfl (q_int rfl rfl rfl) rfl ?_
        first | refine L_s (q_pickT rfl rfl) rfl ?_ | refine L_s (q_pickF rfl rfl) rfl ?_
        first | exact WPL.jn rfl rfl (by repeat (first | exact trivial | refine ⟨rfl, ?_⟩)) | exact WPL.jnI rfl rfl (by repeat (first | exact trivial | refine ⟨rfl, ?_⟩)) (Imp.pick (by repeat (first | exact Pick.nil | apply Pick.keep (by repeat (first | exact List.Mem.head _ | apply List.Mem.tail)) (by first | exact Pers.cells _ _ _ | exact Pers.slv _ _ _ | exact hD | exact Pers.bytes _) | apply Pick.cons (by repeat (first | exact Pick1.here | apply Pick1.there)))))
      refine WPL.nil ?_
      refine WPC.cond rfl (fun h2 => ?_) (fun h2 => ?_)
      · try simp only [decide_eq_true_eq, decide_eq_false_iff_not, beq_iff_eq, bne_iff_ne, beq_eq_false_iff_ne, bne_eq_false_iff_eq, Bool.not_eq_true', Bool.not_eq_false', Bool.not_eq_eq_eq_not, Bool.not_true, Bool.not_false, ne_eq, Decidable.not_not, Int.not_lt, Int.not_le, gt_iff_lt, ge_iff_le] at h2
        simp at h2
      · skip
        refine WPC.skip ?_
        refine thenQ_n ?_
        refine WPC.seq ?_
        refine WPC.seqR ?_
        refine L_s (q_assign rfl) rfl ?_
        refine WPL.nil ?_
        refine WPC.block ?_
        refine WPC.loopS (fun m e Γ => ∃ (q : Nat) (d4 : DK) (j4 : JN), m = mr - q ∧ q ≤ mr ∧ Inv n (T + 1 + k + 1 + q) d4 j4 ∧ e = [(0, .int .i64 (n : Int)), (4, .int .i64 (mr : Int)), (5, .int .i64 drop), (13, .bool true), (14, .pointer (some ⟨db, 0, none⟩)), (15, .pointer (some ⟨b2, 0, none⟩)), (17, .slice ua us.length uc), (19, .int .i64 (q : Int))] ∧ Γ = [jour b2 db j4, disk db d4, tblA]) (mr) ⟨0, _, _, rfl, by omega, hI3, rfl, rfl⟩ (by repeat (first | exact trivial | refine ⟨rfl, ?_⟩)) (Imp.pick (by repeat (first | exact Pick.nil | apply Pick.keep (by repeat (first | exact List.Mem.head _ | apply List.Mem.tail)) (by first | exact Pers.cells _ _ _ | exact Pers.slv _ _ _ | exact hD | exact Pers.bytes _) | apply Pick.cons (by repeat (first | exact Pick1.here | apply Pick1.there))))) ?_
        rintro m e Γ ⟨q, d4, j4, rfl, hq, hI4, rfl, rfl⟩
        refine WPC.seq ?_
        refine WPC.seqR ?_
        refine L_s (q_move rfl) rfl ?_
        refine L_s (q_move rfl) rfl ?_
        refine L_s (q_int rfl rfl rfl) rfl ?_
        refine WPL.nil ?_
        refine WPC.cond rfl (fun h3 => ?_) (fun h3 => ?_)
        · simp only [decide_eq_true_eq, Int.ofNat_lt] at h3
          refine WPC.skip ?_
          refine thenQ_n ?_
          refine WPC.seq ?_
          refine WPC.block ?_
          refine WPC.region ?_
          refine L_s (q_move rfl) rfl ?_
          refine L_s (q_move rfl) rfl ?_
          refine L_s (q_conv8 (a := q) in_int in_uint8 rfl) rfl ?_
          refine WPL.cons rfl (E1.wpo (e_buildSlice mk_sl_uint8 (by decide) rfl rfl rfl) rfl ?_)
          rintro _ _ ⟨bB, rfl, rfl⟩
          refine WPL.putS ?_
          refine WPL.cons rfl (C1.call (c_call Tryd.func12 rfl rfl rfl) (c_apI (n := n) [100, by_ q] (vs := [.int .u8 100, .int .u8 ((q % 256 : Nat) : Int)]) rfl hI4) (by repeat (first | exact Pick.nil | apply Pick.keep (by repeat (first | exact List.Mem.head _ | apply List.Mem.tail)) (by first | exact Pers.cells _ _ _ | exact Pers.slv _ _ _ | exact hD | exact Pers.bytes _) | apply Pick.cons (by repeat (first | exact Pick1.here | apply Pick1.there)))) rfl ?_)
          rintro _ _ ⟨rfl, rfl⟩
          refine WPL.putS ?_
          refine WPL.nil ?_
          refine blockQ_n ?_
          refine thenQ_n ?_
          refine WPC.region ?_
          refine L_s (q_move rfl) rfl ?_
          first | refine L_s (q_inc rfl rfl (by omega)) rfl ?_ | refine L_s (q_addI rfl rfl (by omega)) rfl ?_ | refine L_s (q_int rfl rfl rfl) rfl ?_
          refine L_s (q_assign rfl) rfl ?_
          refine WPL.nil ?_
          refine thenQ_n ?_
          exact ⟨rfl, _, _, _, by omega, ⟨q + 1, _, _, rfl, by omega, hI4.append (by omega) _, rfl, rfl⟩, (by repeat (first | exact trivial | refine ⟨rfl, ?_⟩)), Imp.pick (by repeat (first | exact Pick.nil | apply Pick.keep (by repeat (first | exact List.Mem.head _ | apply List.Mem.tail)) (by first | exact Pers.cells _ _ _ | exact Pers.slv _ _ _ | exact hD | exact Pers.bytes _) | apply Pick.cons (by repeat (first | exact Pick1.here | apply Pick1.there))))⟩
        · simp only [decide_eq_false_iff_not, Int.ofNat_lt] at h3
          refine WPC.exit ?_
          refine thenQ_e ?_
          refine thenQ_e ?_
          refine blockQ_here ?_
          refine thenQ_n ?_
          refine WPC.seqR ?_
          refine L_s (q_move rfl) rfl ?_
          have hpl4 := hI4.pl
          have hlen4 := hI4.hlen
          obtain ⟨old, fr, hJ4⟩ := hI4
          have hS := sync_sure hJ4
          have hplS := hS.pl
          obtain ⟨d5, j5, f, htr, hcase⟩ := trim_inv hS (by omega) drop
          refine WPL.cons rfl (C1.call (c_call Tryd.func10 rfl rfl rfl) (c_JSync hJ4.ok (by omega)) (by repeat (first | exact Pick.nil | apply Pick.keep (by repeat (first | exact List.Mem.head _ | apply List.Mem.tail)) (by first | exact Pers.cells _ _ _ | exact Pers.slv _ _ _ | exact hD | exact Pers.bytes _) | apply Pick.cons (by repeat (first | exact Pick1.here | apply Pick1.there)))) rfl ?_)
          rintro _ _ ⟨rfl, rfl⟩
          refine WPL.putS ?_
          refine WPL.nil ?_
          refine WPC.seqR ?_
          refine L_s (q_move rfl) rfl ?_
          refine WPL.cons rfl (C1.call (c_call Tryd.func11 rfl rfl rfl) (c_AllR hJ4.hb (by omega)) (by repeat (first | exact Pick.nil | apply Pick.keep (by repeat (first | exact List.Mem.head _ | apply List.Mem.tail)) (by first | exact Pers.cells _ _ _ | exact Pers.slv _ _ _ | exact hD | exact Pers.bytes _) | apply Pick.cons (by repeat (first | exact Pick1.here | apply Pick1.there)))) rfl ?_)
          rintro _ _ ⟨a3, c3, zs, rfl, hzs, hze, hzo, rfl⟩
          have hzl := bs_len hze
          have hzcap := hzs.cap
          refine WPL.putS ?_
          refine L_s (q_assign rfl) rfl ?_
          refine WPL.nil ?_
          refine WPC.seqR ?_
          refine L_s (q_move rfl) rfl ?_
          refine L_s (q_move rfl) rfl ?_
          refine WPL.cons rfl (C1.call (c_call Tryd.func16 rfl rfl rfl) (c_JTrim hS.jok hS.ok (by omega) hS.next_lt) (by repeat (first | exact Pick.nil | apply Pick.keep (by repeat (first | exact List.Mem.head _ | apply List.Mem.tail)) (by first | exact Pers.cells _ _ _ | exact Pers.slv _ _ _ | exact hD | exact Pers.bytes _) | apply Pick.cons (by repeat (first | exact Pick1.here | apply Pick1.there)))) rfl ?_)
          rintro _ _ ⟨rfl, rfl⟩
          rw [htr]
          refine WPL.putS ?_
          refine L_s (q_assign rfl) rfl ?_
          refine WPL.nil ?_
          refine WPC.seq ?_
          refine WPC.seqR ?_
          refine L_s (q_move rfl) rfl ?_
          refine L_s (q_int rfl rfl rfl) rfl ?_
          refine L_s (q_move rfl) rfl ?_
          apply WPL.joinA (e' := [(0, _), (5, _), (13, _), (14, _), (17, _), (20, _)]) 102 105 3 rfl
          · intro g21_2
            try simp only [decide_eq_true_eq, decide_eq_false_iff_not, beq_iff_eq, bne_iff_ne, beq_eq_false_iff_ne, bne_eq_false_iff_eq, Bool.not_eq_true', Bool.not_eq_false', Bool.not_eq_eq_eq_not, Bool.not_true, Bool.not_false, ne_eq, Decidable.not_not, Int.not_lt, Int.not_le, gt_iff_lt, ge_iff_le] at g21_2
            refine L_yes rfl rfl (q_move rfl) rfl ?_
            refine L_yes rfl rfl (q_int rfl rfl rfl) rfl ?_
            first | refine L_s (q_pickT rfl rfl) rfl ?_ | refine L_s (q_pickF rfl rfl) rfl ?_
            first | exact WPL.jn rfl rfl (by repeat (first | exact trivial | refine ⟨rfl, ?_⟩)) | exact WPL.jnI rfl rfl (by repeat (first | exact trivial | refine ⟨rfl, ?_⟩)) (Imp.pick (by repeat (first | exact Pick.nil | apply Pick.keep (by repeat (first | exact List.Mem.head _ | apply List.Mem.tail)) (by first | exact Pers.cells _ _ _ | exact Pers.slv _ _ _ | exact hD | exact Pers.bytes _) | apply Pick.cons (by repeat (first | exact Pick1.here | apply Pick1.there)))))
          · intro g21_2
            try simp only [decide_eq_true_eq, decide_eq_false_iff_not, beq_iff_eq, bne_iff_ne, beq_eq_false_iff_ne, bne_eq_false_iff_eq, Bool.not_eq_true', Bool.not_eq_false', Bool.not_eq_eq_eq_not, Bool.not_true, Bool.not_false, ne_eq, Decidable.not_not, Int.not_lt, Int.not_le, gt_iff_lt, ge_iff_le] at g21_2
            refine L_no rfl rfl rfl rfl ?_
            refine L_no rfl rfl rfl rfl ?_
            first | refine L_s (q_pickT rfl rfl) rfl ?_ | refine L_s (q_pickF rfl rfl) rfl ?_
            first | exact WPL.jn rfl rfl (by repeat (first | exact trivial | refine ⟨rfl, ?_⟩)) | exact WPL.jnI rfl rfl (by repeat (first | exact trivial | refine ⟨rfl, ?_⟩)) (Imp.pick (by repeat (first | exact Pick.nil | apply Pick.keep (by repeat (first | exact List.Mem.head _ | apply List.Mem.tail)) (by first | exact Pers.cells _ _ _ | exact Pers.slv _ _ _ | exact hD | exact Pers.bytes _) | apply Pick.cons (by repeat (first | exact Pick1.here | apply Pick1.there)))))
          refine L_s (q_move rfl) rfl ?_
          apply WPL.joinA (e' := [(0, _), (5, _), (13, _), (14, _), (17, _), (20, _)]) 106 111 5 rfl
          · intro g21_6
            try simp only [decide_eq_true_eq, decide_eq_false_iff_not, beq_iff_eq, bne_iff_ne, beq_eq_false_iff_ne, bne_eq_false_iff_eq, Bool.not_eq_true', Bool.not_eq_false', Bool.not_eq_eq_eq_not, Bool.not_true, Bool.not_false, ne_eq, Decidable.not_not, Int.not_lt, Int.not_le, gt_iff_lt, ge_iff_le] at g21_6
            refine L_yes rfl rfl (q_move rfl) rfl ?_
            refine L_yes rfl rfl (q_move rfl) rfl ?_
            refine L_yes rfl rfl (q_len rfl un_sl_sl_uint8 rfl) rfl ?_
            refine L_yes rfl rfl (q_int rfl rfl rfl) rfl ?_
            first | refine L_s (q_pickT rfl rfl) rfl ?_ | refine L_s (q_pickF rfl rfl) rfl ?_
            first | exact WPL.jn rfl rfl (by repeat (first | exact trivial | refine ⟨rfl, ?_⟩)) | exact WPL.jnI rfl rfl (by repeat (first | exact trivial | refine ⟨rfl, ?_⟩)) (Imp.pick (by repeat (first | exact Pick.nil | apply Pick.keep (by repeat (first | exact List.Mem.head _ | apply List.Mem.tail)) (by first | exact Pers.cells _ _ _ | exact Pers.slv _ _ _ | exact hD | exact Pers.bytes _) | apply Pick.cons (by repeat (first | exact Pick1.here | apply Pick1.there)))))
          · intro g21_6
            try simp only [decide_eq_true_eq, decide_eq_false_iff_not, beq_iff_eq, bne_iff_ne, beq_eq_false_iff_ne, bne_eq_false_iff_eq, Bool.not_eq_true', Bool.not_eq_false', Bool.not_eq_eq_eq_not, Bool.not_true, Bool.not_false, ne_eq, Decidable.not_not, Int.not_lt, Int.not_le, gt_iff_lt, ge_iff_le] at g21_6
            refine L_no rfl rfl rfl rfl ?_
            refine L_no rfl rfl rfl rfl ?_
            refine L_no rfl rfl rfl rfl ?_
            refine L_no rfl rfl rfl rfl ?_
            first | refine L_s (q_pickT rfl rfl) rfl ?_ | refine L_s (q_pickF rfl rfl) rfl ?_
            first | exact WPL.jn rfl rfl (by repeat (first | exact trivial | refine ⟨rfl, ?_⟩)) | exact WPL.jnI rfl rfl (by repeat (first | exact trivial | refine ⟨rfl, ?_⟩)) (Imp.pick (by repeat (first | exact Pick.nil | apply Pick.keep (by repeat (first | exact List.Mem.head _ | apply List.Mem.tail)) (by first | exact Pers.cells _ _ _ | exact Pers.slv _ _ _ | exact hD | exact Pers.bytes _) | apply Pick.cons (by repeat (first | exact Pick1.here | apply Pick1.there)))))
          refine WPL.nil ?_
          refine WPC.midS (fun e Γ => ∃ (a4 : Option Addr) (c4 nq : Nat) (qs : List BS), JInv n (T + 1 + k + 1 + q + 1) d5 j5 j5.held [] ∧ qs.map BS.bs = j5.held.map (·.2) ∧ (∀ q ∈ qs, q.ok) ∧ qs.length = nq ∧ Sok 1 a4 nq c4 (qs.map bsV) ∧ e = [(0, .int .i64 (n : Int)), (13, .bool true), (14, .pointer (some ⟨db, 0, none⟩)), (17, .slice ua us.length uc), (20, .slice a4 nq c4)] ∧ Γ = [disk db d5, sl false a4 (qs.map bsV), bytes qs, tblA]) ?_ ?_
          · refine WPC.cond rfl (fun h4 => ?_) (fun h4 => ?_)
            · obtain ⟨hf0, hd0, hd1⟩ : f = 0 ∧ 0 ≤ drop ∧ drop ≤ (zs.length : Int) := by simpa [and_assoc] using h4
              obtain ⟨dm, rfl⟩ : ∃ dm : Nat, drop = (dm : Int) := ⟨drop.toNat, by omega⟩
              obtain ⟨hh5, hJ5⟩ : j5.held = j4.held.drop dm ∧ JInv n (T + 1 + k + 1 + q + 1) d5 j5 j5.held [] := by
                rcases hcase with h | h
                · exact absurd hf0 h.1
                · exact ⟨by have := h.2.2.2.1; rwa [Int.toNat_natCast] at this, h.2.2.2.2⟩
              refine WPC.region ?_
              refine WPL.imp (((Imp.pick (Δ := [sl false a3 (zs.map bsV), disk db d5, bytes zs, tblA]) (by repeat (first | exact Pick.nil | apply Pick.keep (by repeat (first | exact List.Mem.head _ | apply List.Mem.tail)) (by first | exact Pers.cells _ _ _ | exact Pers.slv _ _ _| exact hD | exact Pers.bytes _) | apply Pick.cons (by repeat (first | exact Pick1.here | apply Pick1.there))))).trans (Imp.bsDrop (m := dm) hzs (by omega))).trans ((Imp.pick (Δ := [bytes zs, sl false (cut a3 c3 dm (dm * 1)) ((zs.drop dm).map bsV), disk db d5, tblA]) (by repeat (first | exact Pick.nil | apply Pick.keep (by repeat (first | exact List.Mem.head _ | apply List.Mem.tail)) (by first | exact Pers.cells _ _ _ | exact Pers.slv _ _ _| exact hD | exact Pers.bytes _) | apply Pick.cons (by repeat (first | exact Pick1.here | apply Pick1.there))))).trans (bytes_cong (ys := zs.drop dm) fun y hy => List.mem_of_mem_drop hy))) ?_
              refine L_s (q_move rfl) rfl ?_
              refine L_s (q_move rfl) rfl ?_
              refine L_s (q_sliceLoC (l := dm) sl_sl_sl_uint8 rfl rfl (by omega) (by omega)) rfl ?_
              refine L_s (q_assign rfl) rfl ?_
              refine WPL.nil ?_
              refine thenQ_n ?_
              exact ⟨rfl, _, _, ⟨_, _, _, zs.drop dm, hJ5, by rw [map_drop_bs, hze, hh5, List.map_drop], fun q hq => hzo q (List.mem_of_mem_drop hq), by rw [List.length_drop], sokBsDrop hzs (by omega), rfl, rfl⟩, (by repeat (first | exact trivial | refine ⟨rfl, ?_⟩)), Imp.pick (by repeat (first | exact Pick.nil | apply Pick.keep (by repeat (first | exact List.Mem.head _ | apply List.Mem.tail)) (by first | exact Pers.cells _ _ _ | exact Pers.slv _ _ _ | exact hD | exact Pers.bytes _) | apply Pick.cons (by repeat (first | exact Pick1.here | apply Pick1.there))))⟩
            · obtain ⟨hd5, hj5⟩ : d5 = d4.sync ∧ j5 = j4 := by
                rcases hcase with h | h
                · exact ⟨h.2.1, h.2.2.1⟩
                · exfalso; have h7 : f = 0 ∧ 0 ≤ drop ∧ drop ≤ (zs.length : Int) := ⟨h.1, h.2.1, by rw [hzl]; exact h.2.2.1⟩; simp [h7.1, h7.2.1, h7.2.2] at h4
              subst hd5 hj5
              refine WPC.skip ?_
              refine thenQ_n ?_
              exact ⟨rfl, _, _, ⟨_, _, _, zs, hS.mono (by omega) (by omega), hze, hzo, rfl, hzs, rfl, rfl⟩, (by repeat (first | exact trivial | refine ⟨rfl, ?_⟩)), Imp.pick (by repeat (first | exact Pick.nil | apply Pick.keep (by repeat (first | exact List.Mem.head _ | apply List.Mem.tail)) (by first | exact Pers.cells _ _ _ | exact Pers.slv _ _ _ | exact hD | exact Pers.bytes _) | apply Pick.cons (by repeat (first | exact Pick1.here | apply Pick1.there))))⟩
          · rintro e Γ ⟨a4, c4, nq, qs, hJ5, hqe, hqo, hnq, hqs, rfl, rfl⟩
            have hql := bs_len hqe
            have hpl5 := hJ5.pl
            have hlen5 := Inv.hlen ⟨_, _, hJ5⟩
            obtain ⟨d6, j6, ho6, hJ6, hh6⟩ := crash_sure hJ5 (by omega) []
            refine WPC.seqR ?_
            refine L_s (q_move rfl) rfl ?_
            refine WPL.imp (Imp.slEmpty (p := false) (a := none)) ?_
            refine WPL.cons rfl (C1.call (c_call Tryd.func13 rfl rfl rfl) (c_Crash (ps := []) (a := none) (c := 0) (q := false) hJ5.ok (by omega) ⟨rfl, Nat.le_refl _, .inl rfl⟩) (by repeat (first | exact Pick.nil | apply Pick.keep (by repeat (first | exact List.Mem.head _ | apply List.Mem.tail)) (by first | exact Pers.cells _ _ _ | exact Pers.slv _ _ _ | exact hD | exact Pers.bytes _) | apply Pick.cons (by repeat (first | exact Pick1.here | apply Pick1.there)))) rfl ?_)
            rintro _ _ ⟨rfl, rfl⟩
            refine WPL.putS ?_
            refine WPL.nil ?_
            refine WPC.seqR ?_
            refine L_s (q_move rfl) rfl ?_
            refine L_s (q_move rfl) rfl ?_
            refine WPL.cons rfl (C1.call (c_call Tryd.func14 rfl rfl rfl) (c_OpenR hn ((Inv.clen ⟨_, _, hJ5⟩) _) (hJ5.ok.crash _) (by rw [crash_pl]; omega) ho6) (by repeat (first | exact Pick.nil | apply Pick.keep (by repeat (first | exact List.Mem.head _ | apply List.Mem.tail)) (by first | exact Pers.cells _ _ _ | exact Pers.slv _ _ _ | exact hD | exact Pers.bytes _) | apply Pick.cons (by repeat (first | exact Pick1.here | apply Pick1.there)))) rfl ?_)
            rintro _ _ ⟨b6, a6, c6, ws, rfl, hws, hwe, hwo, rfl⟩
            rw [hh6] at hwe
            have hwb := bs_bound hwe hJ5.hb hwo
            have hwl := bs_len hwe
            have e6 : decide (ws.map BS.bs = qs.map BS.bs) = true := by rw [hwe, hqe]; exact decide_eq_true rfl
            refine WPL.putS ?_
            refine L_s (q_move rfl) rfl ?_
            refine L_s (q_extract rfl rfl) rfl ?_
            refine L_s (q_extract rfl rfl) rfl ?_
            refine L_s (q_extract rfl rfl) rfl ?_
            refine L_s (q_assign rfl) rfl ?_
            refine L_s (q_assign rfl) rfl ?_
            refine L_s (q_assign rfl) rfl ?_
            refine WPL.nil ?_
            refine WPC.seqR ?_
            refine L_s (q_move rfl) rfl ?_
            refine L_s (q_move rfl) rfl ?_
            apply WPL.joinA (e' := [(0, _), (17, _), (20, _), (23, _)]) 125 128 3 rfl
            · intro g25_1
              try simp only [decide_eq_true_eq, decide_eq_false_iff_not, beq_iff_eq, bne_iff_ne, beq_eq_false_iff_ne, bne_eq_false_iff_eq, Bool.not_eq_true', Bool.not_eq_false', Bool.not_eq_eq_eq_not, Bool.not_true, Bool.not_false, ne_eq, Decidable.not_not, Int.not_lt, Int.not_le, gt_iff_lt, ge_iff_le] at g25_1
              refine L_yes rfl rfl (q_move rfl) rfl ?_
              refine L_yes rfl rfl (q_int rfl rfl rfl) rfl ?_
              first | refine L_s (q_pickT rfl rfl) rfl ?_ | refine L_s (q_pickF rfl rfl) rfl ?_
              first | exact WPL.jn rfl rfl (by repeat (first | exact trivial | refine ⟨rfl, ?_⟩)) | exact WPL.jnI rfl rfl (by repeat (first | exact trivial | refine ⟨rfl, ?_⟩)) (Imp.pick (by repeat (first | exact Pick.nil | apply Pick.keep (by repeat (first | exact List.Mem.head _ | apply List.Mem.tail)) (by first | exact Pers.cells _ _ _ | exact Pers.slv _ _ _ | exact hD | exact Pers.bytes _) | apply Pick.cons (by repeat (first | exact Pick1.here | apply Pick1.there)))))
            · intro g25_1
              try simp only [decide_eq_true_eq, decide_eq_false_iff_not, beq_iff_eq, bne_iff_ne, beq_eq_false_iff_ne, bne_eq_false_iff_eq, Bool.not_eq_true', Bool.not_eq_false', Bool.not_eq_eq_eq_not, Bool.not_true, Bool.not_false, ne_eq, Decidable.not_not, Int.not_lt, Int.not_le, gt_iff_lt, ge_iff_le] at g25_1
              refine L_no rfl rfl rfl rfl ?_
              refine L_no rfl rfl rfl rfl ?_
              first | refine L_s (q_pickT rfl rfl) rfl ?_ | refine L_s (q_pickF rfl rfl) rfl ?_
              first | exact WPL.jn rfl rfl (by repeat (first | exact trivial | refine ⟨rfl, ?_⟩)) | exact WPL.jnI rfl rfl (by repeat (first | exact trivial | refine ⟨rfl, ?_⟩)) (Imp.pick (by repeat (first | exact Pick.nil | apply Pick.keep (by repeat (first | exact List.Mem.head _ | apply List.Mem.tail)) (by first | exact Pers.cells _ _ _ | exact Pers.slv _ _ _ | exact hD | exact Pers.bytes _) | apply Pick.cons (by repeat (first | exact Pick1.here | apply Pick1.there)))))
            refine L_s (q_move rfl) rfl ?_
            apply WPL.joinA (e' := [(0, _), (17, _)]) 129 133 4 rfl
            · intro g25_5
              try simp only [decide_eq_true_eq, decide_eq_false_iff_not, beq_iff_eq, bne_iff_ne, beq_eq_false_iff_ne, bne_eq_false_iff_eq, Bool.not_eq_true', Bool.not_eq_false', Bool.not_eq_eq_eq_not, Bool.not_true, Bool.not_false, ne_eq, Decidable.not_not, Int.not_lt, Int.not_le, gt_iff_lt, ge_iff_le] at g25_5
              refine L_yes rfl rfl (q_move rfl) rfl ?_
              refine L_yes rfl rfl (q_move rfl) rfl ?_
              refine L_eyes rfl rfl rfl (C1.call (c_call Tryd.func15 rfl rfl rfl) (c_Same06g (p := false) (q := false) rfl hnq hws hqs (by omega) hwb hqo) (by repeat (first | exact Pick.nil | apply Pick.keep (by repeat (first | exact List.Mem.head _ | apply List.Mem.tail)) (by first | exact Pers.cells _ _ _ | exact Pers.slv _ _ _ | exact hD | exact Pers.bytes _) | apply Pick.cons (by repeat (first | exact Pick1.here | apply Pick1.there)))) rfl ?_)
              rintro _ _ ⟨rfl, rfl⟩
              rw [e6]
              refine WPL.putS ?_
              first | refine L_s (q_pickT rfl rfl) rfl ?_ | refine L_s (q_pickF rfl rfl) rfl ?_
              first | exact WPL.jn rfl rfl (by repeat (first | exact trivial | refine ⟨rfl, ?_⟩)) | exact WPL.jnI rfl rfl (by repeat (first | exact trivial | refine ⟨rfl, ?_⟩)) (Imp.pick (by repeat (first | exact Pick.nil | apply Pick.keep (by repeat (first | exact List.Mem.head _ | apply List.Mem.tail)) (by first | exact Pers.cells _ _ _ | exact Pers.slv _ _ _ | exact hD | exact Pers.bytes _) | apply Pick.cons (by repeat (first | exact Pick1.here | apply Pick1.there)))))
            · intro g25_5
              try simp only [decide_eq_true_eq, decide_eq_false_iff_not, beq_iff_eq, bne_iff_ne, beq_eq_false_iff_ne, bne_eq_false_iff_eq, Bool.not_eq_true', Bool.not_eq_false', Bool.not_eq_eq_eq_not, Bool.not_true, Bool.not_false, ne_eq, Decidable.not_not, Int.not_lt, Int.not_le, gt_iff_lt, ge_iff_le] at g25_5
              refine L_no rfl rfl rfl rfl ?_
              refine L_no rfl rfl rfl rfl ?_
              refine L_no rfl rfl rfl rfl ?_
              first | refine L_s (q_pickT rfl rfl) rfl ?_ | refine L_s (q_pickF rfl rfl) rfl ?_
              first | exact WPL.jn rfl rfl (by repeat (first | exact trivial | refine ⟨rfl, ?_⟩)) | exact WPL.jnI rfl rfl (by repeat (first | exact trivial | refine ⟨rfl, ?_⟩)) (Imp.pick (by repeat (first | exact Pick.nil | apply Pick.keep (by repeat (first | exact List.Mem.head _ | apply List.Mem.tail)) (by first | exact Pers.cells _ _ _ | exact Pers.slv _ _ _ | exact hD | exact Pers.bytes _) | apply Pick.cons (by repeat (first | exact Pick1.here | apply Pick1.there)))))
            refine L_s (q_move rfl) rfl ?_
            apply WPL.joinA (e' := []) 134 139 5 rfl
            · intro g25_10
              try simp only [decide_eq_true_eq, decide_eq_false_iff_not, beq_iff_eq, bne_iff_ne, beq_eq_false_iff_ne, bne_eq_false_iff_eq, Bool.not_eq_true', Bool.not_eq_false', Bool.not_eq_eq_eq_not, Bool.not_true, Bool.not_false, ne_eq, Decidable.not_not, Int.not_lt, Int.not_le, gt_iff_lt, ge_iff_le] at g25_10
              refine L_yes rfl rfl (q_move rfl) rfl ?_
              refine L_yes rfl rfl (q_len rfl un_sl_sl_uint8 rfl) rfl ?_
              refine L_yes rfl rfl (q_move rfl) rfl ?_
              refine L_yes rfl rfl (q_int rfl rfl rfl) rfl ?_
              first | refine L_s (q_pickT rfl rfl) rfl ?_ | refine L_s (q_pickF rfl rfl) rfl ?_
              first | exact WPL.jn rfl rfl (by repeat (first | exact trivial | refine ⟨rfl, ?_⟩)) | exact WPL.jnI rfl rfl (by repeat (first | exact trivial | refine ⟨rfl, ?_⟩)) (Imp.pick (by repeat (first | exact Pick.nil | apply Pick.keep (by repeat (first | exact List.Mem.head _ | apply List.Mem.tail)) (by first | exact Pers.cells _ _ _ | exact Pers.slv _ _ _ | exact hD | exact Pers.bytes _) | apply Pick.cons (by repeat (first | exact Pick1.here | apply Pick1.there)))))
            · intro g25_10
              try simp only [decide_eq_true_eq, decide_eq_false_iff_not, beq_iff_eq, bne_iff_ne, beq_eq_false_iff_ne, bne_eq_false_iff_eq, Bool.not_eq_true', Bool.not_eq_false', Bool.not_eq_eq_eq_not, Bool.not_true, Bool.not_false, ne_eq, Decidable.not_not, Int.not_lt, Int.not_le, gt_iff_lt, ge_iff_le] at g25_10
              refine L_no rfl rfl rfl rfl ?_
              refine L_no rfl rfl rfl rfl ?_
              refine L_no rfl rfl rfl rfl ?_
              refine L_no rfl rfl rfl rfl ?_
              first | refine L_s (q_pickT rfl rfl) rfl ?_ | refine L_s (q_pickF rfl rfl) rfl ?_
              first | exact WPL.jn rfl rfl (by repeat (first | exact trivial | refine ⟨rfl, ?_⟩)) | exact WPL.jnI rfl rfl (by repeat (first | exact trivial | refine ⟨rfl, ?_⟩)) (Imp.pick (by repeat (first | exact Pick.nil | apply Pick.keep (by repeat (first | exact List.Mem.head _ | apply List.Mem.tail)) (by first | exact Pers.cells _ _ _ | exact Pers.slv _ _ _ | exact hD | exact Pers.bytes _) | apply Pick.cons (by repeat (first | exact Pick1.here | apply Pick1.there)))))
            refine L_s (q_assign rfl) rfl ?_
            refine WPL.nil ?_
            refine WPC.ret ?_
            exact endR_r rfl (.tmp rfl .nil) (Imp.pick (by repeat (first | exact Pick.nil | apply Pick.keep (by repeat (first | exact List.Mem.head _ | apply List.Mem.tail)) (by first | exact Pers.cells _ _ _ | exact Pers.slv _ _ _ | exact Pers.bytes _) | apply Pick.cons (by repeat (first | exact Pick1.here | apply Pick1.there))))) ⟨by simp only [packV]; congr 1; simp; omega, rfl⟩

end Go.Sl
