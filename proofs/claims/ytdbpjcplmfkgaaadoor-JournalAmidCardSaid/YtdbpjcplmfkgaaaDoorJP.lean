/- Walks: the examples. -/
import Derived.Test.YtdbpjcplmfkgaaaDoorJO
namespace Go.Sl
open Go Go.RowKit Go.Proofs
set_option linter.unusedSimpArgs false
set_option linter.unusedVariables false
attribute [local irreducible] faB szB ldB zB zL slB mkB arB plB intB cells objc star stars buf slv grp whole Sat WPC WPL WPA WPO Trip

theorem c_openA : Trip Tryd.prog 30 #[.int .i64 4] [tblA] (fun r Δ => ∃ db b : Nat, r = .tuple #[.pointer (some ⟨db, 0, none⟩), .pointer (some ⟨b, 0, none⟩)] ∧ Δ = [jour b db a0.2, disk db a0.1]) :=
  (c_opened (n := 4) (by omega)).mono fun v Δ ⟨db, b, d, j, h1, h2, h3, h4⟩ => ⟨db, b, h1, by rw [a0_eq h2]; exact h4⟩

theorem c_ap {b db bA T : Nat} {p q : DK × JN} (xs : List By) {vs : List Value} (hv : vs = xs.map u8) (hI : Inv 4 T p.1 p.2) (hq : ap p xs = q) : Trip Tryd.prog 12 #[.pointer (some ⟨b, 0, none⟩), .slice (some ⟨bA, 0, none⟩) xs.length xs.length] [jour b db p.2, disk db p.1, tblA, cells true bA 0 vs] (fun r Δ => r = .int .i64 (apE p xs) ∧ Δ = [jour b db q.2, disk db q.1]) := by
  subst hv hq
  have hpl := hI.pl
  refine Trip.imp ((Imp.pick (Δ := [cells true bA 0 (xs.map u8), jour b db p.2, disk db p.1, tblA]) (by repeat (first | exact Pick.nil | apply Pick.keep (by repeat (first | exact List.Mem.head _ | apply List.Mem.tail)) (by first | exact Pers.cells _ _ _ | exact Pers.slv _ _ _ | exact Pers.bytes _) | apply Pick.cons (by repeat (first | exact Pick1.here | apply Pick1.there))))).trans ((Imp.freeze _ _ _ _).trans (Imp.pick (by repeat (first | exact Pick.nil | apply Pick.keep (by repeat (first | exact List.Mem.head _ | apply List.Mem.tail)) (by first | exact Pers.cells _ _ _ | exact Pers.slv _ _ _ | exact Pers.bytes _) | apply Pick.cons (by repeat (first | exact Pick1.here | apply Pick1.there))))))) (c_JAppend (a := some ⟨bA, 0, none⟩) (c := xs.length) hI.jok hI.ok (by omega) ⟨by simp, Nat.le_refl _, .inr (Pl.mk _ _)⟩)

theorem c_syP {b db T : Nat} {p q : DK × JN} (hI : Inv 4 T p.1 p.2) (hq : (p.1.sync, p.2) = q) : Trip Tryd.prog 10 #[.pointer (some ⟨b, 0, none⟩)] [jour b db p.2, disk db p.1] (fun r Δ => r = .tuple #[] ∧ Δ = [jour b db q.2, disk db q.1]) := by
  subst hq
  have hpl := hI.pl
  exact c_JSync hI.ok (by omega)

theorem c_tp {b db T : Nat} {p q : DK × JN} (k : Int) (hI : Inv 4 T p.1 p.2) (hq : tp p k = q) : Trip Tryd.prog 16 #[.pointer (some ⟨b, 0, none⟩), .int .i64 k] [jour b db p.2, disk db p.1, tblA] (fun r Δ => r = .int .i64 (tpE p k) ∧ Δ = [jour b db q.2, disk db q.1]) := by
  subst hq
  have hpl := hI.pl
  exact c_JTrim hI.jok hI.ok (by omega) hI.next_lt

theorem c_cp {b db T : Nat} {p q : DK × JN} (k : Int) (hI : Inv 4 T p.1 p.2) (hq : cp p k = q) : Trip Tryd.prog 18 #[.pointer (some ⟨b, 0, none⟩), .int .i64 k] [jour b db p.2, disk db p.1, tblA] (fun r Δ => r = .int .i64 (cpE p k) ∧ Δ = [jour b db q.2, disk db q.1]) := by
  subst hq
  have hpl := hI.pl
  exact c_JCut hI.jok hI.ok (by omega) hI.next_lt

attribute [local irreducible] a0 xA xB xC yC zA zC wC ap tp cp apE tpE cpE yN jopen0 txt
theorem c_awake  : Trip Tryd.prog 8 #[] [tblA] fun r Δ => r = .bool true ∧ Δ = [] := by
  refine Trip.start 182 [.tmp 0] [] Tryd.func8 rfl Tryd.ntmps8 rfl trivial rfl ?_
  refine WPC.seqR ?_
  refine L_s (q_assign rfl) rfl ?_
  refine WPL.nil ?_
  refine WPC.seqR ?_
  refine WPL.cons rfl (C1.call (c_call Tryd.func30 rfl rfl rfl) c_openA (by repeat (first | exact Pick.nil | apply Pick.keep (by repeat (first | exact List.Mem.head _ | apply List.Mem.tail)) (by first | exact Pers.cells _ _ _ | exact Pers.slv _ _ _ | exact Pers.bytes _) | apply Pick.cons (by repeat (first | exact Pick1.here | apply Pick1.there)))) rfl ?_)
  rintro _ _ ⟨db1, b1, rfl, rfl⟩
  refine WPL.putS ?_
  refine L_s (q_move rfl) rfl ?_
  refine L_s (q_extract rfl rfl) rfl ?_
  refine L_s (q_extract rfl rfl) rfl ?_
  refine L_s (q_assign rfl) rfl ?_
  refine L_s (q_assign rfl) rfl ?_
  refine WPL.nil ?_
  refine WPC.seqR ?_
  refine WPL.cons rfl (C1.call (c_call Tryd.func30 rfl rfl rfl) c_openA (by repeat (first | exact Pick.nil | apply Pick.keep (by repeat (first | exact List.Mem.head _ | apply List.Mem.tail)) (by first | exact Pers.cells _ _ _ | exact Pers.slv _ _ _ | exact Pers.bytes _) | apply Pick.cons (by repeat (first | exact Pick1.here | apply Pick1.there)))) rfl ?_)
  rintro _ _ ⟨db2, b2, rfl, rfl⟩
  refine WPL.putS ?_
  refine L_s (q_move rfl) rfl ?_
  refine L_s (q_extract rfl rfl) rfl ?_
  refine L_s (q_extract rfl rfl) rfl ?_
  refine L_s (q_assign rfl) rfl ?_
  refine L_s (q_assign rfl) rfl ?_
  refine WPL.nil ?_
  refine WPC.seqR ?_
  refine WPL.cons rfl (C1.call (c_call Tryd.func30 rfl rfl rfl) c_openA (by repeat (first | exact Pick.nil | apply Pick.keep (by repeat (first | exact List.Mem.head _ | apply List.Mem.tail)) (by first | exact Pers.cells _ _ _ | exact Pers.slv _ _ _ | exact Pers.bytes _) | apply Pick.cons (by repeat (first | exact Pick1.here | apply Pick1.there)))) rfl ?_)
  rintro _ _ ⟨db3, b3, rfl, rfl⟩
  refine WPL.putS ?_
  refine L_s (q_move rfl) rfl ?_
  refine L_s (q_extract rfl rfl) rfl ?_
  refine L_s (q_extract rfl rfl) rfl ?_
  refine L_s (q_assign rfl) rfl ?_
  refine L_s (q_assign rfl) rfl ?_
  refine WPL.nil ?_
  refine WPC.seqR ?_
  refine WPL.cons rfl (C1.call (c_call Tryd.func30 rfl rfl rfl) c_openA (by repeat (first | exact Pick.nil | apply Pick.keep (by repeat (first | exact List.Mem.head _ | apply List.Mem.tail)) (by first | exact Pers.cells _ _ _ | exact Pers.slv _ _ _ | exact Pers.bytes _) | apply Pick.cons (by repeat (first | exact Pick1.here | apply Pick1.there)))) rfl ?_)
  rintro _ _ ⟨db4, b4, rfl, rfl⟩
  refine WPL.putS ?_
  refine L_s (q_move rfl) rfl ?_
  refine L_s (q_extract rfl rfl) rfl ?_
  refine L_s (q_extract rfl rfl) rfl ?_
  refine L_s (q_assign rfl) rfl ?_
  refine L_s (q_assign rfl) rfl ?_
  refine WPL.nil ?_
  refine WPC.prune [(0, _), (1, _), (2, _), (3, _), (4, _), (6, _), (8, _)] (by repeat (first | exact trivial | refine ⟨rfl, ?_⟩)) ?_
  refine WPC.seq ?_
  refine WPC.seqR ?_
  refine L_s (q_move rfl) rfl ?_
  first | refine L_s (q_ptNilEq un_ptr_disk_Disk rfl rfl) rfl ?_ | refine L_s (q_ptNoneEq un_ptr_disk_Disk rfl rfl) rfl ?_
  refine L_s (q_move rfl) rfl ?_
  apply WPL.joinO (e' := [(0, _), (1, _), (2, _), (3, _), (4, _), (6, _), (8, _)]) 38 41 3 rfl
  · intro g5_2
    try simp only [decide_eq_true_eq, decide_eq_false_iff_not, beq_iff_eq, bne_iff_ne, beq_eq_false_iff_ne, bne_eq_false_iff_eq, Bool.not_eq_true', Bool.not_eq_false', Bool.not_eq_eq_eq_not, Bool.not_true, Bool.not_false, ne_eq, Decidable.not_not, Int.not_lt, Int.not_le, gt_iff_lt, ge_iff_le] at g5_2
    refine L_no rfl rfl rfl rfl ?_
    refine L_no rfl rfl rfl rfl ?_
    first | refine L_s (q_pickT rfl rfl) rfl ?_ | refine L_s (q_pickF rfl rfl) rfl ?_
    first | exact WPL.jn rfl rfl (by repeat (first | exact trivial | refine ⟨rfl, ?_⟩)) | exact WPL.jnI rfl rfl (by repeat (first | exact trivial | refine ⟨rfl, ?_⟩)) (Imp.pick (by repeat (first | exact Pick.nil | apply Pick.keep (by repeat (first | exact List.Mem.head _ | apply List.Mem.tail)) (by first | exact Pers.cells _ _ _ | exact Pers.slv _ _ _ | exact Pers.bytes _) | apply Pick.cons (by repeat (first | exact Pick1.here | apply Pick1.there)))))
  · intro g5_2
    try simp only [decide_eq_true_eq, decide_eq_false_iff_not, beq_iff_eq, bne_iff_ne, beq_eq_false_iff_ne, bne_eq_false_iff_eq, Bool.not_eq_true', Bool.not_eq_false', Bool.not_eq_eq_eq_not, Bool.not_true, Bool.not_false, ne_eq, Decidable.not_not, Int.not_lt, Int.not_le, gt_iff_lt, ge_iff_le] at g5_2
    refine L_yes rfl rfl (q_move rfl) rfl ?_
    first | refine L_yes rfl rfl (q_ptNilEq un_ptr_disk_Disk rfl rfl) rfl ?_ | refine L_yes rfl rfl (q_ptNoneEq un_ptr_disk_Disk rfl rfl) rfl ?_
    first | refine L_s (q_pickT rfl rfl) rfl ?_ | refine L_s (q_pickF rfl rfl) rfl ?_
    first | exact WPL.jn rfl rfl (by repeat (first | exact trivial | refine ⟨rfl, ?_⟩)) | exact WPL.jnI rfl rfl (by repeat (first | exact trivial | refine ⟨rfl, ?_⟩)) (Imp.pick (by repeat (first | exact Pick.nil | apply Pick.keep (by repeat (first | exact List.Mem.head _ | apply List.Mem.tail)) (by first | exact Pers.cells _ _ _ | exact Pers.slv _ _ _ | exact Pers.bytes _) | apply Pick.cons (by repeat (first | exact Pick1.here | apply Pick1.there)))))
  refine L_s (q_move rfl) rfl ?_
  apply WPL.joinO (e' := [(0, _), (1, _), (2, _), (3, _), (4, _), (6, _), (8, _)]) 42 45 3 rfl
  · intro g5_6
    try simp only [decide_eq_true_eq, decide_eq_false_iff_not, beq_iff_eq, bne_iff_ne, beq_eq_false_iff_ne, bne_eq_false_iff_eq, Bool.not_eq_true', Bool.not_eq_false', Bool.not_eq_eq_eq_not, Bool.not_true, Bool.not_false, ne_eq, Decidable.not_not, Int.not_lt, Int.not_le, gt_iff_lt, ge_iff_le] at g5_6
    refine L_no rfl rfl rfl rfl ?_
    refine L_no rfl rfl rfl rfl ?_
    first | refine L_s (q_pickT rfl rfl) rfl ?_ | refine L_s (q_pickF rfl rfl) rfl ?_
    first | exact WPL.jn rfl rfl (by repeat (first | exact trivial | refine ⟨rfl, ?_⟩)) | exact WPL.jnI rfl rfl (by repeat (first | exact trivial | refine ⟨rfl, ?_⟩)) (Imp.pick (by repeat (first | exact Pick.nil | apply Pick.keep (by repeat (first | exact List.Mem.head _ | apply List.Mem.tail)) (by first | exact Pers.cells _ _ _ | exact Pers.slv _ _ _ | exact Pers.bytes _) | apply Pick.cons (by repeat (first | exact Pick1.here | apply Pick1.there)))))
  · intro g5_6
    try simp only [decide_eq_true_eq, decide_eq_false_iff_not, beq_iff_eq, bne_iff_ne, beq_eq_false_iff_ne, bne_eq_false_iff_eq, Bool.not_eq_true', Bool.not_eq_false', Bool.not_eq_eq_eq_not, Bool.not_true, Bool.not_false, ne_eq, Decidable.not_not, Int.not_lt, Int.not_le, gt_iff_lt, ge_iff_le] at g5_6
    refine L_yes rfl rfl (q_move rfl) rfl ?_
    first | refine L_yes rfl rfl (q_ptNilEq un_ptr_journal_Journal rfl rfl) rfl ?_ | refine L_yes rfl rfl (q_ptNoneEq un_ptr_journal_Journal rfl rfl) rfl ?_
    first | refine L_s (q_pickT rfl rfl) rfl ?_ | refine L_s (q_pickF rfl rfl) rfl ?_
    first | exact WPL.jn rfl rfl (by repeat (first | exact trivial | refine ⟨rfl, ?_⟩)) | exact WPL.jnI rfl rfl (by repeat (first | exact trivial | refine ⟨rfl, ?_⟩)) (Imp.pick (by repeat (first | exact Pick.nil | apply Pick.keep (by repeat (first | exact List.Mem.head _ | apply List.Mem.tail)) (by first | exact Pers.cells _ _ _ | exact Pers.slv _ _ _ | exact Pers.bytes _) | apply Pick.cons (by repeat (first | exact Pick1.here | apply Pick1.there)))))
  refine L_s (q_move rfl) rfl ?_
  apply WPL.joinO (e' := [(0, _), (1, _), (2, _), (3, _), (4, _), (6, _), (8, _)]) 46 49 3 rfl
  · intro g5_10
    try simp only [decide_eq_true_eq, decide_eq_false_iff_not, beq_iff_eq, bne_iff_ne, beq_eq_false_iff_ne, bne_eq_false_iff_eq, Bool.not_eq_true', Bool.not_eq_false', Bool.not_eq_eq_eq_not, Bool.not_true, Bool.not_false, ne_eq, Decidable.not_not, Int.not_lt, Int.not_le, gt_iff_lt, ge_iff_le] at g5_10
    refine L_no rfl rfl rfl rfl ?_
    refine L_no rfl rfl rfl rfl ?_
    first | refine L_s (q_pickT rfl rfl) rfl ?_ | refine L_s (q_pickF rfl rfl) rfl ?_
    first | exact WPL.jn rfl rfl (by repeat (first | exact trivial | refine ⟨rfl, ?_⟩)) | exact WPL.jnI rfl rfl (by repeat (first | exact trivial | refine ⟨rfl, ?_⟩)) (Imp.pick (by repeat (first | exact Pick.nil | apply Pick.keep (by repeat (first | exact List.Mem.head _ | apply List.Mem.tail)) (by first | exact Pers.cells _ _ _ | exact Pers.slv _ _ _ | exact Pers.bytes _) | apply Pick.cons (by repeat (first | exact Pick1.here | apply Pick1.there)))))
  · intro g5_10
    try simp only [decide_eq_true_eq, decide_eq_false_iff_not, beq_iff_eq, bne_iff_ne, beq_eq_false_iff_ne, bne_eq_false_iff_eq, Bool.not_eq_true', Bool.not_eq_false', Bool.not_eq_eq_eq_not, Bool.not_true, Bool.not_false, ne_eq, Decidable.not_not, Int.not_lt, Int.not_le, gt_iff_lt, ge_iff_le] at g5_10
    refine L_yes rfl rfl (q_move rfl) rfl ?_
    first | refine L_yes rfl rfl (q_ptNilEq un_ptr_journal_Journal rfl rfl) rfl ?_ | refine L_yes rfl rfl (q_ptNoneEq un_ptr_journal_Journal rfl rfl) rfl ?_
    first | refine L_s (q_pickT rfl rfl) rfl ?_ | refine L_s (q_pickF rfl rfl) rfl ?_
    first | exact WPL.jn rfl rfl (by repeat (first | exact trivial | refine ⟨rfl, ?_⟩)) | exact WPL.jnI rfl rfl (by repeat (first | exact trivial | refine ⟨rfl, ?_⟩)) (Imp.pick (by repeat (first | exact Pick.nil | apply Pick.keep (by repeat (first | exact List.Mem.head _ | apply List.Mem.tail)) (by first | exact Pers.cells _ _ _ | exact Pers.slv _ _ _ | exact Pers.bytes _) | apply Pick.cons (by repeat (first | exact Pick1.here | apply Pick1.there)))))
  refine L_s (q_move rfl) rfl ?_
  apply WPL.joinO (e' := [(0, _), (1, _), (2, _), (3, _), (4, _), (6, _), (8, _)]) 50 53 3 rfl
  · intro g5_14
    try simp only [decide_eq_true_eq, decide_eq_false_iff_not, beq_iff_eq, bne_iff_ne, beq_eq_false_iff_ne, bne_eq_false_iff_eq, Bool.not_eq_true', Bool.not_eq_false', Bool.not_eq_eq_eq_not, Bool.not_true, Bool.not_false, ne_eq, Decidable.not_not, Int.not_lt, Int.not_le, gt_iff_lt, ge_iff_le] at g5_14
    refine L_no rfl rfl rfl rfl ?_
    refine L_no rfl rfl rfl rfl ?_
    first | refine L_s (q_pickT rfl rfl) rfl ?_ | refine L_s (q_pickF rfl rfl) rfl ?_
    first | exact WPL.jn rfl rfl (by repeat (first | exact trivial | refine ⟨rfl, ?_⟩)) | exact WPL.jnI rfl rfl (by repeat (first | exact trivial | refine ⟨rfl, ?_⟩)) (Imp.pick (by repeat (first | exact Pick.nil | apply Pick.keep (by repeat (first | exact List.Mem.head _ | apply List.Mem.tail)) (by first | exact Pers.cells _ _ _ | exact Pers.slv _ _ _ | exact Pers.bytes _) | apply Pick.cons (by repeat (first | exact Pick1.here | apply Pick1.there)))))
  · intro g5_14
    try simp only [decide_eq_true_eq, decide_eq_false_iff_not, beq_iff_eq, bne_iff_ne, beq_eq_false_iff_ne, bne_eq_false_iff_eq, Bool.not_eq_true', Bool.not_eq_false', Bool.not_eq_eq_eq_not, Bool.not_true, Bool.not_false, ne_eq, Decidable.not_not, Int.not_lt, Int.not_le, gt_iff_lt, ge_iff_le] at g5_14
    refine L_yes rfl rfl (q_move rfl) rfl ?_
    first | refine L_yes rfl rfl (q_ptNilEq un_ptr_journal_Journal rfl rfl) rfl ?_ | refine L_yes rfl rfl (q_ptNoneEq un_ptr_journal_Journal rfl rfl) rfl ?_
    first | refine L_s (q_pickT rfl rfl) rfl ?_ | refine L_s (q_pickF rfl rfl) rfl ?_
    first | exact WPL.jn rfl rfl (by repeat (first | exact trivial | refine ⟨rfl, ?_⟩)) | exact WPL.jnI rfl rfl (by repeat (first | exact trivial | refine ⟨rfl, ?_⟩)) (Imp.pick (by repeat (first | exact Pick.nil | apply Pick.keep (by repeat (first | exact List.Mem.head _ | apply List.Mem.tail)) (by first | exact Pers.cells _ _ _ | exact Pers.slv _ _ _ | exact Pers.bytes _) | apply Pick.cons (by repeat (first | exact Pick1.here | apply Pick1.there)))))
  refine L_s (q_move rfl) rfl ?_
  apply WPL.joinO (e' := [(0, _), (1, _), (2, _), (3, _), (4, _), (6, _), (8, _)]) 54 57 3 rfl
  · intro g5_18
    try simp only [decide_eq_true_eq, decide_eq_false_iff_not, beq_iff_eq, bne_iff_ne, beq_eq_false_iff_ne, bne_eq_false_iff_eq, Bool.not_eq_true', Bool.not_eq_false', Bool.not_eq_eq_eq_not, Bool.not_true, Bool.not_false, ne_eq, Decidable.not_not, Int.not_lt, Int.not_le, gt_iff_lt, ge_iff_le] at g5_18
    refine L_no rfl rfl rfl rfl ?_
    refine L_no rfl rfl rfl rfl ?_
    first | refine L_s (q_pickT rfl rfl) rfl ?_ | refine L_s (q_pickF rfl rfl) rfl ?_
    first | exact WPL.jn rfl rfl (by repeat (first | exact trivial | refine ⟨rfl, ?_⟩)) | exact WPL.jnI rfl rfl (by repeat (first | exact trivial | refine ⟨rfl, ?_⟩)) (Imp.pick (by repeat (first | exact Pick.nil | apply Pick.keep (by repeat (first | exact List.Mem.head _ | apply List.Mem.tail)) (by first | exact Pers.cells _ _ _ | exact Pers.slv _ _ _ | exact Pers.bytes _) | apply Pick.cons (by repeat (first | exact Pick1.here | apply Pick1.there)))))
  · intro g5_18
    try simp only [decide_eq_true_eq, decide_eq_false_iff_not, beq_iff_eq, bne_iff_ne, beq_eq_false_iff_ne, bne_eq_false_iff_eq, Bool.not_eq_true', Bool.not_eq_false', Bool.not_eq_eq_eq_not, Bool.not_true, Bool.not_false, ne_eq, Decidable.not_not, Int.not_lt, Int.not_le, gt_iff_lt, ge_iff_le] at g5_18
    refine L_yes rfl rfl (q_move rfl) rfl ?_
    first | refine L_yes rfl rfl (q_ptNilEq un_ptr_journal_Journal rfl rfl) rfl ?_ | refine L_yes rfl rfl (q_ptNoneEq un_ptr_journal_Journal rfl rfl) rfl ?_
    first | refine L_s (q_pickT rfl rfl) rfl ?_ | refine L_s (q_pickF rfl rfl) rfl ?_
    first | exact WPL.jn rfl rfl (by repeat (first | exact trivial | refine ⟨rfl, ?_⟩)) | exact WPL.jnI rfl rfl (by repeat (first | exact trivial | refine ⟨rfl, ?_⟩)) (Imp.pick (by repeat (first | exact Pick.nil | apply Pick.keep (by repeat (first | exact List.Mem.head _ | apply List.Mem.tail)) (by first | exact Pers.cells _ _ _ | exact Pers.slv _ _ _ | exact Pers.bytes _) | apply Pick.cons (by repeat (first | exact Pick1.here | apply Pick1.there)))))
  refine WPL.nil ?_
  refine WPC.cond rfl (fun h0 => ?_) (fun h0 => ?_)
  · try simp only [decide_eq_true_eq, decide_eq_false_iff_not, beq_iff_eq, bne_iff_ne, beq_eq_false_iff_ne, bne_eq_false_iff_eq, Bool.not_eq_true', Bool.not_eq_false', Bool.not_eq_eq_eq_not, Bool.not_true, Bool.not_false, ne_eq, Decidable.not_not, Int.not_lt, Int.not_le, gt_iff_lt, ge_iff_le] at h0
    simp at h0
  · skip
    refine WPC.skip ?_
    refine thenQ_n ?_
    refine WPC.seqR ?_
    refine L_s (q_move rfl) rfl ?_
    refine WPL.cons rfl (E1.wpo (e_buildSlice mk_sl_uint8 (by decide) rfl rfl rfl) rfl ?_)
    rintro _ _ ⟨bA, rfl, rfl⟩
    refine WPL.putS ?_
    refine WPL.cons rfl (C1.call (c_call Tryd.func12 rfl rfl rfl) (c_ap (q := (ap a0 [97])) [97] (vs := [.int .u8 97]) rfl a0_inv rfl) (by repeat (first | exact Pick.nil | apply Pick.keep (by repeat (first | exact List.Mem.head _ | apply List.Mem.tail)) (by first | exact Pers.cells _ _ _ | exact Pers.slv _ _ _ | exact Pers.bytes _) | apply Pick.cons (by repeat (first | exact Pick1.here | apply Pick1.there)))) rfl ?_)
    rintro _ _ ⟨rfl, rfl⟩
    refine WPL.putS ?_
    refine WPL.nil ?_
    refine WPC.seqR ?_
    refine L_s (q_move rfl) rfl ?_
    refine WPL.cons rfl (E1.wpo (e_buildSlice mk_sl_uint8 (by decide) rfl rfl rfl) rfl ?_)
    rintro _ _ ⟨bA2, rfl, rfl⟩
    refine WPL.putS ?_
    refine WPL.cons rfl (C1.call (c_call Tryd.func12 rfl rfl rfl) (c_ap (q := xA) [98] (vs := [.int .u8 98]) rfl (ap_inv a0_inv (by omega) _) e_xA) (by repeat (first | exact Pick.nil | apply Pick.keep (by repeat (first | exact List.Mem.head _ | apply List.Mem.tail)) (by first | exact Pers.cells _ _ _ | exact Pers.slv _ _ _ | exact Pers.bytes _) | apply Pick.cons (by repeat (first | exact Pick1.here | apply Pick1.there)))) rfl ?_)
    rintro _ _ ⟨rfl, rfl⟩
    refine WPL.putS ?_
    refine WPL.nil ?_
    refine WPC.seqR ?_
    refine L_s (q_move rfl) rfl ?_
    refine WPL.cons rfl (C1.call (c_call Tryd.func10 rfl rfl rfl) (c_syP (q := xB) xA_inv e_xB) (by repeat (first | exact Pick.nil | apply Pick.keep (by repeat (first | exact List.Mem.head _ | apply List.Mem.tail)) (by first | exact Pers.cells _ _ _ | exact Pers.slv _ _ _ | exact Pers.bytes _) | apply Pick.cons (by repeat (first | exact Pick1.here | apply Pick1.there)))) rfl ?_)
    rintro _ _ ⟨rfl, rfl⟩
    refine WPL.putS ?_
    refine WPL.nil ?_
    refine WPC.seqR ?_
    refine L_s (q_move rfl) rfl ?_
    refine WPL.cons rfl (E1.wpo (e_buildSlice mk_sl_uint8 (by decide) rfl rfl rfl) rfl ?_)
    rintro _ _ ⟨bA3, rfl, rfl⟩
    refine WPL.putS ?_
    refine WPL.cons rfl (C1.call (c_call Tryd.func12 rfl rfl rfl) (c_ap (q := xC) [99] (vs := [.int .u8 99]) rfl xB_inv e_xC) (by repeat (first | exact Pick.nil | apply Pick.keep (by repeat (first | exact List.Mem.head _ | apply List.Mem.tail)) (by first | exact Pers.cells _ _ _ | exact Pers.slv _ _ _ | exact Pers.bytes _) | apply Pick.cons (by repeat (first | exact Pick1.here | apply Pick1.there)))) rfl ?_)
    rintro _ _ ⟨rfl, rfl⟩
    refine WPL.putS ?_
    refine WPL.nil ?_
    refine WPC.seqR ?_
    refine L_s (q_move rfl) rfl ?_
    have hxpl := xC_inv.pl
    refine WPL.imp (Imp.slEmpty (p := false) (a := none)) ?_
    refine WPL.cons rfl (C1.call (c_call Tryd.func13 rfl rfl rfl) (c_Crash (ps := []) (a := none) (c := 0) (q := false) xC_inv.ok (by omega) ⟨rfl, Nat.le_refl _, .inl rfl⟩) (by repeat (first | exact Pick.nil | apply Pick.keep (by repeat (first | exact List.Mem.head _ | apply List.Mem.tail)) (by first | exact Pers.cells _ _ _ | exact Pers.slv _ _ _ | exact Pers.bytes _) | apply Pick.cons (by repeat (first | exact Pick1.here | apply Pick1.there)))) rfl ?_)
    rintro _ _ ⟨rfl, rfl⟩
    refine WPL.putS ?_
    refine WPL.nil ?_
    refine WPC.seqR ?_
    refine L_s (q_move rfl) rfl ?_
    obtain ⟨dx, jx, hxo, hxI, hxh⟩ := xO_inv
    refine WPL.cons rfl (C1.call (c_call Tryd.func14 rfl rfl rfl) (c_OpenJ (n := 4) (by omega) (xC_inv.clen _) (xC_inv.ok.crash _) (by rw [crash_pl]; omega) hxo) (by repeat (first | exact Pick.nil | apply Pick.keep (by repeat (first | exact List.Mem.head _ | apply List.Mem.tail)) (by first | exact Pers.cells _ _ _ | exact Pers.slv _ _ _ | exact Pers.bytes _) | apply Pick.cons (by repeat (first | exact Pick1.here | apply Pick1.there)))) rfl ?_)
    rintro _ _ ⟨bx, xa, xc, ys, rfl, -, hys, -, rfl⟩
    have hyl : ys.length = 2 := by have := congrArg List.length (hys.trans hxh); simpa using this
    refine WPL.putS ?_
    refine L_s (q_move rfl) rfl ?_
    refine L_s (q_extract rfl rfl) rfl ?_
    refine L_s (q_extract rfl rfl) rfl ?_
    refine L_s (q_extract rfl rfl) rfl ?_
    refine L_s (q_assign rfl) rfl ?_
    refine L_s (q_assign rfl) rfl ?_
    refine L_s (q_assign rfl) rfl ?_
    refine WPL.nil ?_
    refine WPC.prune [(0, _), (2, _), (3, _), (4, _), (6, _), (8, _), (9, _), (10, _)] (by repeat (first | exact trivial | refine ⟨rfl, ?_⟩)) ?_
    refine WPC.seq ?_
    refine WPC.seqR ?_
    refine L_s (q_assign rfl) rfl ?_
    refine WPL.nil ?_
    refine WPC.block ?_
    refine WPC.loopS (fun m e Γ => ∃ k : Nat, m = 3 - k ∧ k ≤ 3 ∧ e = [(2, .pointer (some ⟨bx, 0, none⟩)), (3, .pointer (some ⟨db2, 0, none⟩)), (4, .pointer (some ⟨b2, 0, none⟩)), (6, .pointer (some ⟨b3, 0, none⟩)), (8, .pointer (some ⟨b4, 0, none⟩)), (9, .slice xa ys.length xc), (10, .int .i64 0), (11, .int .i64 (k : Int))] ∧ Γ = [jour b2 db2 (yN k).2, disk db2 (yN k).1, jour bx db1 jx, jour b3 db3 a0.2, disk db3 a0.1, jour b4 db4 a0.2, disk db4 a0.1, tblA]) (3) ⟨0, rfl, by omega, rfl, by rw [yN_zero]⟩ (by repeat (first | exact trivial | refine ⟨rfl, ?_⟩)) (Imp.pick (by repeat (first | exact Pick.nil | apply Pick.keep (by repeat (first | exact List.Mem.head _ | apply List.Mem.tail)) (by first | exact Pers.cells _ _ _ | exact Pers.slv _ _ _ | exact Pers.bytes _) | apply Pick.cons (by repeat (first | exact Pick1.here | apply Pick1.there))))) ?_
    rintro m e Γ ⟨k, rfl, hk, rfl, rfl⟩
    refine WPC.seq ?_
    refine WPC.seqR ?_
    refine L_s (q_move rfl) rfl ?_
    refine L_s (q_int rfl rfl rfl) rfl ?_
    refine WPL.nil ?_
    refine WPC.cond rfl (fun h1 => ?_) (fun h1 => ?_)
    · simp only [decide_eq_true_eq] at h1
      refine WPC.skip ?_
      refine thenQ_n ?_
      refine WPC.seq ?_
      refine WPC.block ?_
      refine WPC.region ?_
      refine L_s (q_move rfl) rfl ?_
      refine L_s (q_move rfl) rfl ?_
      refine L_s (q_addN (a := 97) (b := k) rfl rfl (by omega)) rfl ?_
      refine L_s (q_conv8 (a := 97 + k) in_int in_uint8 rfl) rfl ?_
      refine WPL.cons rfl (E1.wpo (e_buildSlice mk_sl_uint8 (by decide) rfl rfl rfl) rfl ?_)
      rintro _ _ ⟨bA4, rfl, rfl⟩
      refine WPL.putS ?_
      refine WPL.cons rfl (C1.call (c_call Tryd.func12 rfl rfl rfl) (c_ap (q := (yN (k + 1))) [by_ (97 + k)] (vs := [.int .u8 (((97 + k) % 256 : Nat) : Int)]) rfl (yN_inv k (by omega)) (e_yN k)) (by repeat (first | exact Pick.nil | apply Pick.keep (by repeat (first | exact List.Mem.head _ | apply List.Mem.tail)) (by first | exact Pers.cells _ _ _ | exact Pers.slv _ _ _ | exact Pers.bytes _) | apply Pick.cons (by repeat (first | exact Pick1.here | apply Pick1.there)))) rfl ?_)
      rintro _ _ ⟨rfl, rfl⟩
      refine WPL.putS ?_
      refine WPL.nil ?_
      refine blockQ_n ?_
      refine thenQ_n ?_
      refine WPC.region ?_
      refine L_s (q_move rfl) rfl ?_
      first | refine L_s (q_inc rfl rfl (by omega)) rfl ?_ | refine L_s (q_addI rfl rfl (by omega)) rfl ?_ | refine L_s (q_int rfl rfl rfl) rfl ?_
      refine L_s (q_assign rfl) rfl ?_
      refine WPL.nil ?_
      refine thenQ_n ?_
      exact ⟨rfl, _, _, _, by omega, ⟨k + 1, rfl, by omega, rfl, rfl⟩, (by repeat (first | exact trivial | refine ⟨rfl, ?_⟩)), Imp.pick (by repeat (first | exact Pick.nil | apply Pick.keep (by repeat (first | exact List.Mem.head _ | apply List.Mem.tail)) (by first | exact Pers.cells _ _ _ | exact Pers.slv _ _ _ | exact Pers.bytes _) | apply Pick.cons (by repeat (first | exact Pick1.here | apply Pick1.there))))⟩
    · simp only [decide_eq_false_iff_not] at h1
      have hk3 : k = 3 := by omega
      subst hk3
      rw [yN_three]
      refine WPC.exit ?_
      refine thenQ_e ?_
      refine thenQ_e ?_
      refine blockQ_here ?_
      refine thenQ_n ?_
      refine WPC.seqR ?_
      refine L_s (q_move rfl) rfl ?_
      refine WPL.cons rfl (E1.wpo (e_buildSlice mk_sl_int (by decide) rfl rfl rfl) rfl ?_)
      rintro _ _ ⟨bP, rfl, rfl⟩
      refine WPL.putS ?_
      have hypl := yC_inv.pl
      refine WPL.cons rfl (C1.call (c_call Tryd.func13 rfl rfl rfl) (c_Crash (ps := [0, 64, 64]) (a := some ⟨bP, 0, none⟩) (c := 3) (q := true) yC_inv.ok (by omega) ⟨rfl, Nat.le_refl _, .inr (Pl.mk _ _)⟩) (by repeat (first | exact Pick.nil | apply Pick.keep (by repeat (first | exact List.Mem.head _ | apply List.Mem.tail)) (by first | exact Pers.cells _ _ _ | exact Pers.slv _ _ _ | exact Pers.bytes _) | apply Pick.cons (by repeat (first | exact Pick1.here | apply Pick1.there)))) rfl ?_)
      rintro _ _ ⟨rfl, rfl⟩
      refine WPL.putS ?_
      refine WPL.nil ?_
      refine WPC.seqR ?_
      refine L_s (q_move rfl) rfl ?_
      obtain ⟨dy, jy, hyo, hyI, hyh⟩ := yO_inv
      refine WPL.cons rfl (C1.call (c_call Tryd.func14 rfl rfl rfl) (c_OpenJ (n := 4) (by omega) (yC_inv.clen _) (yC_inv.ok.crash _) (by rw [crash_pl]; omega) hyo) (by repeat (first | exact Pick.nil | apply Pick.keep (by repeat (first | exact List.Mem.head _ | apply List.Mem.tail)) (by first | exact Pers.cells _ _ _ | exact Pers.slv _ _ _ | exact Pers.bytes _) | apply Pick.cons (by repeat (first | exact Pick1.here | apply Pick1.there)))) rfl ?_)
      rintro _ _ ⟨by_2, ya, yc, zs, rfl, -, hzs, -, rfl⟩
      have hzl : zs.length = 0 := by have := congrArg List.length hzs; rw [hyh] at this; simpa using this
      refine WPL.putS ?_
      refine L_s (q_move rfl) rfl ?_
      refine L_s (q_extract rfl rfl) rfl ?_
      refine L_s (q_extract rfl rfl) rfl ?_
      refine L_s (q_extract rfl rfl) rfl ?_
      refine L_s (q_assign rfl) rfl ?_
      refine L_s (q_assign rfl) rfl ?_
      refine L_s (q_assign rfl) rfl ?_
      refine WPL.nil ?_
      refine WPC.seq ?_
      refine WPC.seqR ?_
      refine L_s (q_move rfl) rfl ?_
      first | refine L_s (q_ptNilEq un_ptr_journal_Journal rfl rfl) rfl ?_ | refine L_s (q_ptNoneEq un_ptr_journal_Journal rfl rfl) rfl ?_
      refine L_s (q_move rfl) rfl ?_
      apply WPL.joinO (e' := [(2, _), (6, _), (8, _), (9, _), (10, _), (12, _), (13, _)]) 98 101 3 rfl
      · intro g19_2
        try simp only [decide_eq_true_eq, decide_eq_false_iff_not, beq_iff_eq, bne_iff_ne, beq_eq_false_iff_ne, bne_eq_false_iff_eq, Bool.not_eq_true', Bool.not_eq_false', Bool.not_eq_eq_eq_not, Bool.not_true, Bool.not_false, ne_eq, Decidable.not_not, Int.not_lt, Int.not_le, gt_iff_lt, ge_iff_le] at g19_2
        refine L_no rfl rfl rfl rfl ?_
        refine L_no rfl rfl rfl rfl ?_
        first | refine L_s (q_pickT rfl rfl) rfl ?_ | refine L_s (q_pickF rfl rfl) rfl ?_
        first | exact WPL.jn rfl rfl (by repeat (first | exact trivial | refine ⟨rfl, ?_⟩)) | exact WPL.jnI rfl rfl (by repeat (first | exact trivial | refine ⟨rfl, ?_⟩)) (Imp.pick (by repeat (first | exact Pick.nil | apply Pick.keep (by repeat (first | exact List.Mem.head _ | apply List.Mem.tail)) (by first | exact Pers.cells _ _ _ | exact Pers.slv _ _ _ | exact Pers.bytes _) | apply Pick.cons (by repeat (first | exact Pick1.here | apply Pick1.there)))))
      · intro g19_2
        try simp only [decide_eq_true_eq, decide_eq_false_iff_not, beq_iff_eq, bne_iff_ne, beq_eq_false_iff_ne, bne_eq_false_iff_eq, Bool.not_eq_true', Bool.not_eq_false', Bool.not_eq_eq_eq_not, Bool.not_true, Bool.not_false, ne_eq, Decidable.not_not, Int.not_lt, Int.not_le, gt_iff_lt, ge_iff_le] at g19_2
        refine L_yes rfl rfl (q_move rfl) rfl ?_
        first | refine L_yes rfl rfl (q_ptNilEq un_ptr_journal_Journal rfl rfl) rfl ?_ | refine L_yes rfl rfl (q_ptNoneEq un_ptr_journal_Journal rfl rfl) rfl ?_
        first | refine L_s (q_pickT rfl rfl) rfl ?_ | refine L_s (q_pickF rfl rfl) rfl ?_
        first | exact WPL.jn rfl rfl (by repeat (first | exact trivial | refine ⟨rfl, ?_⟩)) | exact WPL.jnI rfl rfl (by repeat (first | exact trivial | refine ⟨rfl, ?_⟩)) (Imp.pick (by repeat (first | exact Pick.nil | apply Pick.keep (by repeat (first | exact List.Mem.head _ | apply List.Mem.tail)) (by first | exact Pers.cells _ _ _ | exact Pers.slv _ _ _ | exact Pers.bytes _) | apply Pick.cons (by repeat (first | exact Pick1.here | apply Pick1.there)))))
      refine WPL.nil ?_
      refine WPC.cond rfl (fun h2 => ?_) (fun h2 => ?_)
      · try simp only [decide_eq_true_eq, decide_eq_false_iff_not, beq_iff_eq, bne_iff_ne, beq_eq_false_iff_ne, bne_eq_false_iff_eq, Bool.not_eq_true', Bool.not_eq_false', Bool.not_eq_eq_eq_not, Bool.not_true, Bool.not_false, ne_eq, Decidable.not_not, Int.not_lt, Int.not_le, gt_iff_lt, ge_iff_le] at h2
        simp at h2
      · skip
        refine WPC.skip ?_
        refine thenQ_n ?_
        refine WPC.seq ?_
        refine WPC.seqR ?_
        refine L_s (q_assign rfl) rfl ?_
        refine WPL.nil ?_
        refine WPC.block ?_
        refine WPC.loopS (fun m e Γ => ∃ k : Nat, m = 4 - k ∧ k ≤ 4 ∧ e = [(2, .pointer (some ⟨bx, 0, none⟩)), (6, .pointer (some ⟨b3, 0, none⟩)), (8, .pointer (some ⟨b4, 0, none⟩)), (9, .slice xa ys.length xc), (10, .int .i64 0), (12, .slice ya zs.length yc), (13, .int .i64 0), (14, .int .i64 (k : Int))] ∧ Γ = [jour b3 db3 (yN k).2, disk db3 (yN k).1, jour bx db1 jx, jour b4 db4 a0.2, disk db4 a0.1, tblA]) (4) ⟨0, rfl, by omega, rfl, by rw [yN_zero]⟩ (by repeat (first | exact trivial | refine ⟨rfl, ?_⟩)) (Imp.pick (by repeat (first | exact Pick.nil | apply Pick.keep (by repeat (first | exact List.Mem.head _ | apply List.Mem.tail)) (by first | exact Pers.cells _ _ _ | exact Pers.slv _ _ _ | exact Pers.bytes _) | apply Pick.cons (by repeat (first | exact Pick1.here | apply Pick1.there))))) ?_
        rintro m e Γ ⟨k, rfl, hk, rfl, rfl⟩
        refine WPC.seq ?_
        refine WPC.seqR ?_
        refine L_s (q_move rfl) rfl ?_
        refine L_s (q_int rfl rfl rfl) rfl ?_
        refine WPL.nil ?_
        refine WPC.cond rfl (fun h3 => ?_) (fun h3 => ?_)
        · simp only [decide_eq_true_eq] at h3
          refine WPC.skip ?_
          refine thenQ_n ?_
          refine WPC.seq ?_
          refine WPC.block ?_
          refine WPC.region ?_
          refine L_s (q_move rfl) rfl ?_
          refine L_s (q_move rfl) rfl ?_
          refine L_s (q_addN (a := 97) (b := k) rfl rfl (by omega)) rfl ?_
          refine L_s (q_conv8 (a := 97 + k) in_int in_uint8 rfl) rfl ?_
          refine WPL.cons rfl (E1.wpo (e_buildSlice mk_sl_uint8 (by decide) rfl rfl rfl) rfl ?_)
          rintro _ _ ⟨bA5, rfl, rfl⟩
          refine WPL.putS ?_
          refine WPL.cons rfl (C1.call (c_call Tryd.func12 rfl rfl rfl) (c_ap (q := (yN (k + 1))) [by_ (97 + k)] (vs := [.int .u8 (((97 + k) % 256 : Nat) : Int)]) rfl (yN_inv k (by omega)) (e_yN k)) (by repeat (first | exact Pick.nil | apply Pick.keep (by repeat (first | exact List.Mem.head _ | apply List.Mem.tail)) (by first | exact Pers.cells _ _ _ | exact Pers.slv _ _ _ | exact Pers.bytes _) | apply Pick.cons (by repeat (first | exact Pick1.here | apply Pick1.there)))) rfl ?_)
          rintro _ _ ⟨rfl, rfl⟩
          refine WPL.putS ?_
          refine WPL.nil ?_
          refine blockQ_n ?_
          refine thenQ_n ?_
          refine WPC.region ?_
          refine L_s (q_move rfl) rfl ?_
          first | refine L_s (q_inc rfl rfl (by omega)) rfl ?_ | refine L_s (q_addI rfl rfl (by omega)) rfl ?_ | refine L_s (q_int rfl rfl rfl) rfl ?_
          refine L_s (q_assign rfl) rfl ?_
          refine WPL.nil ?_
          refine thenQ_n ?_
          exact ⟨rfl, _, _, _, by omega, ⟨k + 1, rfl, by omega, rfl, rfl⟩, (by repeat (first | exact trivial | refine ⟨rfl, ?_⟩)), Imp.pick (by repeat (first | exact Pick.nil | apply Pick.keep (by repeat (first | exact List.Mem.head _ | apply List.Mem.tail)) (by first | exact Pers.cells _ _ _ | exact Pers.slv _ _ _ | exact Pers.bytes _) | apply Pick.cons (by repeat (first | exact Pick1.here | apply Pick1.there))))⟩
        · simp only [decide_eq_false_iff_not] at h3
          have hk3 : k = 4 := by omega
          subst hk3
          rw [yN_four]
          refine WPC.exit ?_
          refine thenQ_e ?_
          refine thenQ_e ?_
          refine blockQ_here ?_
          refine thenQ_n ?_
          refine WPC.seqR ?_
          refine L_s (q_move rfl) rfl ?_
          refine WPL.cons rfl (E1.wpo (e_buildSlice mk_sl_uint8 (by decide) rfl rfl rfl) rfl ?_)
          rintro _ _ ⟨bA6, rfl, rfl⟩
          refine WPL.putS ?_
          refine WPL.cons rfl (C1.call (c_call Tryd.func12 rfl rfl rfl) (c_ap (q := (ap zA [101])) [101] (vs := [.int .u8 101]) rfl zA_inv rfl) (by repeat (first | exact Pick.nil | apply Pick.keep (by repeat (first | exact List.Mem.head _ | apply List.Mem.tail)) (by first | exact Pers.cells _ _ _ | exact Pers.slv _ _ _ | exact Pers.bytes _) | apply Pick.cons (by repeat (first | exact Pick1.here | apply Pick1.there)))) rfl ?_)
          rintro _ _ ⟨rfl, rfl⟩
          refine WPL.putS ?_
          refine L_s (q_assign rfl) rfl ?_
          refine WPL.nil ?_
          refine WPC.seqR ?_
          refine L_s (q_move rfl) rfl ?_
          refine WPL.cons rfl (C1.call (c_call Tryd.func16 rfl rfl rfl) (c_tp (q := zC) 1 zB_inv e_zC) (by repeat (first | exact Pick.nil | apply Pick.keep (by repeat (first | exact List.Mem.head _ | apply List.Mem.tail)) (by first | exact Pers.cells _ _ _ | exact Pers.slv _ _ _ | exact Pers.bytes _) | apply Pick.cons (by repeat (first | exact Pick1.here | apply Pick1.there)))) rfl ?_)
          rintro _ _ ⟨rfl, rfl⟩
          refine WPL.putS ?_
          refine L_s (q_assign rfl) rfl ?_
          refine WPL.nil ?_
          refine WPC.seqR ?_
          refine L_s (q_move rfl) rfl ?_
          refine WPL.cons rfl (E1.wpo (e_buildSlice mk_sl_uint8 (by decide) rfl rfl rfl) rfl ?_)
          rintro _ _ ⟨bA7, rfl, rfl⟩
          refine WPL.putS ?_
          refine WPL.cons rfl (C1.call (c_call Tryd.func12 rfl rfl rfl) (c_ap (q := (ap zC [101])) [101] (vs := [.int .u8 101]) rfl zC_inv rfl) (by repeat (first | exact Pick.nil | apply Pick.keep (by repeat (first | exact List.Mem.head _ | apply List.Mem.tail)) (by first | exact Pers.cells _ _ _ | exact Pers.slv _ _ _ | exact Pers.bytes _) | apply Pick.cons (by repeat (first | exact Pick1.here | apply Pick1.there)))) rfl ?_)
          rintro _ _ ⟨rfl, rfl⟩
          refine WPL.putS ?_
          rw [z_err.1, z_err.2.1, z_err.2.2]
          refine L_s (q_assign rfl) rfl ?_
          refine WPL.nil ?_
          refine WPC.seq ?_
          refine WPC.seqR ?_
          refine L_s (q_assign rfl) rfl ?_
          refine WPL.nil ?_
          refine WPC.block ?_
          refine WPC.loopS (fun m e Γ => ∃ k : Nat, m = 3 - k ∧ k ≤ 3 ∧ e = [(2, .pointer (some ⟨bx, 0, none⟩)), (6, .pointer (some ⟨b3, 0, none⟩)), (8, .pointer (some ⟨b4, 0, none⟩)), (9, .slice xa ys.length xc), (10, .int .i64 0), (12, .slice ya zs.length yc), (13, .int .i64 0), (15, .int .i64 42), (16, .int .i64 0), (17, .int .i64 0), (18, .int .i64 (k : Int))] ∧ Γ = [jour b4 db4 (yN k).2, disk db4 (yN k).1, jour bx db1 jx, jour b3 db3 (ap zC [101]).2, tblA]) (3) ⟨0, rfl, by omega, rfl, by rw [yN_zero]⟩ (by repeat (first | exact trivial | refine ⟨rfl, ?_⟩)) (Imp.pick (by repeat (first | exact Pick.nil | apply Pick.keep (by repeat (first | exact List.Mem.head _ | apply List.Mem.tail)) (by first | exact Pers.cells _ _ _ | exact Pers.slv _ _ _ | exact Pers.bytes _) | apply Pick.cons (by repeat (first | exact Pick1.here | apply Pick1.there))))) ?_
          rintro m e Γ ⟨k, rfl, hk, rfl, rfl⟩
          refine WPC.seq ?_
          refine WPC.seqR ?_
          refine L_s (q_move rfl) rfl ?_
          refine L_s (q_int rfl rfl rfl) rfl ?_
          refine WPL.nil ?_
          refine WPC.cond rfl (fun h4 => ?_) (fun h4 => ?_)
          · simp only [decide_eq_true_eq] at h4
            refine WPC.skip ?_
            refine thenQ_n ?_
            refine WPC.seq ?_
            refine WPC.block ?_
            refine WPC.region ?_
            refine L_s (q_move rfl) rfl ?_
            refine L_s (q_move rfl) rfl ?_
            refine L_s (q_addN (a := 97) (b := k) rfl rfl (by omega)) rfl ?_
            refine L_s (q_conv8 (a := 97 + k) in_int in_uint8 rfl) rfl ?_
            refine WPL.cons rfl (E1.wpo (e_buildSlice mk_sl_uint8 (by decide) rfl rfl rfl) rfl ?_)
            rintro _ _ ⟨bA8, rfl, rfl⟩
            refine WPL.putS ?_
            refine WPL.cons rfl (C1.call (c_call Tryd.func12 rfl rfl rfl) (c_ap (q := (yN (k + 1))) [by_ (97 + k)] (vs := [.int .u8 (((97 + k) % 256 : Nat) : Int)]) rfl (yN_inv k (by omega)) (e_yN k)) (by repeat (first | exact Pick.nil | apply Pick.keep (by repeat (first | exact List.Mem.head _ | apply List.Mem.tail)) (by first | exact Pers.cells _ _ _ | exact Pers.slv _ _ _ | exact Pers.bytes _) | apply Pick.cons (by repeat (first | exact Pick1.here | apply Pick1.there)))) rfl ?_)
            rintro _ _ ⟨rfl, rfl⟩
            refine WPL.putS ?_
            refine WPL.nil ?_
            refine blockQ_n ?_
            refine thenQ_n ?_
            refine WPC.region ?_
            refine L_s (q_move rfl) rfl ?_
            first | refine L_s (q_inc rfl rfl (by omega)) rfl ?_ | refine L_s (q_addI rfl rfl (by omega)) rfl ?_ | refine L_s (q_int rfl rfl rfl) rfl ?_
            refine L_s (q_assign rfl) rfl ?_
            refine WPL.nil ?_
            refine thenQ_n ?_
            exact ⟨rfl, _, _, _, by omega, ⟨k + 1, rfl, by omega, rfl, rfl⟩, (by repeat (first | exact trivial | refine ⟨rfl, ?_⟩)), Imp.pick (by repeat (first | exact Pick.nil | apply Pick.keep (by repeat (first | exact List.Mem.head _ | apply List.Mem.tail)) (by first | exact Pers.cells _ _ _ | exact Pers.slv _ _ _ | exact Pers.bytes _) | apply Pick.cons (by repeat (first | exact Pick1.here | apply Pick1.there))))⟩
          · simp only [decide_eq_false_iff_not] at h4
            have hk3 : k = 3 := by omega
            subst hk3
            rw [yN_three]
            refine WPC.exit ?_
            refine thenQ_e ?_
            refine thenQ_e ?_
            refine blockQ_here ?_
            refine thenQ_n ?_
            refine WPC.seqR ?_
            refine L_s (q_move rfl) rfl ?_
            refine WPL.cons rfl (C1.call (c_call Tryd.func18 rfl rfl rfl) (c_cp (q := wC) 2 yC_inv e_wC) (by repeat (first | exact Pick.nil | apply Pick.keep (by repeat (first | exact List.Mem.head _ | apply List.Mem.tail)) (by first | exact Pers.cells _ _ _ | exact Pers.slv _ _ _ | exact Pers.bytes _) | apply Pick.cons (by repeat (first | exact Pick1.here | apply Pick1.there)))) rfl ?_)
            rintro _ _ ⟨rfl, rfl⟩
            rw [w_err]
            refine WPL.putS ?_
            refine L_s (q_assign rfl) rfl ?_
            refine WPL.nil ?_
            refine WPC.seqR ?_
            refine L_s (q_move rfl) rfl ?_
            refine WPL.cons rfl (E1.wpo (e_buildSlice mk_sl_uint8 (by decide) rfl rfl rfl) rfl ?_)
            rintro _ _ ⟨bA9, rfl, rfl⟩
            refine WPL.putS ?_
            refine WPL.cons rfl (C1.call (c_call Tryd.func12 rfl rfl rfl) (c_ap (q := (ap wC [100])) [100] (vs := [.int .u8 100]) rfl wC_inv rfl) (by repeat (first | exact Pick.nil | apply Pick.keep (by repeat (first | exact List.Mem.head _ | apply List.Mem.tail)) (by first | exact Pers.cells _ _ _ | exact Pers.slv _ _ _ | exact Pers.bytes _) | apply Pick.cons (by repeat (first | exact Pick1.here | apply Pick1.there)))) rfl ?_)
            rintro _ _ ⟨rfl, rfl⟩
            refine WPL.putS ?_
            refine WPL.nil ?_
            refine WPC.seqR ?_
            refine L_s (q_move rfl) rfl ?_
            refine L_s (q_int rfl rfl rfl) rfl ?_
            refine L_s (q_move rfl) rfl ?_
            apply WPL.joinA (e' := [(2, _), (6, _), (8, _), (12, _), (13, _), (15, _), (16, _), (17, _), (19, _)]) 137 141 4 rfl
            · intro g34_2
              try simp only [decide_eq_true_eq, decide_eq_false_iff_not, beq_iff_eq, bne_iff_ne, beq_eq_false_iff_ne, bne_eq_false_iff_eq, Bool.not_eq_true', Bool.not_eq_false', Bool.not_eq_eq_eq_not, Bool.not_true, Bool.not_false, ne_eq, Decidable.not_not, Int.not_lt, Int.not_le, gt_iff_lt, ge_iff_le] at g34_2
              refine L_yes rfl rfl (q_move rfl) rfl ?_
              refine L_yes rfl rfl (q_len rfl un_sl_sl_uint8 rfl) rfl ?_
              refine L_yes rfl rfl (q_int rfl rfl rfl) rfl ?_
              first | refine L_s (q_pickT rfl rfl) rfl ?_ | refine L_s (q_pickF rfl rfl) rfl ?_
              first | exact WPL.jn rfl rfl (by repeat (first | exact trivial | refine ⟨rfl, ?_⟩)) | exact WPL.jnI rfl rfl (by repeat (first | exact trivial | refine ⟨rfl, ?_⟩)) (Imp.pick (by repeat (first | exact Pick.nil | apply Pick.keep (by repeat (first | exact List.Mem.head _ | apply List.Mem.tail)) (by first | exact Pers.cells _ _ _ | exact Pers.slv _ _ _ | exact Pers.bytes _) | apply Pick.cons (by repeat (first | exact Pick1.here | apply Pick1.there)))))
            · intro g34_2
              try simp only [decide_eq_true_eq, decide_eq_false_iff_not, beq_iff_eq, bne_iff_ne, beq_eq_false_iff_ne, bne_eq_false_iff_eq, Bool.not_eq_true', Bool.not_eq_false', Bool.not_eq_eq_eq_not, Bool.not_true, Bool.not_false, ne_eq, Decidable.not_not, Int.not_lt, Int.not_le, gt_iff_lt, ge_iff_le] at g34_2
              refine L_no rfl rfl rfl rfl ?_
              refine L_no rfl rfl rfl rfl ?_
              refine L_no rfl rfl rfl rfl ?_
              first | refine L_s (q_pickT rfl rfl) rfl ?_ | refine L_s (q_pickF rfl rfl) rfl ?_
              first | exact WPL.jn rfl rfl (by repeat (first | exact trivial | refine ⟨rfl, ?_⟩)) | exact WPL.jnI rfl rfl (by repeat (first | exact trivial | refine ⟨rfl, ?_⟩)) (Imp.pick (by repeat (first | exact Pick.nil | apply Pick.keep (by repeat (first | exact List.Mem.head _ | apply List.Mem.tail)) (by first | exact Pers.cells _ _ _ | exact Pers.slv _ _ _ | exact Pers.bytes _) | apply Pick.cons (by repeat (first | exact Pick1.here | apply Pick1.there)))))
            refine L_s (q_move rfl) rfl ?_
            apply WPL.joinA (e' := [(6, _), (8, _), (12, _), (13, _), (15, _), (16, _), (17, _), (19, _)]) 142 146 4 rfl
            · intro g34_7
              try simp only [decide_eq_true_eq, decide_eq_false_iff_not, beq_iff_eq, bne_iff_ne, beq_eq_false_iff_ne, bne_eq_false_iff_eq, Bool.not_eq_true', Bool.not_eq_false', Bool.not_eq_eq_eq_not, Bool.not_true, Bool.not_false, ne_eq, Decidable.not_not, Int.not_lt, Int.not_le, gt_iff_lt, ge_iff_le] at g34_7
              refine L_yes rfl rfl (q_move rfl) rfl ?_
              refine L_eyes rfl rfl rfl (C1.call (c_call Tryd.func31 rfl rfl rfl) (c_texts (by intro x hx; have := hxI.hb x hx; omega) (by have := hxI.hlen; omega)) (by repeat (first | exact Pick.nil | apply Pick.keep (by repeat (first | exact List.Mem.head _ | apply List.Mem.tail)) (by first | exact Pers.cells _ _ _ | exact Pers.slv _ _ _ | exact Pers.bytes _) | apply Pick.cons (by repeat (first | exact Pick1.here | apply Pick1.there)))) rfl ?_)
              rintro _ _ ⟨rfl, rfl⟩
              refine WPL.putS ?_
              refine L_yes rfl rfl (q_strEq rfl rfl) rfl ?_
              first | refine L_s (q_pickT rfl rfl) rfl ?_ | refine L_s (q_pickF rfl rfl) rfl ?_
              first | exact WPL.jn rfl rfl (by repeat (first | exact trivial | refine ⟨rfl, ?_⟩)) | exact WPL.jnI rfl rfl (by repeat (first | exact trivial | refine ⟨rfl, ?_⟩)) (Imp.pick (by repeat (first | exact Pick.nil | apply Pick.keep (by repeat (first | exact List.Mem.head _ | apply List.Mem.tail)) (by first | exact Pers.cells _ _ _ | exact Pers.slv _ _ _ | exact Pers.bytes _) | apply Pick.cons (by repeat (first | exact Pick1.here | apply Pick1.there)))))
            · intro g34_7
              try simp only [decide_eq_true_eq, decide_eq_false_iff_not, beq_iff_eq, bne_iff_ne, beq_eq_false_iff_ne, bne_eq_false_iff_eq, Bool.not_eq_true', Bool.not_eq_false', Bool.not_eq_eq_eq_not, Bool.not_true, Bool.not_false, ne_eq, Decidable.not_not, Int.not_lt, Int.not_le, gt_iff_lt, ge_iff_le] at g34_7
              refine L_no rfl rfl rfl rfl ?_
              refine L_no rfl rfl rfl rfl ?_
              refine L_no rfl rfl rfl rfl ?_
              first | refine L_s (q_pickT rfl rfl) rfl ?_ | refine L_s (q_pickF rfl rfl) rfl ?_
              first | exact WPL.jn rfl rfl (by repeat (first | exact trivial | refine ⟨rfl, ?_⟩)) | exact WPL.jnI rfl rfl (by repeat (first | exact trivial | refine ⟨rfl, ?_⟩)) (Imp.pick (by repeat (first | exact Pick.nil | apply Pick.keep (by repeat (first | exact List.Mem.head _ | apply List.Mem.tail)) (by first | exact Pers.cells _ _ _ | exact Pers.slv _ _ _ | exact Pers.bytes _) | apply Pick.cons (by repeat (first | exact Pick1.here | apply Pick1.there)))))
            refine L_s (q_move rfl) rfl ?_
            apply WPL.joinA (e' := [(6, _), (8, _), (12, _), (15, _), (16, _), (17, _), (19, _)]) 147 150 3 rfl
            · intro g34_12
              try simp only [decide_eq_true_eq, decide_eq_false_iff_not, beq_iff_eq, bne_iff_ne, beq_eq_false_iff_ne, bne_eq_false_iff_eq, Bool.not_eq_true', Bool.not_eq_false', Bool.not_eq_eq_eq_not, Bool.not_true, Bool.not_false, ne_eq, Decidable.not_not, Int.not_lt, Int.not_le, gt_iff_lt, ge_iff_le] at g34_12
              refine L_yes rfl rfl (q_move rfl) rfl ?_
              refine L_yes rfl rfl (q_int rfl rfl rfl) rfl ?_
              first | refine L_s (q_pickT rfl rfl) rfl ?_ | refine L_s (q_pickF rfl rfl) rfl ?_
              first | exact WPL.jn rfl rfl (by repeat (first | exact trivial | refine ⟨rfl, ?_⟩)) | exact WPL.jnI rfl rfl (by repeat (first | exact trivial | refine ⟨rfl, ?_⟩)) (Imp.pick (by repeat (first | exact Pick.nil | apply Pick.keep (by repeat (first | exact List.Mem.head _ | apply List.Mem.tail)) (by first | exact Pers.cells _ _ _ | exact Pers.slv _ _ _ | exact Pers.bytes _) | apply Pick.cons (by repeat (first | exact Pick1.here | apply Pick1.there)))))
            · intro g34_12
              try simp only [decide_eq_true_eq, decide_eq_false_iff_not, beq_iff_eq, bne_iff_ne, beq_eq_false_iff_ne, bne_eq_false_iff_eq, Bool.not_eq_true', Bool.not_eq_false', Bool.not_eq_eq_eq_not, Bool.not_true, Bool.not_false, ne_eq, Decidable.not_not, Int.not_lt, Int.not_le, gt_iff_lt, ge_iff_le] at g34_12
              refine L_no rfl rfl rfl rfl ?_
              refine L_no rfl rfl rfl rfl ?_
              first | refine L_s (q_pickT rfl rfl) rfl ?_ | refine L_s (q_pickF rfl rfl) rfl ?_
              first | exact WPL.jn rfl rfl (by repeat (first | exact trivial | refine ⟨rfl, ?_⟩)) | exact WPL.jnI rfl rfl (by repeat (first | exact trivial | refine ⟨rfl, ?_⟩)) (Imp.pick (by repeat (first | exact Pick.nil | apply Pick.keep (by repeat (first | exact List.Mem.head _ | apply List.Mem.tail)) (by first | exact Pers.cells _ _ _ | exact Pers.slv _ _ _ | exact Pers.bytes _) | apply Pick.cons (by repeat (first | exact Pick1.here | apply Pick1.there)))))
            refine L_s (q_move rfl) rfl ?_
            apply WPL.joinA (e' := [(6, _), (8, _), (15, _), (16, _), (17, _), (19, _)]) 151 155 4 rfl
            · intro g34_16
              try simp only [decide_eq_true_eq, decide_eq_false_iff_not, beq_iff_eq, bne_iff_ne, beq_eq_false_iff_ne, bne_eq_false_iff_eq, Bool.not_eq_true', Bool.not_eq_false', Bool.not_eq_eq_eq_not, Bool.not_true, Bool.not_false, ne_eq, Decidable.not_not, Int.not_lt, Int.not_le, gt_iff_lt, ge_iff_le] at g34_16
              refine L_yes rfl rfl (q_move rfl) rfl ?_
              refine L_yes rfl rfl (q_len rfl un_sl_sl_uint8 rfl) rfl ?_
              refine L_yes rfl rfl (q_int rfl rfl rfl) rfl ?_
              first | refine L_s (q_pickT rfl rfl) rfl ?_ | refine L_s (q_pickF rfl rfl) rfl ?_
              first | exact WPL.jn rfl rfl (by repeat (first | exact trivial | refine ⟨rfl, ?_⟩)) | exact WPL.jnI rfl rfl (by repeat (first | exact trivial | refine ⟨rfl, ?_⟩)) (Imp.pick (by repeat (first | exact Pick.nil | apply Pick.keep (by repeat (first | exact List.Mem.head _ | apply List.Mem.tail)) (by first | exact Pers.cells _ _ _ | exact Pers.slv _ _ _ | exact Pers.bytes _) | apply Pick.cons (by repeat (first | exact Pick1.here | apply Pick1.there)))))
            · intro g34_16
              try simp only [decide_eq_true_eq, decide_eq_false_iff_not, beq_iff_eq, bne_iff_ne, beq_eq_false_iff_ne, bne_eq_false_iff_eq, Bool.not_eq_true', Bool.not_eq_false', Bool.not_eq_eq_eq_not, Bool.not_true, Bool.not_false, ne_eq, Decidable.not_not, Int.not_lt, Int.not_le, gt_iff_lt, ge_iff_le] at g34_16
              refine L_no rfl rfl rfl rfl ?_
              refine L_no rfl rfl rfl rfl ?_
              refine L_no rfl rfl rfl rfl ?_
              first | refine L_s (q_pickT rfl rfl) rfl ?_ | refine L_s (q_pickF rfl rfl) rfl ?_
              first | exact WPL.jn rfl rfl (by repeat (first | exact trivial | refine ⟨rfl, ?_⟩)) | exact WPL.jnI rfl rfl (by repeat (first | exact trivial | refine ⟨rfl, ?_⟩)) (Imp.pick (by repeat (first | exact Pick.nil | apply Pick.keep (by repeat (first | exact List.Mem.head _ | apply List.Mem.tail)) (by first | exact Pers.cells _ _ _ | exact Pers.slv _ _ _ | exact Pers.bytes _) | apply Pick.cons (by repeat (first | exact Pick1.here | apply Pick1.there)))))
            refine L_s (q_move rfl) rfl ?_
            apply WPL.joinA (e' := [(6, _), (8, _), (16, _), (17, _), (19, _)]) 156 159 3 rfl
            · intro g34_21
              try simp only [decide_eq_true_eq, decide_eq_false_iff_not, beq_iff_eq, bne_iff_ne, beq_eq_false_iff_ne, bne_eq_false_iff_eq, Bool.not_eq_true', Bool.not_eq_false', Bool.not_eq_eq_eq_not, Bool.not_true, Bool.not_false, ne_eq, Decidable.not_not, Int.not_lt, Int.not_le, gt_iff_lt, ge_iff_le] at g34_21
              refine L_yes rfl rfl (q_move rfl) rfl ?_
              refine L_yes rfl rfl (q_int rfl rfl rfl) rfl ?_
              first | refine L_s (q_pickT rfl rfl) rfl ?_ | refine L_s (q_pickF rfl rfl) rfl ?_
              first | exact WPL.jn rfl rfl (by repeat (first | exact trivial | refine ⟨rfl, ?_⟩)) | exact WPL.jnI rfl rfl (by repeat (first | exact trivial | refine ⟨rfl, ?_⟩)) (Imp.pick (by repeat (first | exact Pick.nil | apply Pick.keep (by repeat (first | exact List.Mem.head _ | apply List.Mem.tail)) (by first | exact Pers.cells _ _ _ | exact Pers.slv _ _ _ | exact Pers.bytes _) | apply Pick.cons (by repeat (first | exact Pick1.here | apply Pick1.there)))))
            · intro g34_21
              try simp only [decide_eq_true_eq, decide_eq_false_iff_not, beq_iff_eq, bne_iff_ne, beq_eq_false_iff_ne, bne_eq_false_iff_eq, Bool.not_eq_true', Bool.not_eq_false', Bool.not_eq_eq_eq_not, Bool.not_true, Bool.not_false, ne_eq, Decidable.not_not, Int.not_lt, Int.not_le, gt_iff_lt, ge_iff_le] at g34_21
              refine L_no rfl rfl rfl rfl ?_
              refine L_no rfl rfl rfl rfl ?_
              first | refine L_s (q_pickT rfl rfl) rfl ?_ | refine L_s (q_pickF rfl rfl) rfl ?_
              first | exact WPL.jn rfl rfl (by repeat (first | exact trivial | refine ⟨rfl, ?_⟩)) | exact WPL.jnI rfl rfl (by repeat (first | exact trivial | refine ⟨rfl, ?_⟩)) (Imp.pick (by repeat (first | exact Pick.nil | apply Pick.keep (by repeat (first | exact List.Mem.head _ | apply List.Mem.tail)) (by first | exact Pers.cells _ _ _ | exact Pers.slv _ _ _ | exact Pers.bytes _) | apply Pick.cons (by repeat (first | exact Pick1.here | apply Pick1.there)))))
            refine L_s (q_move rfl) rfl ?_
            apply WPL.joinA (e' := [(6, _), (8, _), (17, _), (19, _)]) 160 163 3 rfl
            · intro g34_25
              try simp only [decide_eq_true_eq, decide_eq_false_iff_not, beq_iff_eq, bne_iff_ne, beq_eq_false_iff_ne, bne_eq_false_iff_eq, Bool.not_eq_true', Bool.not_eq_false', Bool.not_eq_eq_eq_not, Bool.not_true, Bool.not_false, ne_eq, Decidable.not_not, Int.not_lt, Int.not_le, gt_iff_lt, ge_iff_le] at g34_25
              refine L_yes rfl rfl (q_move rfl) rfl ?_
              refine L_yes rfl rfl (q_int rfl rfl rfl) rfl ?_
              first | refine L_s (q_pickT rfl rfl) rfl ?_ | refine L_s (q_pickF rfl rfl) rfl ?_
              first | exact WPL.jn rfl rfl (by repeat (first | exact trivial | refine ⟨rfl, ?_⟩)) | exact WPL.jnI rfl rfl (by repeat (first | exact trivial | refine ⟨rfl, ?_⟩)) (Imp.pick (by repeat (first | exact Pick.nil | apply Pick.keep (by repeat (first | exact List.Mem.head _ | apply List.Mem.tail)) (by first | exact Pers.cells _ _ _ | exact Pers.slv _ _ _ | exact Pers.bytes _) | apply Pick.cons (by repeat (first | exact Pick1.here | apply Pick1.there)))))
            · intro g34_25
              try simp only [decide_eq_true_eq, decide_eq_false_iff_not, beq_iff_eq, bne_iff_ne, beq_eq_false_iff_ne, bne_eq_false_iff_eq, Bool.not_eq_true', Bool.not_eq_false', Bool.not_eq_eq_eq_not, Bool.not_true, Bool.not_false, ne_eq, Decidable.not_not, Int.not_lt, Int.not_le, gt_iff_lt, ge_iff_le] at g34_25
              refine L_no rfl rfl rfl rfl ?_
              refine L_no rfl rfl rfl rfl ?_
              first | refine L_s (q_pickT rfl rfl) rfl ?_ | refine L_s (q_pickF rfl rfl) rfl ?_
              first | exact WPL.jn rfl rfl (by repeat (first | exact trivial | refine ⟨rfl, ?_⟩)) | exact WPL.jnI rfl rfl (by repeat (first | exact trivial | refine ⟨rfl, ?_⟩)) (Imp.pick (by repeat (first | exact Pick.nil | apply Pick.keep (by repeat (first | exact List.Mem.head _ | apply List.Mem.tail)) (by first | exact Pers.cells _ _ _ | exact Pers.slv _ _ _ | exact Pers.bytes _) | apply Pick.cons (by repeat (first | exact Pick1.here | apply Pick1.there)))))
            refine L_s (q_move rfl) rfl ?_
            apply WPL.joinA (e' := [(6, _), (8, _), (19, _)]) 164 167 3 rfl
            · intro g34_29
              try simp only [decide_eq_true_eq, decide_eq_false_iff_not, beq_iff_eq, bne_iff_ne, beq_eq_false_iff_ne, bne_eq_false_iff_eq, Bool.not_eq_true', Bool.not_eq_false', Bool.not_eq_eq_eq_not, Bool.not_true, Bool.not_false, ne_eq, Decidable.not_not, Int.not_lt, Int.not_le, gt_iff_lt, ge_iff_le] at g34_29
              refine L_yes rfl rfl (q_move rfl) rfl ?_
              refine L_yes rfl rfl (q_int rfl rfl rfl) rfl ?_
              first | refine L_s (q_pickT rfl rfl) rfl ?_ | refine L_s (q_pickF rfl rfl) rfl ?_
              first | exact WPL.jn rfl rfl (by repeat (first | exact trivial | refine ⟨rfl, ?_⟩)) | exact WPL.jnI rfl rfl (by repeat (first | exact trivial | refine ⟨rfl, ?_⟩)) (Imp.pick (by repeat (first | exact Pick.nil | apply Pick.keep (by repeat (first | exact List.Mem.head _ | apply List.Mem.tail)) (by first | exact Pers.cells _ _ _ | exact Pers.slv _ _ _ | exact Pers.bytes _) | apply Pick.cons (by repeat (first | exact Pick1.here | apply Pick1.there)))))
            · intro g34_29
              try simp only [decide_eq_true_eq, decide_eq_false_iff_not, beq_iff_eq, bne_iff_ne, beq_eq_false_iff_ne, bne_eq_false_iff_eq, Bool.not_eq_true', Bool.not_eq_false', Bool.not_eq_eq_eq_not, Bool.not_true, Bool.not_false, ne_eq, Decidable.not_not, Int.not_lt, Int.not_le, gt_iff_lt, ge_iff_le] at g34_29
              refine L_no rfl rfl rfl rfl ?_
              refine L_no rfl rfl rfl rfl ?_
              first | refine L_s (q_pickT rfl rfl) rfl ?_ | refine L_s (q_pickF rfl rfl) rfl ?_
              first | exact WPL.jn rfl rfl (by repeat (first | exact trivial | refine ⟨rfl, ?_⟩)) | exact WPL.jnI rfl rfl (by repeat (first | exact trivial | refine ⟨rfl, ?_⟩)) (Imp.pick (by repeat (first | exact Pick.nil | apply Pick.keep (by repeat (first | exact List.Mem.head _ | apply List.Mem.tail)) (by first | exact Pers.cells _ _ _ | exact Pers.slv _ _ _ | exact Pers.bytes _) | apply Pick.cons (by repeat (first | exact Pick1.here | apply Pick1.there)))))
            refine L_s (q_move rfl) rfl ?_
            apply WPL.joinA (e' := [(8, _), (19, _)]) 168 172 4 rfl
            · intro g34_33
              try simp only [decide_eq_true_eq, decide_eq_false_iff_not, beq_iff_eq, bne_iff_ne, beq_eq_false_iff_ne, bne_eq_false_iff_eq, Bool.not_eq_true', Bool.not_eq_false', Bool.not_eq_eq_eq_not, Bool.not_true, Bool.not_false, ne_eq, Decidable.not_not, Int.not_lt, Int.not_le, gt_iff_lt, ge_iff_le] at g34_33
              refine L_yes rfl rfl (q_move rfl) rfl ?_
              refine L_eyes rfl rfl rfl (C1.call (c_call Tryd.func31 rfl rfl rfl) (c_texts (by intro x hx; have := zD_inv.hb x hx; omega) (by have := zD_inv.hlen; omega)) (by repeat (first | exact Pick.nil | apply Pick.keep (by repeat (first | exact List.Mem.head _ | apply List.Mem.tail)) (by first | exact Pers.cells _ _ _ | exact Pers.slv _ _ _ | exact Pers.bytes _) | apply Pick.cons (by repeat (first | exact Pick1.here | apply Pick1.there)))) rfl ?_)
              rintro _ _ ⟨rfl, rfl⟩
              refine WPL.putS ?_
              refine L_yes rfl rfl (q_strEq rfl rfl) rfl ?_
              first | refine L_s (q_pickT rfl rfl) rfl ?_ | refine L_s (q_pickF rfl rfl) rfl ?_
              first | exact WPL.jn rfl rfl (by repeat (first | exact trivial | refine ⟨rfl, ?_⟩)) | exact WPL.jnI rfl rfl (by repeat (first | exact trivial | refine ⟨rfl, ?_⟩)) (Imp.pick (by repeat (first | exact Pick.nil | apply Pick.keep (by repeat (first | exact List.Mem.head _ | apply List.Mem.tail)) (by first | exact Pers.cells _ _ _ | exact Pers.slv _ _ _ | exact Pers.bytes _) | apply Pick.cons (by repeat (first | exact Pick1.here | apply Pick1.there)))))
            · intro g34_33
              try simp only [decide_eq_true_eq, decide_eq_false_iff_not, beq_iff_eq, bne_iff_ne, beq_eq_false_iff_ne, bne_eq_false_iff_eq, Bool.not_eq_true', Bool.not_eq_false', Bool.not_eq_eq_eq_not, Bool.not_true, Bool.not_false, ne_eq, Decidable.not_not, Int.not_lt, Int.not_le, gt_iff_lt, ge_iff_le] at g34_33
              refine L_no rfl rfl rfl rfl ?_
              refine L_no rfl rfl rfl rfl ?_
              refine L_no rfl rfl rfl rfl ?_
              first | refine L_s (q_pickT rfl rfl) rfl ?_ | refine L_s (q_pickF rfl rfl) rfl ?_
              first | exact WPL.jn rfl rfl (by repeat (first | exact trivial | refine ⟨rfl, ?_⟩)) | exact WPL.jnI rfl rfl (by repeat (first | exact trivial | refine ⟨rfl, ?_⟩)) (Imp.pick (by repeat (first | exact Pick.nil | apply Pick.keep (by repeat (first | exact List.Mem.head _ | apply List.Mem.tail)) (by first | exact Pers.cells _ _ _ | exact Pers.slv _ _ _ | exact Pers.bytes _) | apply Pick.cons (by repeat (first | exact Pick1.here | apply Pick1.there)))))
            refine L_s (q_move rfl) rfl ?_
            apply WPL.joinA (e' := [(8, _)]) 173 176 3 rfl
            · intro g34_38
              try simp only [decide_eq_true_eq, decide_eq_false_iff_not, beq_iff_eq, bne_iff_ne, beq_eq_false_iff_ne, bne_eq_false_iff_eq, Bool.not_eq_true', Bool.not_eq_false', Bool.not_eq_eq_eq_not, Bool.not_true, Bool.not_false, ne_eq, Decidable.not_not, Int.not_lt, Int.not_le, gt_iff_lt, ge_iff_le] at g34_38
              refine L_yes rfl rfl (q_move rfl) rfl ?_
              refine L_yes rfl rfl (q_int rfl rfl rfl) rfl ?_
              first | refine L_s (q_pickT rfl rfl) rfl ?_ | refine L_s (q_pickF rfl rfl) rfl ?_
              first | exact WPL.jn rfl rfl (by repeat (first | exact trivial | refine ⟨rfl, ?_⟩)) | exact WPL.jnI rfl rfl (by repeat (first | exact trivial | refine ⟨rfl, ?_⟩)) (Imp.pick (by repeat (first | exact Pick.nil | apply Pick.keep (by repeat (first | exact List.Mem.head _ | apply List.Mem.tail)) (by first | exact Pers.cells _ _ _ | exact Pers.slv _ _ _ | exact Pers.bytes _) | apply Pick.cons (by repeat (first | exact Pick1.here | apply Pick1.there)))))
            · intro g34_38
              try simp only [decide_eq_true_eq, decide_eq_false_iff_not, beq_iff_eq, bne_iff_ne, beq_eq_false_iff_ne, bne_eq_false_iff_eq, Bool.not_eq_true', Bool.not_eq_false', Bool.not_eq_eq_eq_not, Bool.not_true, Bool.not_false, ne_eq, Decidable.not_not, Int.not_lt, Int.not_le, gt_iff_lt, ge_iff_le] at g34_38
              refine L_no rfl rfl rfl rfl ?_
              refine L_no rfl rfl rfl rfl ?_
              first | refine L_s (q_pickT rfl rfl) rfl ?_ | refine L_s (q_pickF rfl rfl) rfl ?_
              first | exact WPL.jn rfl rfl (by repeat (first | exact trivial | refine ⟨rfl, ?_⟩)) | exact WPL.jnI rfl rfl (by repeat (first | exact trivial | refine ⟨rfl, ?_⟩)) (Imp.pick (by repeat (first | exact Pick.nil | apply Pick.keep (by repeat (first | exact List.Mem.head _ | apply List.Mem.tail)) (by first | exact Pers.cells _ _ _ | exact Pers.slv _ _ _ | exact Pers.bytes _) | apply Pick.cons (by repeat (first | exact Pick1.here | apply Pick1.there)))))
            refine L_s (q_move rfl) rfl ?_
            apply WPL.joinA (e' := []) 177 181 4 rfl
            · intro g34_42
              try simp only [decide_eq_true_eq, decide_eq_false_iff_not, beq_iff_eq, bne_iff_ne, beq_eq_false_iff_ne, bne_eq_false_iff_eq, Bool.not_eq_true', Bool.not_eq_false', Bool.not_eq_eq_eq_not, Bool.not_true, Bool.not_false, ne_eq, Decidable.not_not, Int.not_lt, Int.not_le, gt_iff_lt, ge_iff_le] at g34_42
              refine L_yes rfl rfl (q_move rfl) rfl ?_
              refine L_eyes rfl rfl rfl (C1.call (c_call Tryd.func31 rfl rfl rfl) (c_texts (by intro x hx; have := wD_inv.hb x hx; omega) (by have := wD_inv.hlen; omega)) (by repeat (first | exact Pick.nil | apply Pick.keep (by repeat (first | exact List.Mem.head _ | apply List.Mem.tail)) (by first | exact Pers.cells _ _ _ | exact Pers.slv _ _ _ | exact Pers.bytes _) | apply Pick.cons (by repeat (first | exact Pick1.here | apply Pick1.there)))) rfl ?_)
              rintro _ _ ⟨rfl, rfl⟩
              refine WPL.putS ?_
              refine L_yes rfl rfl (q_strEq rfl rfl) rfl ?_
              first | refine L_s (q_pickT rfl rfl) rfl ?_ | refine L_s (q_pickF rfl rfl) rfl ?_
              first | exact WPL.jn rfl rfl (by repeat (first | exact trivial | refine ⟨rfl, ?_⟩)) | exact WPL.jnI rfl rfl (by repeat (first | exact trivial | refine ⟨rfl, ?_⟩)) (Imp.pick (by repeat (first | exact Pick.nil | apply Pick.keep (by repeat (first | exact List.Mem.head _ | apply List.Mem.tail)) (by first | exact Pers.cells _ _ _ | exact Pers.slv _ _ _ | exact Pers.bytes _) | apply Pick.cons (by repeat (first | exact Pick1.here | apply Pick1.there)))))
            · intro g34_42
              try simp only [decide_eq_true_eq, decide_eq_false_iff_not, beq_iff_eq, bne_iff_ne, beq_eq_false_iff_ne, bne_eq_false_iff_eq, Bool.not_eq_true', Bool.not_eq_false', Bool.not_eq_eq_eq_not, Bool.not_true, Bool.not_false, ne_eq, Decidable.not_not, Int.not_lt, Int.not_le, gt_iff_lt, ge_iff_le] at g34_42
              refine L_no rfl rfl rfl rfl ?_
              refine L_no rfl rfl rfl rfl ?_
              refine L_no rfl rfl rfl rfl ?_
              first | refine L_s (q_pickT rfl rfl) rfl ?_ | refine L_s (q_pickF rfl rfl) rfl ?_
              first | exact WPL.jn rfl rfl (by repeat (first | exact trivial | refine ⟨rfl, ?_⟩)) | exact WPL.jnI rfl rfl (by repeat (first | exact trivial | refine ⟨rfl, ?_⟩)) (Imp.pick (by repeat (first | exact Pick.nil | apply Pick.keep (by repeat (first | exact List.Mem.head _ | apply List.Mem.tail)) (by first | exact Pers.cells _ _ _ | exact Pers.slv _ _ _ | exact Pers.bytes _) | apply Pick.cons (by repeat (first | exact Pick1.here | apply Pick1.there)))))
            refine L_s (q_assign rfl) rfl ?_
            refine WPL.nil ?_
            refine WPC.ret ?_
            exact endR_r rfl (.tmp rfl .nil) (Imp.pick (by repeat (first | exact Pick.nil | apply Pick.keep (by repeat (first | exact List.Mem.head _ | apply List.Mem.tail)) (by first | exact Pers.cells _ _ _ | exact Pers.slv _ _ _ | exact Pers.bytes _) | apply Pick.cons (by repeat (first | exact Pick1.here | apply Pick1.there))))) ⟨by simp only [packV, txt_ab hxh, txt_z, txt_w, hyl, hzl]; rfl, rfl⟩

end Go.Sl
