/- Walks: journals behind calls. -/
import Derived.Test.YtdbpjcplmfkgaaaDoorJM
namespace Go.Sl
open Go Go.RowKit Go.Proofs
set_option linter.unusedSimpArgs false
set_option linter.unusedVariables false
attribute [local irreducible] faB szB ldB zB zL slB mkB arB plB intB cells objc star stars buf slv grp whole Sat WPC WPL WPA WPO Trip

theorem c_OpenJ {db : Nat} {d d2 : DK} {j2 : JN} {n : Nat} (hn : 1 ≤ n ∧ n ≤ 17) (hl : d.seen.length = 20) (hd : d.ok) (hpl : d.pend.length < 600000) (h : jopen0 d 1 n = (d2, some j2, 0)) : Trip Tryd.prog 14 #[.pointer (some ⟨db, 0, none⟩), .int .i64 1, .int .i64 (n : Int)] [disk db d, tblA]
    (fun r Δ => ∃ (b : Nat) (a : Option Addr) (c : Nat) (ys : List BS), r = .tuple #[.pointer (some ⟨b, 0, none⟩), .slice a ys.length c, .int .i64 0] ∧ Sok 1 a ys.length c (ys.map bsV) ∧ ys.map BS.bs = j2.held.map (·.2) ∧ (∀ y ∈ ys, y.ok) ∧ Δ = [jour b db j2, disk db d2, buf 1 a ys.length c (ys.map bsV), bytes ys]) := by
  have hc := c_Open (db := db) (d := d) (at_ := 1) (n := n) (by omega) (by omega) hd hpl
  rw [h] at hc
  exact hc

theorem c_opened {n : Nat} (hn : 1 ≤ n ∧ n ≤ 17) : Trip Tryd.prog 30 #[.int .i64 (n : Int)] [tblA] fun r Δ => ∃ (db b : Nat) (d : DK) (j : JN), r = .tuple #[.pointer (some ⟨db, 0, none⟩), .pointer (some ⟨b, 0, none⟩)] ∧ jopen0 (DK.new 20) 1 n = (d, some j, 0) ∧ Inv n 1 d j ∧ Δ = [jour b db j, disk db d] := by
  obtain ⟨d, j, hopen, hI⟩ := Inv.new hn
  refine Trip.start 24 [.tmp 2, .tmp 3] [(0, .int .i64 (n : Int))] Tryd.func30 rfl Tryd.ntmps30 rfl ⟨rfl, trivial⟩ rfl ?_
  refine WPC.seqR ?_
  refine L_s (q_assign rfl) rfl ?_
  refine L_s (q_assign rfl) rfl ?_
  refine WPL.nil ?_
  refine WPC.seqR ?_
  refine WPL.cons rfl (C1.call (c_call Tryd.func19 rfl rfl rfl) (c_DNew (k := 20) (by omega)) (by repeat (first | exact Pick.nil | apply Pick.keep (by repeat (first | exact List.Mem.head _ | apply List.Mem.tail)) (by first | exact Pers.cells _ _ _ | exact Pers.slv _ _ _ | exact Pers.bytes _) | apply Pick.cons (by repeat (first | exact Pick1.here | apply Pick1.there)))) rfl ?_)
  rintro _ _ ⟨db, rfl, rfl⟩
  refine WPL.putS ?_
  refine L_s (q_move rfl) rfl ?_
  refine L_s (q_extract rfl rfl) rfl ?_
  refine L_s (q_extract rfl rfl) rfl ?_
  refine L_s (q_assign rfl) rfl ?_
  refine L_s (q_assign rfl) rfl ?_
  refine WPL.nil ?_
  refine WPC.seq ?_
  refine WPC.seqR ?_
  refine L_s (q_move rfl) rfl ?_
  first | refine L_s (q_ptNilEq un_ptr_disk_Disk rfl rfl) rfl ?_ | refine L_s (q_ptNoneEq un_ptr_disk_Disk rfl rfl) rfl ?_
  refine WPL.nil ?_
  refine WPC.cond rfl (fun h0 => ?_) (fun h0 => ?_)
  · try simp only [decide_eq_true_eq, decide_eq_false_iff_not, beq_iff_eq, bne_iff_ne, beq_eq_false_iff_ne, bne_eq_false_iff_eq, Bool.not_eq_true', Bool.not_eq_false', Bool.not_eq_eq_eq_not, Bool.not_true, Bool.not_false, ne_eq, Decidable.not_not, Int.not_lt, Int.not_le, gt_iff_lt, ge_iff_le] at h0
    simp at h0
  · skip
    refine WPC.skip ?_
    refine thenQ_n ?_
    refine WPC.seqR ?_
    refine L_s (q_move rfl) rfl ?_
    refine L_s (q_move rfl) rfl ?_
    refine WPL.cons rfl (C1.call (c_call Tryd.func14 rfl rfl rfl) (c_OpenJ (db := db) hn rfl ⟨by simp [DK.new], by simp [DK.new], by simp [DK.new], by simp [DK.new]⟩ (by simp [DK.new]) hopen) (by repeat (first | exact Pick.nil | apply Pick.keep (by repeat (first | exact List.Mem.head _ | apply List.Mem.tail)) (by first | exact Pers.cells _ _ _ | exact Pers.slv _ _ _ | exact Pers.bytes _) | apply Pick.cons (by repeat (first | exact Pick1.here | apply Pick1.there)))) rfl ?_)
    rintro _ _ ⟨b, a, c, ys, rfl, -, -, -, rfl⟩
    refine WPL.putS ?_
    refine L_s (q_move rfl) rfl ?_
    refine L_s (q_extract rfl rfl) rfl ?_
    refine L_s (q_extract rfl rfl) rfl ?_
    refine L_s (q_extract rfl rfl) rfl ?_
    refine L_s (q_assign rfl) rfl ?_
    refine L_s (q_assign rfl) rfl ?_
    refine L_s (q_assign rfl) rfl ?_
    refine WPL.nil ?_
    refine WPC.seqR ?_
    refine L_s (q_move rfl) rfl ?_
    refine L_s (q_move rfl) rfl ?_
    refine L_s (q_assign rfl) rfl ?_
    refine L_s (q_assign rfl) rfl ?_
    refine WPL.nil ?_
    refine WPC.ret ?_
    exact endR_r rfl (.tmp rfl (.tmp rfl .nil)) (Imp.pick (by repeat (first | exact Pick.nil | apply Pick.keep (by repeat (first | exact List.Mem.head _ | apply List.Mem.tail)) (by first | exact Pers.cells _ _ _ | exact Pers.slv _ _ _ | exact Pers.bytes _) | apply Pick.cons (by repeat (first | exact Pick1.here | apply Pick1.there))))) ⟨db, b, d, j, rfl, hopen, hI, rfl⟩

theorem c_madeNil {D : A} (hD : Pers D) {n : Int} {a : Option Addr} {c : Nat} {ops : List OpV} (hs : Sok 4 a ops.length c (ops.flatMap encO)) (hg : ¬ (1 ≤ n ∧ n ≤ 17 ∧ ops.length ≤ 30)) : Trip Tryd.prog 9 #[.int .i64 n, .slice a ops.length c] [sl false a (ops.flatMap encO), tblA, D] fun r Δ => r = .tuple #[.pointer none, .pointer none] ∧ Δ = [] := by
  refine Trip.start 102 [.tmp 4, .tmp 5] [(0, .int .i64 n), (1, .slice a ops.length c)] Tryd.func9 rfl Tryd.ntmps9 rfl ⟨rfl, rfl, trivial⟩ rfl ?_
  refine WPC.seqR ?_
  refine L_s (q_assign rfl) rfl ?_
  refine L_s (q_assign rfl) rfl ?_
  refine WPL.nil ?_
  refine WPC.seq ?_
  refine WPC.seqR ?_
  refine L_s (q_move rfl) rfl ?_
  refine L_s (q_int rfl rfl rfl) rfl ?_
  refine L_s (q_move rfl) rfl ?_
  apply WPL.joinO (e' := [(0, _), (1, _), (4, _), (5, _)]) 11 14 3 rfl
  · intro g1_2
    try simp only [decide_eq_true_eq, decide_eq_false_iff_not, beq_iff_eq, bne_iff_ne, beq_eq_false_iff_ne, bne_eq_false_iff_eq, Bool.not_eq_true', Bool.not_eq_false', Bool.not_eq_eq_eq_not, Bool.not_true, Bool.not_false, ne_eq, Decidable.not_not, Int.not_lt, Int.not_le, gt_iff_lt, ge_iff_le] at g1_2
    refine L_no rfl rfl rfl rfl ?_
    refine L_no rfl rfl rfl rfl ?_
    first | refine L_s (q_pickT rfl rfl) rfl ?_ | refine L_s (q_pickF rfl rfl) rfl ?_
    first | exact WPL.jn rfl rfl (by repeat (first | exact trivial | refine ⟨rfl, ?_⟩)) | exact WPL.jnI rfl rfl (by repeat (first | exact trivial | refine ⟨rfl, ?_⟩)) (Imp.pick (by repeat (first | exact Pick.nil | apply Pick.keep (by repeat (first | exact List.Mem.head _ | apply List.Mem.tail)) (by first | exact Pers.cells _ _ _ | exact Pers.slv _ _ _) | apply Pick.cons (by repeat (first | exact Pick1.here | apply Pick1.there)))))
  · intro g1_2
    try simp only [decide_eq_true_eq, decide_eq_false_iff_not, beq_iff_eq, bne_iff_ne, beq_eq_false_iff_ne, bne_eq_false_iff_eq, Bool.not_eq_true', Bool.not_eq_false', Bool.not_eq_eq_eq_not, Bool.not_true, Bool.not_false, ne_eq, Decidable.not_not, Int.not_lt, Int.not_le, gt_iff_lt, ge_iff_le] at g1_2
    refine L_yes rfl rfl (q_move rfl) rfl ?_
    refine L_yes rfl rfl (q_int rfl rfl rfl) rfl ?_
    first | refine L_s (q_pickT rfl rfl) rfl ?_ | refine L_s (q_pickF rfl rfl) rfl ?_
    first | exact WPL.jn rfl rfl (by repeat (first | exact trivial | refine ⟨rfl, ?_⟩)) | exact WPL.jnI rfl rfl (by repeat (first | exact trivial | refine ⟨rfl, ?_⟩)) (Imp.pick (by repeat (first | exact Pick.nil | apply Pick.keep (by repeat (first | exact List.Mem.head _ | apply List.Mem.tail)) (by first | exact Pers.cells _ _ _ | exact Pers.slv _ _ _) | apply Pick.cons (by repeat (first | exact Pick1.here | apply Pick1.there)))))
  refine L_s (q_move rfl) rfl ?_
  apply WPL.joinO (e' := [(0, _), (1, _), (4, _), (5, _)]) 15 19 4 rfl
  · intro g1_6
    try simp only [decide_eq_true_eq, decide_eq_false_iff_not, beq_iff_eq, bne_iff_ne, beq_eq_false_iff_ne, bne_eq_false_iff_eq, Bool.not_eq_true', Bool.not_eq_false', Bool.not_eq_eq_eq_not, Bool.not_true, Bool.not_false, ne_eq, Decidable.not_not, Int.not_lt, Int.not_le, gt_iff_lt, ge_iff_le] at g1_6
    refine L_no rfl rfl rfl rfl ?_
    refine L_no rfl rfl rfl rfl ?_
    refine L_no rfl rfl rfl rfl ?_
    first | refine L_s (q_pickT rfl rfl) rfl ?_ | refine L_s (q_pickF rfl rfl) rfl ?_
    first | exact WPL.jn rfl rfl (by repeat (first | exact trivial | refine ⟨rfl, ?_⟩)) | exact WPL.jnI rfl rfl (by repeat (first | exact trivial | refine ⟨rfl, ?_⟩)) (Imp.pick (by repeat (first | exact Pick.nil | apply Pick.keep (by repeat (first | exact List.Mem.head _ | apply List.Mem.tail)) (by first | exact Pers.cells _ _ _ | exact Pers.slv _ _ _) | apply Pick.cons (by repeat (first | exact Pick1.here | apply Pick1.there)))))
  · intro g1_6
    try simp only [decide_eq_true_eq, decide_eq_false_iff_not, beq_iff_eq, bne_iff_ne, beq_eq_false_iff_ne, bne_eq_false_iff_eq, Bool.not_eq_true', Bool.not_eq_false', Bool.not_eq_eq_eq_not, Bool.not_true, Bool.not_false, ne_eq, Decidable.not_not, Int.not_lt, Int.not_le, gt_iff_lt, ge_iff_le] at g1_6
    refine L_yes rfl rfl (q_move rfl) rfl ?_
    refine L_yes rfl rfl (q_len rfl un_sl_pursuivantlaw06_Op rfl) rfl ?_
    refine L_yes rfl rfl (q_int rfl rfl rfl) rfl ?_
    first | refine L_s (q_pickT rfl rfl) rfl ?_ | refine L_s (q_pickF rfl rfl) rfl ?_
    first | exact WPL.jn rfl rfl (by repeat (first | exact trivial | refine ⟨rfl, ?_⟩)) | exact WPL.jnI rfl rfl (by repeat (first | exact trivial | refine ⟨rfl, ?_⟩)) (Imp.pick (by repeat (first | exact Pick.nil | apply Pick.keep (by repeat (first | exact List.Mem.head _ | apply List.Mem.tail)) (by first | exact Pers.cells _ _ _ | exact Pers.slv _ _ _) | apply Pick.cons (by repeat (first | exact Pick1.here | apply Pick1.there)))))
  refine WPL.nil ?_
  refine WPC.cond rfl (fun h0 => ?_) (fun h0 => ?_)
  · skip
    refine WPC.seqR ?_
    refine L_s (q_assign rfl) rfl ?_
    refine L_s (q_assign rfl) rfl ?_
    refine WPL.nil ?_
    refine WPC.ret ?_
    refine thenQ_r ?_
    exact endR_r rfl (.tmp rfl (.tmp rfl .nil)) (Imp.pick (by repeat (first | exact Pick.nil | apply Pick.keep (by repeat (first | exact List.Mem.head _ | apply List.Mem.tail)) (by first | exact Pers.cells _ _ _ | exact Pers.slv _ _ _ | exact Pers.bytes _) | apply Pick.cons (by repeat (first | exact Pick1.here | apply Pick1.there))))) ⟨rfl, rfl⟩
  · try simp only [decide_eq_true_eq, decide_eq_false_iff_not, beq_iff_eq, bne_iff_ne, beq_eq_false_iff_ne, bne_eq_false_iff_eq, Bool.not_eq_true', Bool.not_eq_false', Bool.not_eq_eq_eq_not, Bool.not_true, Bool.not_false, ne_eq, Decidable.not_not, Int.not_lt, Int.not_le, gt_iff_lt, ge_iff_le] at h0
    simp only [Bool.or_eq_false_iff, decide_eq_false_iff_not] at h0
    omega

theorem c_made {D : A} (hD : Pers D) {n : Nat} {a : Option Addr} {c : Nat} {ops : List OpV} (hs : Sok 4 a ops.length c (ops.flatMap encO)) (hn : 1 ≤ n ∧ n ≤ 17) (hlen : ops.length ≤ 30) (hops : OpsD D ops) : Trip Tryd.prog 9 #[.int .i64 (n : Int), .slice a ops.length c] [sl false a (ops.flatMap encO), tblA, D] fun r Δ => ∃ (db b : Nat) (d : DK) (j : JN) (T : Nat), T ≤ 31 ∧ r = .tuple #[.pointer (some ⟨db, 0, none⟩), .pointer (some ⟨b, 0, none⟩)] ∧ Inv n T d j ∧ Δ = [jour b db j, disk db d] := by
  refine Trip.start 102 [.tmp 4, .tmp 5] [(0, .int .i64 (n : Int)), (1, .slice a ops.length c)] Tryd.func9 rfl Tryd.ntmps9 rfl ⟨rfl, rfl, trivial⟩ rfl ?_
  refine WPC.seqR ?_
  refine L_s (q_assign rfl) rfl ?_
  refine L_s (q_assign rfl) rfl ?_
  refine WPL.nil ?_
  refine WPC.seq ?_
  refine WPC.seqR ?_
  refine L_s (q_move rfl) rfl ?_
  refine L_s (q_int rfl rfl rfl) rfl ?_
  refine L_s (q_move rfl) rfl ?_
  apply WPL.joinO (e' := [(0, _), (1, _), (4, _), (5, _)]) 11 14 3 rfl
  · intro g1_2
    try simp only [decide_eq_true_eq, decide_eq_false_iff_not, beq_iff_eq, bne_iff_ne, beq_eq_false_iff_ne, bne_eq_false_iff_eq, Bool.not_eq_true', Bool.not_eq_false', Bool.not_eq_eq_eq_not, Bool.not_true, Bool.not_false, ne_eq, Decidable.not_not, Int.not_lt, Int.not_le, gt_iff_lt, ge_iff_le] at g1_2
    refine L_no rfl rfl rfl rfl ?_
    refine L_no rfl rfl rfl rfl ?_
    first | refine L_s (q_pickT rfl rfl) rfl ?_ | refine L_s (q_pickF rfl rfl) rfl ?_
    first | exact WPL.jn rfl rfl (by repeat (first | exact trivial | refine ⟨rfl, ?_⟩)) | exact WPL.jnI rfl rfl (by repeat (first | exact trivial | refine ⟨rfl, ?_⟩)) (Imp.pick (by repeat (first | exact Pick.nil | apply Pick.keep (by repeat (first | exact List.Mem.head _ | apply List.Mem.tail)) (by first | exact Pers.cells _ _ _ | exact Pers.slv _ _ _ | exact hD) | apply Pick.cons (by repeat (first | exact Pick1.here | apply Pick1.there)))))
  · intro g1_2
    try simp only [decide_eq_true_eq, decide_eq_false_iff_not, beq_iff_eq, bne_iff_ne, beq_eq_false_iff_ne, bne_eq_false_iff_eq, Bool.not_eq_true', Bool.not_eq_false', Bool.not_eq_eq_eq_not, Bool.not_true, Bool.not_false, ne_eq, Decidable.not_not, Int.not_lt, Int.not_le, gt_iff_lt, ge_iff_le] at g1_2
    refine L_yes rfl rfl (q_move rfl) rfl ?_
    refine L_yes rfl rfl (q_int rfl rfl rfl) rfl ?_
    first | refine L_s (q_pickT rfl rfl) rfl ?_ | refine L_s (q_pickF rfl rfl) rfl ?_
    first | exact WPL.jn rfl rfl (by repeat (first | exact trivial | refine ⟨rfl, ?_⟩)) | exact WPL.jnI rfl rfl (by repeat (first | exact trivial | refine ⟨rfl, ?_⟩)) (Imp.pick (by repeat (first | exact Pick.nil | apply Pick.keep (by repeat (first | exact List.Mem.head _ | apply List.Mem.tail)) (by first | exact Pers.cells _ _ _ | exact Pers.slv _ _ _ | exact hD) | apply Pick.cons (by repeat (first | exact Pick1.here | apply Pick1.there)))))
  refine L_s (q_move rfl) rfl ?_
  apply WPL.joinO (e' := [(0, _), (1, _), (4, _), (5, _)]) 15 19 4 rfl
  · intro g1_6
    try simp only [decide_eq_true_eq, decide_eq_false_iff_not, beq_iff_eq, bne_iff_ne, beq_eq_false_iff_ne, bne_eq_false_iff_eq, Bool.not_eq_true', Bool.not_eq_false', Bool.not_eq_eq_eq_not, Bool.not_true, Bool.not_false, ne_eq, Decidable.not_not, Int.not_lt, Int.not_le, gt_iff_lt, ge_iff_le] at g1_6
    refine L_no rfl rfl rfl rfl ?_
    refine L_no rfl rfl rfl rfl ?_
    refine L_no rfl rfl rfl rfl ?_
    first | refine L_s (q_pickT rfl rfl) rfl ?_ | refine L_s (q_pickF rfl rfl) rfl ?_
    first | exact WPL.jn rfl rfl (by repeat (first | exact trivial | refine ⟨rfl, ?_⟩)) | exact WPL.jnI rfl rfl (by repeat (first | exact trivial | refine ⟨rfl, ?_⟩)) (Imp.pick (by repeat (first | exact Pick.nil | apply Pick.keep (by repeat (first | exact List.Mem.head _ | apply List.Mem.tail)) (by first | exact Pers.cells _ _ _ | exact Pers.slv _ _ _ | exact hD) | apply Pick.cons (by repeat (first | exact Pick1.here | apply Pick1.there)))))
  · intro g1_6
    try simp only [decide_eq_true_eq, decide_eq_false_iff_not, beq_iff_eq, bne_iff_ne, beq_eq_false_iff_ne, bne_eq_false_iff_eq, Bool.not_eq_true', Bool.not_eq_false', Bool.not_eq_eq_eq_not, Bool.not_true, Bool.not_false, ne_eq, Decidable.not_not, Int.not_lt, Int.not_le, gt_iff_lt, ge_iff_le] at g1_6
    refine L_yes rfl rfl (q_move rfl) rfl ?_
    refine L_yes rfl rfl (q_len rfl un_sl_pursuivantlaw06_Op rfl) rfl ?_
    refine L_yes rfl rfl (q_int rfl rfl rfl) rfl ?_
    first | refine L_s (q_pickT rfl rfl) rfl ?_ | refine L_s (q_pickF rfl rfl) rfl ?_
    first | exact WPL.jn rfl rfl (by repeat (first | exact trivial | refine ⟨rfl, ?_⟩)) | exact WPL.jnI rfl rfl (by repeat (first | exact trivial | refine ⟨rfl, ?_⟩)) (Imp.pick (by repeat (first | exact Pick.nil | apply Pick.keep (by repeat (first | exact List.Mem.head _ | apply List.Mem.tail)) (by first | exact Pers.cells _ _ _ | exact Pers.slv _ _ _ | exact hD) | apply Pick.cons (by repeat (first | exact Pick1.here | apply Pick1.there)))))
  refine WPL.nil ?_
  refine WPC.cond rfl (fun h0 => ?_) (fun h0 => ?_)
  · try simp only [decide_eq_true_eq, decide_eq_false_iff_not, beq_iff_eq, bne_iff_ne, beq_eq_false_iff_ne, bne_eq_false_iff_eq, Bool.not_eq_true', Bool.not_eq_false', Bool.not_eq_eq_eq_not, Bool.not_true, Bool.not_false, ne_eq, Decidable.not_not, Int.not_lt, Int.not_le, gt_iff_lt, ge_iff_le] at h0
    simp only [Bool.or_eq_true, decide_eq_true_eq] at h0
    omega
  · skip
    refine WPC.skip ?_
    refine thenQ_n ?_
    refine WPC.seqR ?_
    refine L_s (q_move rfl) rfl ?_
    refine WPL.cons rfl (C1.call (c_call Tryd.func30 rfl rfl rfl) (c_opened hn) (by repeat (first | exact Pick.nil | apply Pick.keep (by repeat (first | exact List.Mem.head _ | apply List.Mem.tail)) (by first | exact Pers.cells _ _ _ | exact Pers.slv _ _ _ | exact hD) | apply Pick.cons (by repeat (first | exact Pick1.here | apply Pick1.there)))) rfl ?_)
    rintro _ _ ⟨db, b, d, j, rfl, -, hI, rfl⟩
    refine WPL.putS ?_
    refine L_s (q_move rfl) rfl ?_
    refine L_s (q_extract rfl rfl) rfl ?_
    refine L_s (q_extract rfl rfl) rfl ?_
    refine L_s (q_assign rfl) rfl ?_
    refine L_s (q_assign rfl) rfl ?_
    refine WPL.nil ?_
    refine WPC.seq ?_
    refine WPC.seqR ?_
    refine L_s (q_move rfl) rfl ?_
    first | refine L_s (q_ptNilEq un_ptr_disk_Disk rfl rfl) rfl ?_ | refine L_s (q_ptNoneEq un_ptr_disk_Disk rfl rfl) rfl ?_
    refine L_s (q_move rfl) rfl ?_
    apply WPL.joinO (e' := [(0, _), (1, _), (4, _), (5, _), (6, _), (7, _)]) 27 30 3 rfl
    · intro g4_2
      try simp only [decide_eq_true_eq, decide_eq_false_iff_not, beq_iff_eq, bne_iff_ne, beq_eq_false_iff_ne, bne_eq_false_iff_eq, Bool.not_eq_true', Bool.not_eq_false', Bool.not_eq_eq_eq_not, Bool.not_true, Bool.not_false, ne_eq, Decidable.not_not, Int.not_lt, Int.not_le, gt_iff_lt, ge_iff_le] at g4_2
      refine L_no rfl rfl rfl rfl ?_
      refine L_no rfl rfl rfl rfl ?_
      first | refine L_s (q_pickT rfl rfl) rfl ?_ | refine L_s (q_pickF rfl rfl) rfl ?_
      first | exact WPL.jn rfl rfl (by repeat (first | exact trivial | refine ⟨rfl, ?_⟩)) | exact WPL.jnI rfl rfl (by repeat (first | exact trivial | refine ⟨rfl, ?_⟩)) (Imp.pick (by repeat (first | exact Pick.nil | apply Pick.keep (by repeat (first | exact List.Mem.head _ | apply List.Mem.tail)) (by first | exact Pers.cells _ _ _ | exact Pers.slv _ _ _ | exact hD) | apply Pick.cons (by repeat (first | exact Pick1.here | apply Pick1.there)))))
    · intro g4_2
      try simp only [decide_eq_true_eq, decide_eq_false_iff_not, beq_iff_eq, bne_iff_ne, beq_eq_false_iff_ne, bne_eq_false_iff_eq, Bool.not_eq_true', Bool.not_eq_false', Bool.not_eq_eq_eq_not, Bool.not_true, Bool.not_false, ne_eq, Decidable.not_not, Int.not_lt, Int.not_le, gt_iff_lt, ge_iff_le] at g4_2
      refine L_yes rfl rfl (q_move rfl) rfl ?_
      first | refine L_yes rfl rfl (q_ptNilEq un_ptr_journal_Journal rfl rfl) rfl ?_ | refine L_yes rfl rfl (q_ptNoneEq un_ptr_journal_Journal rfl rfl) rfl ?_
      first | refine L_s (q_pickT rfl rfl) rfl ?_ | refine L_s (q_pickF rfl rfl) rfl ?_
      first | exact WPL.jn rfl rfl (by repeat (first | exact trivial | refine ⟨rfl, ?_⟩)) | exact WPL.jnI rfl rfl (by repeat (first | exact trivial | refine ⟨rfl, ?_⟩)) (Imp.pick (by repeat (first | exact Pick.nil | apply Pick.keep (by repeat (first | exact List.Mem.head _ | apply List.Mem.tail)) (by first | exact Pers.cells _ _ _ | exact Pers.slv _ _ _ | exact hD) | apply Pick.cons (by repeat (first | exact Pick1.here | apply Pick1.there)))))
    refine WPL.nil ?_
    refine WPC.cond rfl (fun h1 => ?_) (fun h1 => ?_)
    · try simp only [decide_eq_true_eq, decide_eq_false_iff_not, beq_iff_eq, bne_iff_ne, beq_eq_false_iff_ne, bne_eq_false_iff_eq, Bool.not_eq_true', Bool.not_eq_false', Bool.not_eq_eq_eq_not, Bool.not_true, Bool.not_false, ne_eq, Decidable.not_not, Int.not_lt, Int.not_le, gt_iff_lt, ge_iff_le] at h1
      simp at h1
    · skip
      refine WPC.skip ?_
      refine thenQ_n ?_
      refine WPC.seq ?_
      refine WPC.seqR ?_
      refine L_s (q_assign rfl) rfl ?_
      refine WPL.nil ?_
      refine WPC.block ?_
      refine WPC.loopS (fun m e Γ => ∃ (k b : Nat) (d : DK) (j : JN), m = ops.length - k ∧ k ≤ ops.length ∧ Inv n (k + 1) d j ∧ e = [(0, .int .i64 (n : Int)), (1, .slice a ops.length c), (6, .pointer (some ⟨db, 0, none⟩)), (7, .pointer (some ⟨b, 0, none⟩)), (8, .int .i64 (k : Int))] ∧ Γ = [jour b db j, disk db d, sl false a (ops.flatMap encO), tblA, D]) (ops.length) ⟨0, b, d, j, rfl, by omega, hI, rfl, rfl⟩ (by repeat (first | exact trivial | refine ⟨rfl, ?_⟩)) (Imp.pick (by repeat (first | exact Pick.nil | apply Pick.keep (by repeat (first | exact List.Mem.head _ | apply List.Mem.tail)) (by first | exact Pers.cells _ _ _ | exact Pers.slv _ _ _ | exact hD) | apply Pick.cons (by repeat (first | exact Pick1.here | apply Pick1.there))))) ?_
      clear h1 hI
      rintro m e Γ ⟨k, b, d, j, rfl, hk, hI, rfl, rfl⟩
      refine WPC.seq ?_
      refine WPC.seqR ?_
      refine L_s (q_move rfl) rfl ?_
      refine L_s (q_move rfl) rfl ?_
      refine L_s (q_len rfl un_sl_pursuivantlaw06_Op rfl) rfl ?_
      refine L_s (q_int rfl rfl rfl) rfl ?_
      refine WPL.nil ?_
      refine WPC.cond rfl (fun h2 => ?_) (fun h2 => ?_)
      · simp only [decide_eq_true_eq, Int.ofNat_lt] at h2
        have hp : Pl a := hs.at (by omega) (by omega)
        obtain ⟨o, ho⟩ : ∃ o, ops[k]? = some o := ⟨ops[k], by simp [h2]⟩
        have hDo := hops o (List.mem_of_getElem? ho)
        have hbn := hDo.1.n
        have hbo := hDo.1
        unfold BS.ok at hbo
        rw [hbn] at hbo
        have hpn := hDo.2.1.n
        have hpo := hDo.2.1
        unfold IS.ok at hpo
        rw [hpn] at hpo
        have hT : k + 1 + 1 ≤ 1000 := by omega
        have hpl := hI.pl
        have hok := hI.ok
        have hjo := hI.jok
        have hnx := hI.next_lt
        have eb : bsV o.b = .slice o.b.a o.b.bs.length o.b.c := by simp only [bsV, hbn]
        refine WPC.skip ?_
        refine thenQ_n ?_
        refine WPC.seq ?_
        refine WPC.block ?_
        refine WPC.seq ?_
        refine WPC.seqR ?_
        refine L_s (q_move rfl) rfl ?_
        refine L_s (q_move rfl) rfl ?_
        refine L_s (q_idxN (i := k) sl_sl_pursuivantlaw06_Op rfl rfl h2 hp) rfl ?_
        first | refine L_s (q_faK fa_pursuivantlaw06_Op_Do rfl) rfl ?_ | refine L_s (q_fa fa_pursuivantlaw06_Op_Do rfl) rfl ?_
        refine L_s (show Q1 _ _ _ _ (.int .i64 o.do_) from q_ldFlat1 (k := 4) (i := k) (j := 0) (e := o) (enc := encO) ld_int rfl (by repeat (first | exact List.Mem.head _ | apply List.Mem.tail)) encO_len ho (by omega) rfl) rfl ?_
        refine WPL.nil ?_
        refine WPC.midS (fun e Γ => ∃ (b : Nat) (d : DK) (j : JN), Inv n (k + 1 + 1) d j ∧ e = [(0, .int .i64 (n : Int)), (1, .slice a ops.length c), (6, .pointer (some ⟨db, 0, none⟩)), (7, .pointer (some ⟨b, 0, none⟩)), (8, .int .i64 (k : Int))] ∧ Γ = [jour b db j, disk db d, sl false a (ops.flatMap encO), tblA, D]) ?_ ?_
        · refine WPC.block ?_
          refine WPC.seqR ?_
          refine L_s (q_int rfl rfl rfl) rfl ?_
          refine L_s (q_assign rfl) rfl ?_
          refine WPL.nil ?_
          refine WPC.cond rfl (fun h3 => ?_) (fun h3 => ?_)
          · skip
            refine WPC.region ?_
            refine L_s (q_move rfl) rfl ?_
            refine L_s (q_move rfl) rfl ?_
            refine L_s (q_move rfl) rfl ?_
            refine L_s (q_idxN (i := k) sl_sl_pursuivantlaw06_Op rfl rfl h2 hp) rfl ?_
            first | refine L_s (q_faK fa_pursuivantlaw06_Op_B rfl) rfl ?_ | refine L_s (q_fa fa_pursuivantlaw06_Op_B rfl) rfl ?_
            refine L_s (show Q1 _ _ _ _ (bsV o.b) from q_ldFlat1 (k := 4) (i := k) (j := 2) (e := o) (enc := encO) ld_sl_uint8 rfl (by repeat (first | exact List.Mem.head _ | apply List.Mem.tail)) encO_len ho (by omega) rfl) rfl ?_
            rw [eb]
            refine WPL.imp ((Imp.pick (Δ := [D, jour b db j, disk db d, sl false a (ops.flatMap encO), tblA]) (by repeat (first | exact Pick.nil | apply Pick.keep (by repeat (first | exact List.Mem.head _ | apply List.Mem.tail)) (by first | exact Pers.cells _ _ _ | exact Pers.slv _ _ _ | exact Pers.bytes _) | apply Pick.cons (by repeat (first | exact Pick1.here | apply Pick1.there))))).trans (hDo.2.2.1 _)) ?_
            refine WPL.cons rfl (C1.call (c_call Tryd.func12 rfl rfl rfl) (c_JAppend hjo hok (by omega) hbo) (by repeat (first | exact Pick.nil | apply Pick.keep (by repeat (first | exact List.Mem.head _ | apply List.Mem.tail)) (by first | exact Pers.cells _ _ _ | exact Pers.slv _ _ _ | exact hD) | apply Pick.cons (by repeat (first | exact Pick1.here | apply Pick1.there)))) rfl ?_)
            rintro _ _ ⟨rfl, rfl⟩
            have hI2 := hI.append hT o.b.bs
            refine WPL.putS ?_
            refine WPL.nil ?_
            refine blockQ_n ?_
            refine thenQ_n ?_
            exact ⟨rfl, _, _, ⟨_, _, _, hI2, rfl, rfl⟩, (by repeat (first | exact trivial | refine ⟨rfl, ?_⟩)), Imp.pick (by repeat (first | exact Pick.nil | apply Pick.keep (by repeat (first | exact List.Mem.head _ | apply List.Mem.tail)) (by first | exact Pers.cells _ _ _ | exact Pers.slv _ _ _ | exact hD) | apply Pick.cons (by repeat (first | exact Pick1.here | apply Pick1.there))))⟩
          · skip
            refine WPC.seqR ?_
            refine L_s (q_int rfl rfl rfl) rfl ?_
            refine L_s (q_assign rfl) rfl ?_
            refine WPL.nil ?_
            refine WPC.cond rfl (fun h4 => ?_) (fun h4 => ?_)
            · skip
              refine WPC.region ?_
              refine L_s (q_move rfl) rfl ?_
              refine WPL.cons rfl (C1.call (c_call Tryd.func10 rfl rfl rfl) (c_JSync hok (by omega)) (by repeat (first | exact Pick.nil | apply Pick.keep (by repeat (first | exact List.Mem.head _ | apply List.Mem.tail)) (by first | exact Pers.cells _ _ _ | exact Pers.slv _ _ _ | exact hD) | apply Pick.cons (by repeat (first | exact Pick1.here | apply Pick1.there)))) rfl ?_)
              rintro _ _ ⟨rfl, rfl⟩
              have hI2 := hI.sync hT
              refine WPL.putS ?_
              refine WPL.nil ?_
              refine blockQ_n ?_
              refine thenQ_n ?_
              exact ⟨rfl, _, _, ⟨_, _, _, hI2, rfl, rfl⟩, (by repeat (first | exact trivial | refine ⟨rfl, ?_⟩)), Imp.pick (by repeat (first | exact Pick.nil | apply Pick.keep (by repeat (first | exact List.Mem.head _ | apply List.Mem.tail)) (by first | exact Pers.cells _ _ _ | exact Pers.slv _ _ _ | exact hD) | apply Pick.cons (by repeat (first | exact Pick1.here | apply Pick1.there))))⟩
            · skip
              refine WPC.seqR ?_
              refine L_s (q_int rfl rfl rfl) rfl ?_
              refine L_s (q_assign rfl) rfl ?_
              refine WPL.nil ?_
              refine WPC.cond rfl (fun h5 => ?_) (fun h5 => ?_)
              · skip
                refine WPC.region ?_
                refine L_s (q_move rfl) rfl ?_
                refine L_s (q_move rfl) rfl ?_
                refine L_s (q_move rfl) rfl ?_
                refine L_s (q_idxN (i := k) sl_sl_pursuivantlaw06_Op rfl rfl h2 hp) rfl ?_
                first | refine L_s (q_faK fa_pursuivantlaw06_Op_N rfl) rfl ?_ | refine L_s (q_fa fa_pursuivantlaw06_Op_N rfl) rfl ?_
                refine L_s (show Q1 _ _ _ _ (.int .i64 o.n) from q_ldFlat1 (k := 4) (i := k) (j := 1) (e := o) (enc := encO) ld_int rfl (by repeat (first | exact List.Mem.head _ | apply List.Mem.tail)) encO_len ho (by omega) rfl) rfl ?_
                refine WPL.cons rfl (C1.call (c_call Tryd.func16 rfl rfl rfl) (c_JTrim hjo hok (by omega) hnx) (by repeat (first | exact Pick.nil | apply Pick.keep (by repeat (first | exact List.Mem.head _ | apply List.Mem.tail)) (by first | exact Pers.cells _ _ _ | exact Pers.slv _ _ _ | exact hD) | apply Pick.cons (by repeat (first | exact Pick1.here | apply Pick1.there)))) rfl ?_)
                rintro _ _ ⟨rfl, rfl⟩
                have hI2 := hI.trim hT o.n
                refine WPL.putS ?_
                refine WPL.nil ?_
                refine blockQ_n ?_
                refine thenQ_n ?_
                exact ⟨rfl, _, _, ⟨_, _, _, hI2, rfl, rfl⟩, (by repeat (first | exact trivial | refine ⟨rfl, ?_⟩)), Imp.pick (by repeat (first | exact Pick.nil | apply Pick.keep (by repeat (first | exact List.Mem.head _ | apply List.Mem.tail)) (by first | exact Pers.cells _ _ _ | exact Pers.slv _ _ _ | exact hD) | apply Pick.cons (by repeat (first | exact Pick1.here | apply Pick1.there))))⟩
              · skip
                refine WPC.seqR ?_
                refine L_s (q_int rfl rfl rfl) rfl ?_
                refine L_s (q_assign rfl) rfl ?_
                refine WPL.nil ?_
                refine WPC.cond rfl (fun h6 => ?_) (fun h6 => ?_)
                · skip
                  refine WPC.region ?_
                  refine L_s (q_move rfl) rfl ?_
                  refine L_s (q_move rfl) rfl ?_
                  refine L_s (q_move rfl) rfl ?_
                  refine L_s (q_idxN (i := k) sl_sl_pursuivantlaw06_Op rfl rfl h2 hp) rfl ?_
                  first | refine L_s (q_faK fa_pursuivantlaw06_Op_N rfl) rfl ?_ | refine L_s (q_fa fa_pursuivantlaw06_Op_N rfl) rfl ?_
                  refine L_s (show Q1 _ _ _ _ (.int .i64 o.n) from q_ldFlat1 (k := 4) (i := k) (j := 1) (e := o) (enc := encO) ld_int rfl (by repeat (first | exact List.Mem.head _ | apply List.Mem.tail)) encO_len ho (by omega) rfl) rfl ?_
                  refine WPL.cons rfl (C1.call (c_call Tryd.func18 rfl rfl rfl) (c_JCut hjo hok (by omega) hnx) (by repeat (first | exact Pick.nil | apply Pick.keep (by repeat (first | exact List.Mem.head _ | apply List.Mem.tail)) (by first | exact Pers.cells _ _ _ | exact Pers.slv _ _ _ | exact hD) | apply Pick.cons (by repeat (first | exact Pick1.here | apply Pick1.there)))) rfl ?_)
                  rintro _ _ ⟨rfl, rfl⟩
                  have hI2 := hI.cut hT o.n
                  refine WPL.putS ?_
                  refine WPL.nil ?_
                  refine blockQ_n ?_
                  refine thenQ_n ?_
                  exact ⟨rfl, _, _, ⟨_, _, _, hI2, rfl, rfl⟩, (by repeat (first | exact trivial | refine ⟨rfl, ?_⟩)), Imp.pick (by repeat (first | exact Pick.nil | apply Pick.keep (by repeat (first | exact List.Mem.head _ | apply List.Mem.tail)) (by first | exact Pers.cells _ _ _ | exact Pers.slv _ _ _ | exact hD) | apply Pick.cons (by repeat (first | exact Pick1.here | apply Pick1.there))))⟩
                · skip
                  refine WPC.seqR ?_
                  refine L_s (q_int rfl rfl rfl) rfl ?_
                  refine L_s (q_assign rfl) rfl ?_
                  refine WPL.nil ?_
                  refine WPC.cond rfl (fun h7 => ?_) (fun h7 => ?_)
                  · skip
                    refine WPC.seqR ?_
                    refine L_s (q_move rfl) rfl ?_
                    refine L_s (q_move rfl) rfl ?_
                    refine L_s (q_move rfl) rfl ?_
                    refine L_s (q_idxN (i := k) sl_sl_pursuivantlaw06_Op rfl rfl h2 hp) rfl ?_
                    first | refine L_s (q_faK fa_pursuivantlaw06_Op_Picks rfl) rfl ?_ | refine L_s (q_fa fa_pursuivantlaw06_Op_Picks rfl) rfl ?_
                    refine L_s (show Q1 _ _ _ _ (.slice o.p.a o.p.n o.p.c) from q_ldFlat1 (k := 4) (i := k) (j := 3) (e := o) (enc := encO) ld_sl_int rfl (by repeat (first | exact List.Mem.head _ | apply List.Mem.tail)) encO_len ho (by omega) rfl) rfl ?_
                    rw [show Value.slice o.p.a o.p.n o.p.c = .slice o.p.a o.p.xs.length o.p.c by rw [hpn]]
                    refine WPL.imp ((Imp.pick (Δ := [D, jour b db j, disk db d, sl false a (ops.flatMap encO), tblA]) (by repeat (first | exact Pick.nil | apply Pick.keep (by repeat (first | exact List.Mem.head _ | apply List.Mem.tail)) (by first | exact Pers.cells _ _ _ | exact Pers.slv _ _ _ | exact Pers.bytes _) | apply Pick.cons (by repeat (first | exact Pick1.here | apply Pick1.there))))).trans (hDo.2.2.2 _)) ?_
                    refine WPL.cons rfl (C1.call (c_call Tryd.func13 rfl rfl rfl) (c_Crash hok (by omega) hpo) (by repeat (first | exact Pick.nil | apply Pick.keep (by repeat (first | exact List.Mem.head _ | apply List.Mem.tail)) (by first | exact Pers.cells _ _ _ | exact Pers.slv _ _ _ | exact hD) | apply Pick.cons (by repeat (first | exact Pick1.here | apply Pick1.there)))) rfl ?_)
                    rintro _ _ ⟨rfl, rfl⟩
                    obtain ⟨d2, j2, ho2, hI2⟩ := hI.crash hT o.p.xs
                    refine WPL.putS ?_
                    refine WPL.nil ?_
                    refine WPC.region ?_
                    refine L_s (q_move rfl) rfl ?_
                    refine L_s (q_move rfl) rfl ?_
                    refine WPL.cons rfl (C1.call (c_call Tryd.func14 rfl rfl rfl) (c_OpenJ hn (hI.clen _) (hok.crash _) (by rw [crash_pl]; omega) ho2) (by repeat (first | exact Pick.nil | apply Pick.keep (by repeat (first | exact List.Mem.head _ | apply List.Mem.tail)) (by first | exact Pers.cells _ _ _ | exact Pers.slv _ _ _ | exact hD) | apply Pick.cons (by repeat (first | exact Pick1.here | apply Pick1.there)))) rfl ?_)
                    rintro _ _ ⟨b2, a2, c2, ys, rfl, -, -, -, rfl⟩
                    refine WPL.putS ?_
                    refine L_s (q_move rfl) rfl ?_
                    refine L_s (q_extract rfl rfl) rfl ?_
                    refine L_s (q_extract rfl rfl) rfl ?_
                    refine L_s (q_extract rfl rfl) rfl ?_
                    refine L_s (q_assign rfl) rfl ?_
                    refine WPL.nil ?_
                    refine blockQ_n ?_
                    refine thenQ_n ?_
                    exact ⟨rfl, _, _, ⟨_, _, _, hI2, rfl, rfl⟩, (by repeat (first | exact trivial | refine ⟨rfl, ?_⟩)), Imp.pick (by repeat (first | exact Pick.nil | apply Pick.keep (by repeat (first | exact List.Mem.head _ | apply List.Mem.tail)) (by first | exact Pers.cells _ _ _ | exact Pers.slv _ _ _ | exact hD) | apply Pick.cons (by repeat (first | exact Pick1.here | apply Pick1.there))))⟩
                  · skip
                    refine WPC.seqR ?_
                    refine L_s (q_int rfl rfl rfl) rfl ?_
                    refine L_s (q_assign rfl) rfl ?_
                    refine WPL.nil ?_
                    refine WPC.cond rfl (fun h8 => ?_) (fun h8 => ?_)
                    · skip
                      refine WPC.region ?_
                      refine L_s (q_move rfl) rfl ?_
                      refine L_s (q_move rfl) rfl ?_
                      obtain ⟨d2, j2, ho2, hI2⟩ := hI.again hT
                      refine WPL.cons rfl (C1.call (c_call Tryd.func14 rfl rfl rfl) (c_OpenJ hn hI.len hok (by omega) ho2) (by repeat (first | exact Pick.nil | apply Pick.keep (by repeat (first | exact List.Mem.head _ | apply List.Mem.tail)) (by first | exact Pers.cells _ _ _ | exact Pers.slv _ _ _ | exact hD) | apply Pick.cons (by repeat (first | exact Pick1.here | apply Pick1.there)))) rfl ?_)
                      rintro _ _ ⟨b2, a2, c2, ys, rfl, -, -, -, rfl⟩
                      refine WPL.putS ?_
                      refine L_s (q_move rfl) rfl ?_
                      refine L_s (q_extract rfl rfl) rfl ?_
                      refine L_s (q_extract rfl rfl) rfl ?_
                      refine L_s (q_extract rfl rfl) rfl ?_
                      refine L_s (q_assign rfl) rfl ?_
                      refine WPL.nil ?_
                      refine blockQ_n ?_
                      refine thenQ_n ?_
                      exact ⟨rfl, _, _, ⟨_, _, _, hI2, rfl, rfl⟩, (by repeat (first | exact trivial | refine ⟨rfl, ?_⟩)), Imp.pick (by repeat (first | exact Pick.nil | apply Pick.keep (by repeat (first | exact List.Mem.head _ | apply List.Mem.tail)) (by first | exact Pers.cells _ _ _ | exact Pers.slv _ _ _ | exact hD) | apply Pick.cons (by repeat (first | exact Pick1.here | apply Pick1.there))))⟩
                    · have hI2 := hI.mono (Nat.le_succ _) hT
                      refine WPC.skip ?_
                      refine blockQ_n ?_
                      refine thenQ_n ?_
                      exact ⟨rfl, _, _, ⟨_, _, _, hI2, rfl, rfl⟩, (by repeat (first | exact trivial | refine ⟨rfl, ?_⟩)), Imp.pick (by repeat (first | exact Pick.nil | apply Pick.keep (by repeat (first | exact List.Mem.head _ | apply List.Mem.tail)) (by first | exact Pers.cells _ _ _ | exact Pers.slv _ _ _ | exact hD) | apply Pick.cons (by repeat (first | exact Pick1.here | apply Pick1.there))))⟩
        · clear hI hjo hnx hok hpl
          rintro e Γ ⟨b, d, j, hI, rfl, rfl⟩
          refine WPC.seqR ?_
          refine L_s (q_move rfl) rfl ?_
          first | refine L_s (q_ptNilEq un_ptr_journal_Journal rfl rfl) rfl ?_ | refine L_s (q_ptNoneEq un_ptr_journal_Journal rfl rfl) rfl ?_
          refine WPL.nil ?_
          refine WPC.cond rfl (fun h9 => ?_) (fun h9 => ?_)
          · try simp only [decide_eq_true_eq, decide_eq_false_iff_not, beq_iff_eq, bne_iff_ne, beq_eq_false_iff_ne, bne_eq_false_iff_eq, Bool.not_eq_true', Bool.not_eq_false', Bool.not_eq_eq_eq_not, Bool.not_true, Bool.not_false, ne_eq, Decidable.not_not, Int.not_lt, Int.not_le, gt_iff_lt, ge_iff_le] at h9
            simp at h9
          · skip
            refine WPC.skip ?_
            refine blockQ_n ?_
            refine thenQ_n ?_
            refine WPC.region ?_
            refine L_s (q_move rfl) rfl ?_
            first | refine L_s (q_inc rfl rfl (by omega)) rfl ?_ | refine L_s (q_addI rfl rfl (by omega)) rfl ?_ | refine L_s (q_int rfl rfl rfl) rfl ?_
            refine L_s (q_assign rfl) rfl ?_
            refine WPL.nil ?_
            refine thenQ_n ?_
            exact ⟨rfl, _, _, _, by omega, ⟨k + 1, _, _, _, rfl, by omega, hI, rfl, rfl⟩, (by repeat (first | exact trivial | refine ⟨rfl, ?_⟩)), Imp.pick (by repeat (first | exact Pick.nil | apply Pick.keep (by repeat (first | exact List.Mem.head _ | apply List.Mem.tail)) (by first | exact Pers.cells _ _ _ | exact Pers.slv _ _ _ | exact hD) | apply Pick.cons (by repeat (first | exact Pick1.here | apply Pick1.there))))⟩
      · skip
        refine WPC.exit ?_
        refine thenQ_e ?_
        refine thenQ_e ?_
        refine blockQ_here ?_
        refine thenQ_n ?_
        refine WPC.seqR ?_
        refine L_s (q_move rfl) rfl ?_
        refine L_s (q_move rfl) rfl ?_
        refine L_s (q_assign rfl) rfl ?_
        refine L_s (q_assign rfl) rfl ?_
        refine WPL.nil ?_
        refine WPC.ret ?_
        exact endR_r rfl (.tmp rfl (.tmp rfl .nil)) (Imp.pick (by repeat (first | exact Pick.nil | apply Pick.keep (by repeat (first | exact List.Mem.head _ | apply List.Mem.tail)) (by first | exact Pers.cells _ _ _ | exact Pers.slv _ _ _ | exact Pers.bytes _) | apply Pick.cons (by repeat (first | exact Pick1.here | apply Pick1.there))))) ⟨db, b, d, j, k + 1, by omega, rfl, hI, rfl⟩

end Go.Sl
