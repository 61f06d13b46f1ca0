/- Walks: JournalAgain. -/
import Derived.Test.YtdbpjcplmfkgaaaDoorJP
namespace Go.Sl
open Go Go.RowKit Go.Proofs
set_option linter.unusedSimpArgs false
set_option linter.unusedVariables false
attribute [local irreducible] faB szB ldB zB zL slB mkB arB plB intB cells objc star stars buf slv grp whole Sat WPC WPL WPA WPO Trip

theorem c_OpenR {db : Nat} {d d2 : DK} {j2 : JN} {n : Nat} (hn : 1 ≤ n ∧ n ≤ 17) (hl : d.seen.length = 20) (hd : d.ok) (hpl : d.pend.length < 600000) (h : jopen0 d 1 n = (d2, some j2, 0)) : Trip Tryd.prog 14 #[.pointer (some ⟨db, 0, none⟩), .int .i64 1, .int .i64 (n : Int)] [disk db d, tblA]
    (fun r Δ => ∃ (b : Nat) (a : Option Addr) (c : Nat) (ys : List BS), r = .tuple #[.pointer (some ⟨b, 0, none⟩), .slice a ys.length c, .int .i64 0] ∧ Sok 1 a ys.length c (ys.map bsV) ∧ ys.map BS.bs = j2.held.map (·.2) ∧ (∀ y ∈ ys, y.ok) ∧ Δ = [jour b db j2, disk db d2, sl false a (ys.map bsV), bytes ys]) := by
  refine (c_OpenJ (db := db) hn hl hd hpl h).post ?_
  rintro v _ ⟨b, a, c, ys, rfl, h1, h2, h3, rfl⟩
  refine ⟨_, ⟨b, a, c, ys, rfl, h1, h2, h3, rfl⟩, ?_⟩
  exact ((Imp.pick (Δ := [buf 1 a ys.length c (ys.map bsV), jour b db j2, disk db d2, bytes ys]) (by repeat (first | exact Pick.nil | apply Pick.keep (by repeat (first | exact List.Mem.head _ | apply List.Mem.tail)) (by first | exact Pers.cells _ _ _ | exact Pers.slv _ _ _ | exact Pers.bytes _) | apply Pick.cons (by repeat (first | exact Pick1.here | apply Pick1.there))))).trans Imp.bufRo).trans ((Imp.drop _ _).trans (Imp.pick (by repeat (first | exact Pick.nil | apply Pick.keep (by repeat (first | exact List.Mem.head _ | apply List.Mem.tail)) (by first | exact Pers.cells _ _ _ | exact Pers.slv _ _ _ | exact Pers.bytes _) | apply Pick.cons (by repeat (first | exact Pick1.here | apply Pick1.there))))))
theorem bs_bound {ys : List BS} {l : List (Nat × List By)} (h : ys.map BS.bs = l.map (·.2)) (hb : ∀ x ∈ l, x.2.length ≤ 43) (ho : ∀ y ∈ ys, y.ok) : ∀ y ∈ ys, y.ok ∧ y.bs.length ≤ 9223372036854775807 := fun y hy => by
  have h1 : y.bs ∈ l.map (·.2) := by rw [← h]; exact List.mem_map_of_mem hy
  obtain ⟨x, hx, e⟩ := List.mem_map.1 h1
  have := hb x hx
  rw [e] at this
  exact ⟨ho y hy, by omega⟩
theorem bs_len {ys : List BS} {l : List (Nat × List By)} (h : ys.map BS.bs = l.map (·.2)) : ys.length = l.length := by have := congrArg List.length h; simpa using this

theorem c_AgainNil {D : A} (hD : Pers D) {n : Int} {a : Option Addr} {c : Nat} {ops : List OpV} (hs : Sok 4 a ops.length c (ops.flatMap encO)) {ba : Option Addr} {bc : Nat} {bs : List By} (hb : Sok 1 ba bs.length bc (bs.map u8)) (hg : ¬ (1 ≤ n ∧ n ≤ 17 ∧ ops.length ≤ 30)) : Trip Tryd.prog 5 #[.int .i64 n, .slice a ops.length c, .slice ba bs.length bc] [sl false a (ops.flatMap encO), tblA, D, sl false ba (bs.map u8)] fun r Δ => r = .bool true ∧ Δ = [] := by
  refine Trip.start 120 [.tmp 6] [(0, .int .i64 n), (1, .slice a ops.length c), (2, .slice ba bs.length bc)] Tryd.func5 rfl Tryd.ntmps5 rfl ⟨rfl, rfl, rfl, trivial⟩ rfl ?_
  refine WPC.seqR ?_
  refine L_s (q_assign rfl) rfl ?_
  refine WPL.nil ?_
  refine WPC.seqR ?_
  refine WPL.cons rfl (C1.call (c_call Tryd.func8 rfl rfl rfl) c_awake (by repeat (first | exact Pick.nil | apply Pick.keep (by repeat (first | exact List.Mem.head _ | apply List.Mem.tail)) (by first | exact Pers.cells _ _ _ | exact Pers.slv _ _ _ | exact hD | exact Pers.bytes _) | apply Pick.cons (by repeat (first | exact Pick1.here | apply Pick1.there)))) rfl ?_)
  rintro _ _ ⟨rfl, rfl⟩
  refine WPL.putS ?_
  refine L_s (q_assign rfl) rfl ?_
  refine WPL.nil ?_
  refine WPC.seqR ?_
  refine L_s (q_move rfl) rfl ?_
  refine L_s (q_move rfl) rfl ?_
  refine WPL.cons rfl (C1.call (c_call Tryd.func9 rfl rfl rfl) (c_madeNil hD hs hg) (by repeat (first | exact Pick.nil | apply Pick.keep (by repeat (first | exact List.Mem.head _ | apply List.Mem.tail)) (by first | exact Pers.cells _ _ _ | exact Pers.slv _ _ _ | exact hD | exact Pers.bytes _) | apply Pick.cons (by repeat (first | exact Pick1.here | apply Pick1.there)))) rfl ?_)
  rintro _ _ ⟨rfl, rfl⟩
  refine WPL.putS ?_
  refine L_s (q_move rfl) rfl ?_
  refine L_s (q_extract rfl rfl) rfl ?_
  refine L_s (q_extract rfl rfl) rfl ?_
  refine L_s (q_assign rfl) rfl ?_
  refine L_s (q_assign rfl) rfl ?_
  refine WPL.nil ?_
  refine WPC.seq ?_
  refine WPC.seqR ?_
  refine L_s (q_move rfl) rfl ?_
  first | refine L_s (q_ptNilEq un_ptr_disk_Disk rfl rfl) rfl ?_ | refine L_s (q_ptNoneEq un_ptr_disk_Disk rfl rfl) rfl ?_
  refine L_s (q_move rfl) rfl ?_
  apply WPL.joinO (e' := [(0, _), (2, _), (6, _), (7, _), (8, _), (9, _)]) 30 33 3 rfl
  · intro g3_2
    try simp only [decide_eq_true_eq, decide_eq_false_iff_not, beq_iff_eq, bne_iff_ne, beq_eq_false_iff_ne, bne_eq_false_iff_eq, Bool.not_eq_true', Bool.not_eq_false', Bool.not_eq_eq_eq_not, Bool.not_true, Bool.not_false, ne_eq, Decidable.not_not, Int.not_lt, Int.not_le, gt_iff_lt, ge_iff_le] at g3_2
    refine L_no rfl rfl rfl rfl ?_
    refine L_no rfl rfl rfl rfl ?_
    first | refine L_s (q_pickT rfl rfl) rfl ?_ | refine L_s (q_pickF rfl rfl) rfl ?_
    first | exact WPL.jn rfl rfl (by repeat (first | exact trivial | refine ⟨rfl, ?_⟩)) | exact WPL.jnI rfl rfl (by repeat (first | exact trivial | refine ⟨rfl, ?_⟩)) (Imp.pick (by repeat (first | exact Pick.nil | apply Pick.keep (by repeat (first | exact List.Mem.head _ | apply List.Mem.tail)) (by first | exact Pers.cells _ _ _ | exact Pers.slv _ _ _ | exact hD | exact Pers.bytes _) | apply Pick.cons (by repeat (first | exact Pick1.here | apply Pick1.there)))))
  · intro g3_2
    try simp only [decide_eq_true_eq, decide_eq_false_iff_not, beq_iff_eq, bne_iff_ne, beq_eq_false_iff_ne, bne_eq_false_iff_eq, Bool.not_eq_true', Bool.not_eq_false', Bool.not_eq_eq_eq_not, Bool.not_true, Bool.not_false, ne_eq, Decidable.not_not, Int.not_lt, Int.not_le, gt_iff_lt, ge_iff_le] at g3_2
    refine L_yes rfl rfl (q_move rfl) rfl ?_
    first | refine L_yes rfl rfl (q_ptNilEq un_ptr_journal_Journal rfl rfl) rfl ?_ | refine L_yes rfl rfl (q_ptNoneEq un_ptr_journal_Journal rfl rfl) rfl ?_
    first | refine L_s (q_pickT rfl rfl) rfl ?_ | refine L_s (q_pickF rfl rfl) rfl ?_
    first | exact WPL.jn rfl rfl (by repeat (first | exact trivial | refine ⟨rfl, ?_⟩)) | exact WPL.jnI rfl rfl (by repeat (first | exact trivial | refine ⟨rfl, ?_⟩)) (Imp.pick (by repeat (first | exact Pick.nil | apply Pick.keep (by repeat (first | exact List.Mem.head _ | apply List.Mem.tail)) (by first | exact Pers.cells _ _ _ | exact Pers.slv _ _ _ | exact hD | exact Pers.bytes _) | apply Pick.cons (by repeat (first | exact Pick1.here | apply Pick1.there)))))
  refine WPL.nil ?_
  refine WPC.cond rfl (fun h0 => ?_) (fun h0 => ?_)
  · skip
    refine WPC.seqR ?_
    refine L_s (q_move rfl) rfl ?_
    refine L_s (q_assign rfl) rfl ?_
    refine WPL.nil ?_
    refine WPC.ret ?_
    refine thenQ_r ?_
    exact endR_r rfl (.tmp rfl .nil) (Imp.pick (by repeat (first | exact Pick.nil | apply Pick.keep (by repeat (first | exact List.Mem.head _ | apply List.Mem.tail)) (by first | exact Pers.cells _ _ _ | exact Pers.slv _ _ _ | exact Pers.bytes _) | apply Pick.cons (by repeat (first | exact Pick1.here | apply Pick1.there))))) ⟨rfl, rfl⟩
  · try simp only [decide_eq_true_eq, decide_eq_false_iff_not, beq_iff_eq, bne_iff_ne, beq_eq_false_iff_ne, bne_eq_false_iff_eq, Bool.not_eq_true', Bool.not_eq_false', Bool.not_eq_eq_eq_not, Bool.not_true, Bool.not_false, ne_eq, Decidable.not_not, Int.not_lt, Int.not_le, gt_iff_lt, ge_iff_le] at h0
    simp at h0

theorem c_Again {D : A} (hD : Pers D) {n : Nat} {a : Option Addr} {c : Nat} {ops : List OpV} (hs : Sok 4 a ops.length c (ops.flatMap encO)) {ba : Option Addr} {bc : Nat} {bs : List By} (hb : Sok 1 ba bs.length bc (bs.map u8)) (hn : 1 ≤ n ∧ n ≤ 17) (hlen : ops.length ≤ 30) (hops : OpsD D ops) : Trip Tryd.prog 5 #[.int .i64 (n : Int), .slice a ops.length c, .slice ba bs.length bc] [sl false a (ops.flatMap encO), tblA, D, sl false ba (bs.map u8)] fun r Δ => r = .bool true ∧ Δ = [] := by
  refine Trip.start 120 [.tmp 6] [(0, .int .i64 (n : Int)), (1, .slice a ops.length c), (2, .slice ba bs.length bc)] Tryd.func5 rfl Tryd.ntmps5 rfl ⟨rfl, rfl, rfl, trivial⟩ rfl ?_
  refine WPC.seqR ?_
  refine L_s (q_assign rfl) rfl ?_
  refine WPL.nil ?_
  refine WPC.seqR ?_
  refine WPL.cons rfl (C1.call (c_call Tryd.func8 rfl rfl rfl) c_awake (by repeat (first | exact Pick.nil | apply Pick.keep (by repeat (first | exact List.Mem.head _ | apply List.Mem.tail)) (by first | exact Pers.cells _ _ _ | exact Pers.slv _ _ _ | exact hD | exact Pers.bytes _) | apply Pick.cons (by repeat (first | exact Pick1.here | apply Pick1.there)))) rfl ?_)
  rintro _ _ ⟨rfl, rfl⟩
  refine WPL.putS ?_
  refine L_s (q_assign rfl) rfl ?_
  refine WPL.nil ?_
  refine WPC.seqR ?_
  refine L_s (q_move rfl) rfl ?_
  refine L_s (q_move rfl) rfl ?_
  refine WPL.cons rfl (C1.call (c_call Tryd.func9 rfl rfl rfl) (c_made hD hs hn hlen hops) (by repeat (first | exact Pick.nil | apply Pick.keep (by repeat (first | exact List.Mem.head _ | apply List.Mem.tail)) (by first | exact Pers.cells _ _ _ | exact Pers.slv _ _ _ | exact hD | exact Pers.bytes _) | apply Pick.cons (by repeat (first | exact Pick1.here | apply Pick1.there)))) rfl ?_)
  rintro _ _ ⟨db, b, d, j, T, hT, rfl, ⟨old, fr, hJ⟩, rfl⟩
  have hb0 := hJ.hb
  have hhl := hJ.hlen
  have hn1 := hJ.n1
  have hhn := hJ.hl
  have hpl := hJ.pl
  refine WPL.putS ?_
  refine L_s (q_move rfl) rfl ?_
  refine L_s (q_extract rfl rfl) rfl ?_
  refine L_s (q_extract rfl rfl) rfl ?_
  refine L_s (q_assign rfl) rfl ?_
  refine L_s (q_assign rfl) rfl ?_
  refine WPL.nil ?_
  refine WPC.seq ?_
  refine WPC.seqR ?_
  refine L_s (q_move rfl) rfl ?_
  first | refine L_s (q_ptNilEq un_ptr_disk_Disk rfl rfl) rfl ?_ | refine L_s (q_ptNoneEq un_ptr_disk_Disk rfl rfl) rfl ?_
  refine L_s (q_move rfl) rfl ?_
  apply WPL.joinO (e' := [(0, _), (2, _), (6, _), (7, _), (8, _), (9, _)]) 30 33 3 rfl
  · intro g3_2
    try simp only [decide_eq_true_eq, decide_eq_false_iff_not, beq_iff_eq, bne_iff_ne, beq_eq_false_iff_ne, bne_eq_false_iff_eq, Bool.not_eq_true', Bool.not_eq_false', Bool.not_eq_eq_eq_not, Bool.not_true, Bool.not_false, ne_eq, Decidable.not_not, Int.not_lt, Int.not_le, gt_iff_lt, ge_iff_le] at g3_2
    refine L_no rfl rfl rfl rfl ?_
    refine L_no rfl rfl rfl rfl ?_
    first | refine L_s (q_pickT rfl rfl) rfl ?_ | refine L_s (q_pickF rfl rfl) rfl ?_
    first | exact WPL.jn rfl rfl (by repeat (first | exact trivial | refine ⟨rfl, ?_⟩)) | exact WPL.jnI rfl rfl (by repeat (first | exact trivial | refine ⟨rfl, ?_⟩)) (Imp.pick (by repeat (first | exact Pick.nil | apply Pick.keep (by repeat (first | exact List.Mem.head _ | apply List.Mem.tail)) (by first | exact Pers.cells _ _ _ | exact Pers.slv _ _ _ | exact hD | exact Pers.bytes _) | apply Pick.cons (by repeat (first | exact Pick1.here | apply Pick1.there)))))
  · intro g3_2
    try simp only [decide_eq_true_eq, decide_eq_false_iff_not, beq_iff_eq, bne_iff_ne, beq_eq_false_iff_ne, bne_eq_false_iff_eq, Bool.not_eq_true', Bool.not_eq_false', Bool.not_eq_eq_eq_not, Bool.not_true, Bool.not_false, ne_eq, Decidable.not_not, Int.not_lt, Int.not_le, gt_iff_lt, ge_iff_le] at g3_2
    refine L_yes rfl rfl (q_move rfl) rfl ?_
    first | refine L_yes rfl rfl (q_ptNilEq un_ptr_journal_Journal rfl rfl) rfl ?_ | refine L_yes rfl rfl (q_ptNoneEq un_ptr_journal_Journal rfl rfl) rfl ?_
    first | refine L_s (q_pickT rfl rfl) rfl ?_ | refine L_s (q_pickF rfl rfl) rfl ?_
    first | exact WPL.jn rfl rfl (by repeat (first | exact trivial | refine ⟨rfl, ?_⟩)) | exact WPL.jnI rfl rfl (by repeat (first | exact trivial | refine ⟨rfl, ?_⟩)) (Imp.pick (by repeat (first | exact Pick.nil | apply Pick.keep (by repeat (first | exact List.Mem.head _ | apply List.Mem.tail)) (by first | exact Pers.cells _ _ _ | exact Pers.slv _ _ _ | exact hD | exact Pers.bytes _) | apply Pick.cons (by repeat (first | exact Pick1.here | apply Pick1.there)))))
  refine WPL.nil ?_
  refine WPC.cond rfl (fun h0 => ?_) (fun h0 => ?_)
  · try simp only [decide_eq_true_eq, decide_eq_false_iff_not, beq_iff_eq, bne_iff_ne, beq_eq_false_iff_ne, bne_eq_false_iff_eq, Bool.not_eq_true', Bool.not_eq_false', Bool.not_eq_eq_eq_not, Bool.not_true, Bool.not_false, ne_eq, Decidable.not_not, Int.not_lt, Int.not_le, gt_iff_lt, ge_iff_le] at h0
    simp at h0
  · skip
    refine WPC.skip ?_
    refine thenQ_n ?_
    refine WPC.seqR ?_
    refine L_s (q_move rfl) rfl ?_
    refine WPL.cons rfl (C1.call (c_call Tryd.func10 rfl rfl rfl) (c_JSync hJ.ok (by omega)) (by repeat (first | exact Pick.nil | apply Pick.keep (by repeat (first | exact List.Mem.head _ | apply List.Mem.tail)) (by first | exact Pers.cells _ _ _ | exact Pers.slv _ _ _ | exact hD | exact Pers.bytes _) | apply Pick.cons (by repeat (first | exact Pick1.here | apply Pick1.there)))) rfl ?_)
    rintro _ _ ⟨rfl, rfl⟩
    have hS := sync_sure hJ
    obtain ⟨d1, j1, ho1, hJ1, hh1⟩ := only_sure hS (by omega)
    obtain ⟨d2, j2, ho2, hJ2, hh2⟩ := only_sure hJ1 (by omega)
    obtain ⟨d3, j3, g, hap, hcase⟩ := append_inv hJ2 (by omega) bs
    have hpl1 := hS.pl
    have hpl2 := hJ1.pl
    have hpl3 := hJ2.pl
    refine WPL.putS ?_
    refine WPL.nil ?_
    refine WPC.seqR ?_
    refine L_s (q_move rfl) rfl ?_
    refine WPL.cons rfl (C1.call (c_call Tryd.func11 rfl rfl rfl) (c_All (by intro x hx; have := hb0 x hx; omega) (by omega)) (by repeat (first | exact Pick.nil | apply Pick.keep (by repeat (first | exact List.Mem.head _ | apply List.Mem.tail)) (by first | exact Pers.cells _ _ _ | exact Pers.slv _ _ _ | exact hD | exact Pers.bytes _) | apply Pick.cons (by repeat (first | exact Pick1.here | apply Pick1.there)))) rfl ?_)
    rintro _ _ ⟨a1, c1, ys, rfl, hys, hye, hyo, rfl⟩
    have hyl := bs_len hye
    refine WPL.imp (Imp.pick (Δ := [buf 1 a1 ys.length c1 (ys.map bsV), bytes ys, jour b db j, disk db d.sync, sl false ba (bs.map u8), tblA]) (by repeat (first | exact Pick.nil | apply Pick.keep (by repeat (first | exact List.Mem.head _ | apply List.Mem.tail)) (by first | exact Pers.cells _ _ _ | exact Pers.slv _ _ _| exact hD | exact Pers.bytes _) | apply Pick.cons (by repeat (first | exact Pick1.here | apply Pick1.there))))) ?_
    refine WPL.bufOpen fun sp hsk hsp => ?_
    refine WPL.putS ?_
    refine L_s (q_assign rfl) rfl ?_
    refine WPL.nil ?_
    refine WPC.seqR ?_
    refine L_s (q_move rfl) rfl ?_
    refine L_s (q_move rfl) rfl ?_
    refine WPL.cons rfl (C1.call (c_call Tryd.func14 rfl rfl rfl) (c_OpenR hn hS.len hS.ok (by omega) ho1) (by repeat (first | exact Pick.nil | apply Pick.keep (by repeat (first | exact List.Mem.head _ | apply List.Mem.tail)) (by first | exact Pers.cells _ _ _ | exact Pers.slv _ _ _ | exact hD | exact Pers.bytes _) | apply Pick.cons (by repeat (first | exact Pick1.here | apply Pick1.there)))) rfl ?_)
    rintro _ _ ⟨b1, a2, c2, zs, rfl, hzs, hze, hzo, rfl⟩
    rw [hh1] at hze
    have hzb := bs_bound hze hb0 hzo
    have hzl := bs_len hze
    have e1 : decide (zs.map BS.bs = ys.map BS.bs) = true := by rw [hze, hye]; exact decide_eq_true rfl
    refine WPL.putS ?_
    refine L_s (q_move rfl) rfl ?_
    refine L_s (q_extract rfl rfl) rfl ?_
    refine L_s (q_extract rfl rfl) rfl ?_
    refine L_s (q_extract rfl rfl) rfl ?_
    refine L_s (q_assign rfl) rfl ?_
    refine L_s (q_assign rfl) rfl ?_
    refine L_s (q_assign rfl) rfl ?_
    refine WPL.nil ?_
    refine WPC.seqR ?_
    refine L_s (q_move rfl) rfl ?_
    refine L_s (q_move rfl) rfl ?_
    refine WPL.cons rfl (C1.call (c_call Tryd.func14 rfl rfl rfl) (c_OpenR hn hJ1.len hJ1.ok (by omega) ho2) (by repeat (first | exact Pick.nil | apply Pick.keep (by repeat (first | exact List.Mem.head _ | apply List.Mem.tail)) (by first | exact Pers.cells _ _ _ | exact Pers.slv _ _ _ | exact hD | exact Pers.bytes _) | apply Pick.cons (by repeat (first | exact Pick1.here | apply Pick1.there)))) rfl ?_)
    rintro _ _ ⟨b2, a3, c3, vs, rfl, hvs, hve, hvo, rfl⟩
    rw [hh2] at hve
    have hvb := bs_bound hve hb0 hvo
    have hvl := bs_len hve
    have e2 : decide (vs.map BS.bs = ys.map BS.bs) = true := by rw [hve, hye]; exact decide_eq_true rfl
    refine WPL.putS ?_
    refine L_s (q_move rfl) rfl ?_
    refine L_s (q_extract rfl rfl) rfl ?_
    refine L_s (q_extract rfl rfl) rfl ?_
    refine L_s (q_extract rfl rfl) rfl ?_
    refine L_s (q_assign rfl) rfl ?_
    refine L_s (q_assign rfl) rfl ?_
    refine L_s (q_assign rfl) rfl ?_
    refine WPL.nil ?_
    refine WPC.prune [(0, _), (2, _), (6, _), (7, _), (8, _), (10, _), (12, _), (13, _), (14, _), (15, _), (16, _)] (by repeat (first | exact trivial | refine ⟨rfl, ?_⟩)) ?_
    refine WPC.seq ?_
    refine WPC.seqR ?_
    refine L_s (q_move rfl) rfl ?_
    first | refine L_s (q_ptNilEq un_ptr_journal_Journal rfl rfl) rfl ?_ | refine L_s (q_ptNoneEq un_ptr_journal_Journal rfl rfl) rfl ?_
    refine L_s (q_move rfl) rfl ?_
    apply WPL.joinO (e' := [(0, _), (2, _), (6, _), (7, _), (8, _), (10, _), (12, _), (14, _), (15, _), (16, _)]) 55 58 3 rfl
    · intro g9_2
      try simp only [decide_eq_true_eq, decide_eq_false_iff_not, beq_iff_eq, bne_iff_ne, beq_eq_false_iff_ne, bne_eq_false_iff_eq, Bool.not_eq_true', Bool.not_eq_false', Bool.not_eq_eq_eq_not, Bool.not_true, Bool.not_false, ne_eq, Decidable.not_not, Int.not_lt, Int.not_le, gt_iff_lt, ge_iff_le] at g9_2
      refine L_no rfl rfl rfl rfl ?_
      refine L_no rfl rfl rfl rfl ?_
      first | refine L_s (q_pickT rfl rfl) rfl ?_ | refine L_s (q_pickF rfl rfl) rfl ?_
      first | exact WPL.jn rfl rfl (by repeat (first | exact trivial | refine ⟨rfl, ?_⟩)) | exact WPL.jnI rfl rfl (by repeat (first | exact trivial | refine ⟨rfl, ?_⟩)) (Imp.pick (by repeat (first | exact Pick.nil | apply Pick.keep (by repeat (first | exact List.Mem.head _ | apply List.Mem.tail)) (by first | exact Pers.cells _ _ _ | exact Pers.slv _ _ _ | exact hD | exact Pers.bytes _) | apply Pick.cons (by repeat (first | exact Pick1.here | apply Pick1.there)))))
    · intro g9_2
      try simp only [decide_eq_true_eq, decide_eq_false_iff_not, beq_iff_eq, bne_iff_ne, beq_eq_false_iff_ne, bne_eq_false_iff_eq, Bool.not_eq_true', Bool.not_eq_false', Bool.not_eq_eq_eq_not, Bool.not_true, Bool.not_false, ne_eq, Decidable.not_not, Int.not_lt, Int.not_le, gt_iff_lt, ge_iff_le] at g9_2
      refine L_yes rfl rfl (q_move rfl) rfl ?_
      refine L_yes rfl rfl (q_int rfl rfl rfl) rfl ?_
      first | refine L_s (q_pickT rfl rfl) rfl ?_ | refine L_s (q_pickF rfl rfl) rfl ?_
      first | exact WPL.jn rfl rfl (by repeat (first | exact trivial | refine ⟨rfl, ?_⟩)) | exact WPL.jnI rfl rfl (by repeat (first | exact trivial | refine ⟨rfl, ?_⟩)) (Imp.pick (by repeat (first | exact Pick.nil | apply Pick.keep (by repeat (first | exact List.Mem.head _ | apply List.Mem.tail)) (by first | exact Pers.cells _ _ _ | exact Pers.slv _ _ _ | exact hD | exact Pers.bytes _) | apply Pick.cons (by repeat (first | exact Pick1.here | apply Pick1.there)))))
    refine L_s (q_move rfl) rfl ?_
    apply WPL.joinO (e' := [(0, _), (2, _), (6, _), (7, _), (8, _), (10, _), (12, _), (14, _), (15, _)]) 59 62 3 rfl
    · intro g9_6
      try simp only [decide_eq_true_eq, decide_eq_false_iff_not, beq_iff_eq, bne_iff_ne, beq_eq_false_iff_ne, bne_eq_false_iff_eq, Bool.not_eq_true', Bool.not_eq_false', Bool.not_eq_eq_eq_not, Bool.not_true, Bool.not_false, ne_eq, Decidable.not_not, Int.not_lt, Int.not_le, gt_iff_lt, ge_iff_le] at g9_6
      refine L_no rfl rfl rfl rfl ?_
      refine L_no rfl rfl rfl rfl ?_
      first | refine L_s (q_pickT rfl rfl) rfl ?_ | refine L_s (q_pickF rfl rfl) rfl ?_
      first | exact WPL.jn rfl rfl (by repeat (first | exact trivial | refine ⟨rfl, ?_⟩)) | exact WPL.jnI rfl rfl (by repeat (first | exact trivial | refine ⟨rfl, ?_⟩)) (Imp.pick (by repeat (first | exact Pick.nil | apply Pick.keep (by repeat (first | exact List.Mem.head _ | apply List.Mem.tail)) (by first | exact Pers.cells _ _ _ | exact Pers.slv _ _ _ | exact hD | exact Pers.bytes _) | apply Pick.cons (by repeat (first | exact Pick1.here | apply Pick1.there)))))
    · intro g9_6
      try simp only [decide_eq_true_eq, decide_eq_false_iff_not, beq_iff_eq, bne_iff_ne, beq_eq_false_iff_ne, bne_eq_false_iff_eq, Bool.not_eq_true', Bool.not_eq_false', Bool.not_eq_eq_eq_not, Bool.not_true, Bool.not_false, ne_eq, Decidable.not_not, Int.not_lt, Int.not_le, gt_iff_lt, ge_iff_le] at g9_6
      refine L_yes rfl rfl (q_move rfl) rfl ?_
      refine L_yes rfl rfl (q_int rfl rfl rfl) rfl ?_
      first | refine L_s (q_pickT rfl rfl) rfl ?_ | refine L_s (q_pickF rfl rfl) rfl ?_
      first | exact WPL.jn rfl rfl (by repeat (first | exact trivial | refine ⟨rfl, ?_⟩)) | exact WPL.jnI rfl rfl (by repeat (first | exact trivial | refine ⟨rfl, ?_⟩)) (Imp.pick (by repeat (first | exact Pick.nil | apply Pick.keep (by repeat (first | exact List.Mem.head _ | apply List.Mem.tail)) (by first | exact Pers.cells _ _ _ | exact Pers.slv _ _ _ | exact hD | exact Pers.bytes _) | apply Pick.cons (by repeat (first | exact Pick1.here | apply Pick1.there)))))
    refine L_s (q_move rfl) rfl ?_
    apply WPL.joinO (e' := [(0, _), (2, _), (6, _), (7, _), (8, _), (10, _), (14, _), (15, _)]) 63 68 5 rfl
    · intro g9_10
      try simp only [decide_eq_true_eq, decide_eq_false_iff_not, beq_iff_eq, bne_iff_ne, beq_eq_false_iff_ne, bne_eq_false_iff_eq, Bool.not_eq_true', Bool.not_eq_false', Bool.not_eq_eq_eq_not, Bool.not_true, Bool.not_false, ne_eq, Decidable.not_not, Int.not_lt, Int.not_le, gt_iff_lt, ge_iff_le] at g9_10
      refine L_no rfl rfl rfl rfl ?_
      refine L_no rfl rfl rfl rfl ?_
      refine L_no rfl rfl rfl rfl ?_
      refine L_no rfl rfl rfl rfl ?_
      first | refine L_s (q_pickT rfl rfl) rfl ?_ | refine L_s (q_pickF rfl rfl) rfl ?_
      first | exact WPL.jn rfl rfl (by repeat (first | exact trivial | refine ⟨rfl, ?_⟩)) | exact WPL.jnI rfl rfl (by repeat (first | exact trivial | refine ⟨rfl, ?_⟩)) (Imp.pick (by repeat (first | exact Pick.nil | apply Pick.keep (by repeat (first | exact List.Mem.head _ | apply List.Mem.tail)) (by first | exact Pers.cells _ _ _ | exact Pers.slv _ _ _ | exact hD | exact Pers.bytes _) | apply Pick.cons (by repeat (first | exact Pick1.here | apply Pick1.there)))))
    · intro g9_10
      try simp only [decide_eq_true_eq, decide_eq_false_iff_not, beq_iff_eq, bne_iff_ne, beq_eq_false_iff_ne, bne_eq_false_iff_eq, Bool.not_eq_true', Bool.not_eq_false', Bool.not_eq_eq_eq_not, Bool.not_true, Bool.not_false, ne_eq, Decidable.not_not, Int.not_lt, Int.not_le, gt_iff_lt, ge_iff_le] at g9_10
      refine L_yes rfl rfl (q_move rfl) rfl ?_
      refine L_yes rfl rfl (q_move rfl) rfl ?_
      refine L_eyes rfl rfl rfl (C1.call (c_call Tryd.func15 rfl rfl rfl) (c_Same06 (p := false) (q := true) hzs hys (by omega) hzb hyo) (by repeat (first | exact Pick.nil | apply Pick.keep (by repeat (first | exact List.Mem.head _ | apply List.Mem.tail)) (by first | exact Pers.cells _ _ _ | exact Pers.slv _ _ _ | exact hD | exact Pers.bytes _) | apply Pick.cons (by repeat (first | exact Pick1.here | apply Pick1.there)))) rfl ?_)
      rintro _ _ ⟨rfl, rfl⟩
      rw [e1]
      refine WPL.putS ?_
      refine L_yes rfl rfl (q_not rfl) rfl ?_
      first | refine L_s (q_pickT rfl rfl) rfl ?_ | refine L_s (q_pickF rfl rfl) rfl ?_
      first | exact WPL.jn rfl rfl (by repeat (first | exact trivial | refine ⟨rfl, ?_⟩)) | exact WPL.jnI rfl rfl (by repeat (first | exact trivial | refine ⟨rfl, ?_⟩)) (Imp.pick (by repeat (first | exact Pick.nil | apply Pick.keep (by repeat (first | exact List.Mem.head _ | apply List.Mem.tail)) (by first | exact Pers.cells _ _ _ | exact Pers.slv _ _ _ | exact hD | exact Pers.bytes _) | apply Pick.cons (by repeat (first | exact Pick1.here | apply Pick1.there)))))
    refine L_s (q_move rfl) rfl ?_
    apply WPL.joinO (e' := [(0, _), (2, _), (6, _), (7, _), (8, _), (10, _), (14, _)]) 69 74 5 rfl
    · intro g9_16
      try simp only [decide_eq_true_eq, decide_eq_false_iff_not, beq_iff_eq, bne_iff_ne, beq_eq_false_iff_ne, bne_eq_false_iff_eq, Bool.not_eq_true', Bool.not_eq_false', Bool.not_eq_eq_eq_not, Bool.not_true, Bool.not_false, ne_eq, Decidable.not_not, Int.not_lt, Int.not_le, gt_iff_lt, ge_iff_le] at g9_16
      refine L_no rfl rfl rfl rfl ?_
      refine L_no rfl rfl rfl rfl ?_
      refine L_no rfl rfl rfl rfl ?_
      refine L_no rfl rfl rfl rfl ?_
      first | refine L_s (q_pickT rfl rfl) rfl ?_ | refine L_s (q_pickF rfl rfl) rfl ?_
      first | exact WPL.jn rfl rfl (by repeat (first | exact trivial | refine ⟨rfl, ?_⟩)) | exact WPL.jnI rfl rfl (by repeat (first | exact trivial | refine ⟨rfl, ?_⟩)) (Imp.pick (by repeat (first | exact Pick.nil | apply Pick.keep (by repeat (first | exact List.Mem.head _ | apply List.Mem.tail)) (by first | exact Pers.cells _ _ _ | exact Pers.slv _ _ _ | exact hD | exact Pers.bytes _) | apply Pick.cons (by repeat (first | exact Pick1.here | apply Pick1.there)))))
    · intro g9_16
      try simp only [decide_eq_true_eq, decide_eq_false_iff_not, beq_iff_eq, bne_iff_ne, beq_eq_false_iff_ne, bne_eq_false_iff_eq, Bool.not_eq_true', Bool.not_eq_false', Bool.not_eq_eq_eq_not, Bool.not_true, Bool.not_false, ne_eq, Decidable.not_not, Int.not_lt, Int.not_le, gt_iff_lt, ge_iff_le] at g9_16
      refine L_yes rfl rfl (q_move rfl) rfl ?_
      refine L_yes rfl rfl (q_move rfl) rfl ?_
      refine L_eyes rfl rfl rfl (C1.call (c_call Tryd.func15 rfl rfl rfl) (c_Same06 (p := false) (q := true) hvs hys (by omega) hvb hyo) (by repeat (first | exact Pick.nil | apply Pick.keep (by repeat (first | exact List.Mem.head _ | apply List.Mem.tail)) (by first | exact Pers.cells _ _ _ | exact Pers.slv _ _ _ | exact hD | exact Pers.bytes _) | apply Pick.cons (by repeat (first | exact Pick1.here | apply Pick1.there)))) rfl ?_)
      rintro _ _ ⟨rfl, rfl⟩
      rw [e2]
      refine WPL.putS ?_
      refine L_yes rfl rfl (q_not rfl) rfl ?_
      first | refine L_s (q_pickT rfl rfl) rfl ?_ | refine L_s (q_pickF rfl rfl) rfl ?_
      first | exact WPL.jn rfl rfl (by repeat (first | exact trivial | refine ⟨rfl, ?_⟩)) | exact WPL.jnI rfl rfl (by repeat (first | exact trivial | refine ⟨rfl, ?_⟩)) (Imp.pick (by repeat (first | exact Pick.nil | apply Pick.keep (by repeat (first | exact List.Mem.head _ | apply List.Mem.tail)) (by first | exact Pers.cells _ _ _ | exact Pers.slv _ _ _ | exact hD | exact Pers.bytes _) | apply Pick.cons (by repeat (first | exact Pick1.here | apply Pick1.there)))))
    refine WPL.nil ?_
    refine WPC.cond rfl (fun h1 => ?_) (fun h1 => ?_)
    · try simp only [decide_eq_true_eq, decide_eq_false_iff_not, beq_iff_eq, bne_iff_ne, beq_eq_false_iff_ne, bne_eq_false_iff_eq, Bool.not_eq_true', Bool.not_eq_false', Bool.not_eq_eq_eq_not, Bool.not_true, Bool.not_false, ne_eq, Decidable.not_not, Int.not_lt, Int.not_le, gt_iff_lt, ge_iff_le] at h1
      simp at h1
    · skip
      refine WPC.skip ?_
      refine thenQ_n ?_
      refine WPC.seqR ?_
      refine L_s (q_move rfl) rfl ?_
      refine L_s (q_move rfl) rfl ?_
      refine WPL.cons rfl (C1.call (c_call Tryd.func12 rfl rfl rfl) (c_JAppend hJ2.jok hJ2.ok (by omega) hb) (by repeat (first | exact Pick.nil | apply Pick.keep (by repeat (first | exact List.Mem.head _ | apply List.Mem.tail)) (by first | exact Pers.cells _ _ _ | exact Pers.slv _ _ _ | exact hD | exact Pers.bytes _) | apply Pick.cons (by repeat (first | exact Pick1.here | apply Pick1.there)))) rfl ?_)
      rintro _ _ ⟨rfl, rfl⟩
      rw [hap]
      refine WPL.putS ?_
      refine L_s (q_assign rfl) rfl ?_
      refine WPL.nil ?_
      refine WPC.seq ?_
      refine WPC.seqR ?_
      refine L_s (q_move rfl) rfl ?_
      refine L_s (q_int rfl rfl rfl) rfl ?_
      refine WPL.nil ?_
      refine WPC.midS (fun e Γ => ∃ (a4 : Option Addr) (c4 : Nat) (qs : List BS), Inv n (T + 3) d3 j3 ∧ qs.map BS.bs = j3.held.map (·.2) ∧ (∀ q ∈ qs, q.ok) ∧ Sok 1 a4 qs.length c4 (qs.map bsV) ∧ (g = 0 ∨ 43 < bs.length ∨ qs.length = n) ∧ e = [(0, .int .i64 (n : Int)), (2, .slice ba bs.length bc), (7, .bool true), (8, .pointer (some ⟨db, 0, none⟩)), (10, .slice a4 qs.length c4), (14, .pointer (some ⟨b2, 0, none⟩)), (17, .int .i64 g)] ∧ Γ = [jour b2 db j3, disk db d3, sl false a4 (qs.map bsV), bytes qs, tblA]) ?_ ?_
      · refine WPC.cond rfl (fun h2 => ?_) (fun h2 => ?_)
        · have hg0 : g = 0 := by simpa using h2
          obtain ⟨hg1, hb43, hh3, hep3, hJ3⟩ : g = 0 ∧ bs.length ≤ 43 ∧ j3.held = j2.held ++ [(j2.epoch, bs)] ∧ j3.epoch = j2.epoch ∧ JInv n (T + 1 + 1 + 1) d3 j3 j.held ([] ++ [bs]) := by
            rcases hcase with h | h
            · exact absurd hg0 h.1
            · exact h
          refine WPC.region ?_
          refine L_s (q_move rfl) rfl ?_
          refine L_s (q_move rfl) rfl ?_
          refine WPL.cons rfl (E1.wpo (e_buildSlice mk_sl_sl_uint8 (by decide) rfl rfl rfl) rfl ?_)
          rintro _ _ ⟨bE, rfl, rfl⟩
          refine WPL.putS ?_
          refine WPL.imp ((Imp.pick (Δ := [sl true a1 (ys.map bsV), cells true (blk a1) (off a1 + (ys.map bsV).length) sp, cells true bE 0 [.slice ba bs.length bc], jour b2 db j3, disk db d3, bytes ys, sl false ba (bs.map u8), tblA]) (by repeat (first | exact Pick.nil | apply Pick.keep (by repeat (first | exact List.Mem.head _ | apply List.Mem.tail)) (by first | exact Pers.cells _ _ _ | exact Pers.slv _ _ _| exact hD | exact Pers.bytes _) | apply Pick.cons (by repeat (first | exact Pick1.here | apply Pick1.there))))).trans (Imp.bufClose hsk hsp)) ?_
          refine WPL.cons rfl (E1.wpo (e_append (m := 1) (news := [bsV ⟨bs, ba, bs.length, bc⟩]) mk_sl_sl_uint8 (by decide) rfl rfl (by repeat (first | exact Pick1.here | apply Pick1.there)) (Rd.part (i := 0) (b := bE) (o := 0) (vs := [bsV ⟨bs, ba, bs.length, bc⟩]) (by repeat (first | exact List.Mem.head _ | apply List.Mem.tail)) rfl rfl rfl) (by simp [Value.oneCell']) (by omega) (by omega)) rfl ?_)
          rintro _ _ ⟨a4, c4, rfl, -, rfl⟩
          rw [show ys.map bsV ++ [bsV ⟨bs, ba, bs.length, bc⟩] = (ys ++ [(⟨bs, ba, bs.length, bc⟩ : BS)]).map bsV by simp, show ys.length + 1 = (ys ++ [(⟨bs, ba, bs.length, bc⟩ : BS)]).length by simp]
          refine WPL.putS ?_
          refine WPL.imp ((Imp.pick (Δ := [BS.at_ ⟨bs, ba, bs.length, bc⟩, bytes ys, jour b2 db j3, disk db d3, buf 1 a4 (ys ++ [(⟨bs, ba, bs.length, bc⟩ : BS)]).length c4 ((ys ++ [(⟨bs, ba, bs.length, bc⟩ : BS)]).map bsV), tblA]) (by repeat (first | exact Pick.nil | apply Pick.keep (by repeat (first | exact List.Mem.head _ | apply List.Mem.tail)) (by first | exact Pers.cells _ _ _ | exact Pers.slv _ _ _| exact hD | exact Pers.bytes _) | apply Pick.cons (by repeat (first | exact Pick1.here | apply Pick1.there))))).trans bytes_snoc) ?_
          refine WPL.imp ((Imp.pick (Δ := [buf 1 a4 (ys ++ [(⟨bs, ba, bs.length, bc⟩ : BS)]).length c4 ((ys ++ [(⟨bs, ba, bs.length, bc⟩ : BS)]).map bsV), jour b2 db j3, disk db d3, bytes (ys ++ [(⟨bs, ba, bs.length, bc⟩ : BS)]), tblA]) (by repeat (first | exact Pick.nil | apply Pick.keep (by repeat (first | exact List.Mem.head _ | apply List.Mem.tail)) (by first | exact Pers.cells _ _ _ | exact Pers.slv _ _ _| exact hD | exact Pers.bytes _) | apply Pick.cons (by repeat (first | exact Pick1.here | apply Pick1.there))))).trans Imp.bufRo) ?_
          refine WPL.pure fun hsk2 => ?_
          refine L_s (q_assign rfl) rfl ?_
          refine WPL.nil ?_
          skip
          refine thenQ_n ?_
          exact ⟨rfl, _, _, ⟨_, _, (ys ++ [(⟨bs, ba, bs.length, bc⟩ : BS)]), ⟨_, _, hJ3⟩, by rw [hh3, hh2]; simp [hye], fun q hq => (List.mem_append.1 hq).elim (hyo q) (fun h => by rw [List.mem_singleton.1 h]; exact hb), hsk2, .inl hg0, rfl, rfl⟩, (by repeat (first | exact trivial | refine ⟨rfl, ?_⟩)), Imp.pick (by repeat (first | exact Pick.nil | apply Pick.keep (by repeat (first | exact List.Mem.head _ | apply List.Mem.tail)) (by first | exact Pers.cells _ _ _ | exact Pers.slv _ _ _ | exact hD | exact Pers.bytes _) | apply Pick.cons (by repeat (first | exact Pick1.here | apply Pick1.there))))⟩
        · have hg0 : g ≠ 0 := by simpa using h2
          obtain ⟨-, hd3, hj3, hwhy⟩ : g ≠ 0 ∧ d3 = d2 ∧ j3 = j2 ∧ (43 < bs.length ∨ j2.held.length = n) := by
            rcases hcase with h | h
            · exact h
            · exact absurd h.1 hg0
          subst hd3 hj3
          refine WPC.imp ((Imp.pick (Δ := [sl true a1 (ys.map bsV), jour b2 db j3, disk db d3, bytes ys, tblA]) (by repeat (first | exact Pick.nil | apply Pick.keep (by repeat (first | exact List.Mem.head _ | apply List.Mem.tail)) (by first | exact Pers.cells _ _ _ | exact Pers.slv _ _ _| exact hD | exact Pers.bytes _) | apply Pick.cons (by repeat (first | exact Pick1.here | apply Pick1.there))))).trans (Imp.freeze _ _ _ _)) ?_
          refine WPC.skip ?_
          refine thenQ_n ?_
          exact ⟨rfl, _, _, ⟨_, _, ys, ⟨_, _, hJ2.mono (by omega) (by omega)⟩, by rw [hh2]; exact hye, hyo, hsk, .inr (hwhy.imp id fun h => by rw [hyl, ← hh2]; exact h), rfl, rfl⟩, (by repeat (first | exact trivial | refine ⟨rfl, ?_⟩)), Imp.pick (by repeat (first | exact Pick.nil | apply Pick.keep (by repeat (first | exact List.Mem.head _ | apply List.Mem.tail)) (by first | exact Pers.cells _ _ _ | exact Pers.slv _ _ _ | exact hD | exact Pers.bytes _) | apply Pick.cons (by repeat (first | exact Pick1.here | apply Pick1.there))))⟩
      · clear hys hye hyo hsp hsk
        rintro e Γ ⟨a4, c4, qs, ⟨old3, fr3, hJ3⟩, hqe, hqo, hqs, hg, rfl, rfl⟩
        have hpl4 := hJ3.pl
        have hql := bs_len hqe
        refine WPC.seqR ?_
        refine L_s (q_move rfl) rfl ?_
        refine WPL.cons rfl (C1.call (c_call Tryd.func10 rfl rfl rfl) (c_JSync hJ3.ok (by omega)) (by repeat (first | exact Pick.nil | apply Pick.keep (by repeat (first | exact List.Mem.head _ | apply List.Mem.tail)) (by first | exact Pers.cells _ _ _ | exact Pers.slv _ _ _ | exact hD | exact Pers.bytes _) | apply Pick.cons (by repeat (first | exact Pick1.here | apply Pick1.there)))) rfl ?_)
        rintro _ _ ⟨rfl, rfl⟩
        have hS3 := sync_sure hJ3
        have hT3 := hS3.pl
        obtain ⟨d5, j5, ho5, hJ5, hh5⟩ := crash_sure hS3 (by omega) []
        refine WPL.putS ?_
        refine WPL.nil ?_
        refine WPC.seqR ?_
        refine L_s (q_move rfl) rfl ?_
        refine WPL.imp (Imp.slEmpty (p := false) (a := none)) ?_
        refine WPL.cons rfl (C1.call (c_call Tryd.func13 rfl rfl rfl) (c_Crash (ps := []) (a := none) (c := 0) (q := false) hS3.ok (by omega) ⟨rfl, Nat.le_refl _, .inl rfl⟩) (by repeat (first | exact Pick.nil | apply Pick.keep (by repeat (first | exact List.Mem.head _ | apply List.Mem.tail)) (by first | exact Pers.cells _ _ _ | exact Pers.slv _ _ _ | exact hD | exact Pers.bytes _) | apply Pick.cons (by repeat (first | exact Pick1.here | apply Pick1.there)))) rfl ?_)
        rintro _ _ ⟨rfl, rfl⟩
        refine WPL.putS ?_
        refine WPL.nil ?_
        refine WPC.seqR ?_
        refine L_s (q_move rfl) rfl ?_
        refine L_s (q_move rfl) rfl ?_
        refine WPL.cons rfl (C1.call (c_call Tryd.func14 rfl rfl rfl) (c_OpenR hn ((Inv.clen ⟨_, _, hS3⟩) _) (hS3.ok.crash _) (by rw [crash_pl]; omega) ho5) (by repeat (first | exact Pick.nil | apply Pick.keep (by repeat (first | exact List.Mem.head _ | apply List.Mem.tail)) (by first | exact Pers.cells _ _ _ | exact Pers.slv _ _ _ | exact hD | exact Pers.bytes _) | apply Pick.cons (by repeat (first | exact Pick1.here | apply Pick1.there)))) rfl ?_)
        rintro _ _ ⟨b5, a5, c5, us, rfl, hus, hue, huo, rfl⟩
        rw [hh5] at hue
        have hub := bs_bound hue hJ3.hb huo
        have hul := bs_len hue
        have hh3l := Inv.hlen ⟨_, _, hJ3⟩
        have e5 : decide (us.map BS.bs = qs.map BS.bs) = true := by rw [hue, hqe]; exact decide_eq_true rfl
        refine WPL.putS ?_
        refine L_s (q_move rfl) rfl ?_
        refine L_s (q_extract rfl rfl) rfl ?_
        refine L_s (q_extract rfl rfl) rfl ?_
        refine L_s (q_extract rfl rfl) rfl ?_
        refine L_s (q_assign rfl) rfl ?_
        refine L_s (q_assign rfl) rfl ?_
        refine L_s (q_assign rfl) rfl ?_
        refine WPL.nil ?_
        refine WPC.seqR ?_
        refine L_s (q_move rfl) rfl ?_
        refine L_s (q_move rfl) rfl ?_
        apply WPL.joinA (e' := [(0, _), (2, _), (10, _), (17, _), (19, _)]) 96 99 3 rfl
        · intro g17_1
          try simp only [decide_eq_true_eq, decide_eq_false_iff_not, beq_iff_eq, bne_iff_ne, beq_eq_false_iff_ne, bne_eq_false_iff_eq, Bool.not_eq_true', Bool.not_eq_false', Bool.not_eq_eq_eq_not, Bool.not_true, Bool.not_false, ne_eq, Decidable.not_not, Int.not_lt, Int.not_le, gt_iff_lt, ge_iff_le] at g17_1
          refine L_yes rfl rfl (q_move rfl) rfl ?_
          refine L_yes rfl rfl (q_int rfl rfl rfl) rfl ?_
          first | refine L_s (q_pickT rfl rfl) rfl ?_ | refine L_s (q_pickF rfl rfl) rfl ?_
          first | exact WPL.jn rfl rfl (by repeat (first | exact trivial | refine ⟨rfl, ?_⟩)) | exact WPL.jnI rfl rfl (by repeat (first | exact trivial | refine ⟨rfl, ?_⟩)) (Imp.pick (by repeat (first | exact Pick.nil | apply Pick.keep (by repeat (first | exact List.Mem.head _ | apply List.Mem.tail)) (by first | exact Pers.cells _ _ _ | exact Pers.slv _ _ _ | exact hD | exact Pers.bytes _) | apply Pick.cons (by repeat (first | exact Pick1.here | apply Pick1.there)))))
        · intro g17_1
          try simp only [decide_eq_true_eq, decide_eq_false_iff_not, beq_iff_eq, bne_iff_ne, beq_eq_false_iff_ne, bne_eq_false_iff_eq, Bool.not_eq_true', Bool.not_eq_false', Bool.not_eq_eq_eq_not, Bool.not_true, Bool.not_false, ne_eq, Decidable.not_not, Int.not_lt, Int.not_le, gt_iff_lt, ge_iff_le] at g17_1
          refine L_no rfl rfl rfl rfl ?_
          refine L_no rfl rfl rfl rfl ?_
          first | refine L_s (q_pickT rfl rfl) rfl ?_ | refine L_s (q_pickF rfl rfl) rfl ?_
          first | exact WPL.jn rfl rfl (by repeat (first | exact trivial | refine ⟨rfl, ?_⟩)) | exact WPL.jnI rfl rfl (by repeat (first | exact trivial | refine ⟨rfl, ?_⟩)) (Imp.pick (by repeat (first | exact Pick.nil | apply Pick.keep (by repeat (first | exact List.Mem.head _ | apply List.Mem.tail)) (by first | exact Pers.cells _ _ _ | exact Pers.slv _ _ _ | exact hD | exact Pers.bytes _) | apply Pick.cons (by repeat (first | exact Pick1.here | apply Pick1.there)))))
        refine L_s (q_move rfl) rfl ?_
        apply WPL.joinA (e' := [(0, _), (2, _), (10, _), (17, _)]) 100 104 4 rfl
        · intro g17_5
          try simp only [decide_eq_true_eq, decide_eq_false_iff_not, beq_iff_eq, bne_iff_ne, beq_eq_false_iff_ne, bne_eq_false_iff_eq, Bool.not_eq_true', Bool.not_eq_false', Bool.not_eq_eq_eq_not, Bool.not_true, Bool.not_false, ne_eq, Decidable.not_not, Int.not_lt, Int.not_le, gt_iff_lt, ge_iff_le] at g17_5
          refine L_yes rfl rfl (q_move rfl) rfl ?_
          refine L_yes rfl rfl (q_move rfl) rfl ?_
          refine L_eyes rfl rfl rfl (C1.call (c_call Tryd.func15 rfl rfl rfl) (c_Same06 (p := false) (q := false) hus hqs (by omega) hub hqo) (by repeat (first | exact Pick.nil | apply Pick.keep (by repeat (first | exact List.Mem.head _ | apply List.Mem.tail)) (by first | exact Pers.cells _ _ _ | exact Pers.slv _ _ _ | exact hD | exact Pers.bytes _) | apply Pick.cons (by repeat (first | exact Pick1.here | apply Pick1.there)))) rfl ?_)
          rintro _ _ ⟨rfl, rfl⟩
          rw [e5]
          refine WPL.putS ?_
          first | refine L_s (q_pickT rfl rfl) rfl ?_ | refine L_s (q_pickF rfl rfl) rfl ?_
          first | exact WPL.jn rfl rfl (by repeat (first | exact trivial | refine ⟨rfl, ?_⟩)) | exact WPL.jnI rfl rfl (by repeat (first | exact trivial | refine ⟨rfl, ?_⟩)) (Imp.pick (by repeat (first | exact Pick.nil | apply Pick.keep (by repeat (first | exact List.Mem.head _ | apply List.Mem.tail)) (by first | exact Pers.cells _ _ _ | exact Pers.slv _ _ _ | exact hD | exact Pers.bytes _) | apply Pick.cons (by repeat (first | exact Pick1.here | apply Pick1.there)))))
        · intro g17_5
          try simp only [decide_eq_true_eq, decide_eq_false_iff_not, beq_iff_eq, bne_iff_ne, beq_eq_false_iff_ne, bne_eq_false_iff_eq, Bool.not_eq_true', Bool.not_eq_false', Bool.not_eq_eq_eq_not, Bool.not_true, Bool.not_false, ne_eq, Decidable.not_not, Int.not_lt, Int.not_le, gt_iff_lt, ge_iff_le] at g17_5
          refine L_no rfl rfl rfl rfl ?_
          refine L_no rfl rfl rfl rfl ?_
          refine L_no rfl rfl rfl rfl ?_
          first | refine L_s (q_pickT rfl rfl) rfl ?_ | refine L_s (q_pickF rfl rfl) rfl ?_
          first | exact WPL.jn rfl rfl (by repeat (first | exact trivial | refine ⟨rfl, ?_⟩)) | exact WPL.jnI rfl rfl (by repeat (first | exact trivial | refine ⟨rfl, ?_⟩)) (Imp.pick (by repeat (first | exact Pick.nil | apply Pick.keep (by repeat (first | exact List.Mem.head _ | apply List.Mem.tail)) (by first | exact Pers.cells _ _ _ | exact Pers.slv _ _ _ | exact hD | exact Pers.bytes _) | apply Pick.cons (by repeat (first | exact Pick1.here | apply Pick1.there)))))
        refine L_s (q_move rfl) rfl ?_
        apply WPL.joinA (e' := []) 105 119 14 rfl
        · intro g17_10
          try simp only [decide_eq_true_eq, decide_eq_false_iff_not, beq_iff_eq, bne_iff_ne, beq_eq_false_iff_ne, bne_eq_false_iff_eq, Bool.not_eq_true', Bool.not_eq_false', Bool.not_eq_eq_eq_not, Bool.not_true, Bool.not_false, ne_eq, Decidable.not_not, Int.not_lt, Int.not_le, gt_iff_lt, ge_iff_le] at g17_10
          refine L_yes rfl rfl (q_move rfl) rfl ?_
          refine L_yes rfl rfl (q_int rfl rfl rfl) rfl ?_
          refine L_yes rfl rfl (q_move rfl) rfl ?_
          apply WPL.joinO (e' := [(0, _), (10, _), (105, _)]) 108 112 4 rfl
          · intro g17_13
            try simp only [decide_eq_true_eq, decide_eq_false_iff_not, beq_iff_eq, bne_iff_ne, beq_eq_false_iff_ne, bne_eq_false_iff_eq, Bool.not_eq_true', Bool.not_eq_false', Bool.not_eq_eq_eq_not, Bool.not_true, Bool.not_false, ne_eq, Decidable.not_not, Int.not_lt, Int.not_le, gt_iff_lt, ge_iff_le] at g17_13
            refine L_no rfl rfl rfl rfl ?_
            refine L_no rfl rfl rfl rfl ?_
            refine L_no rfl rfl rfl rfl ?_
            first | refine L_yes rfl rfl (q_pickT rfl rfl) rfl ?_ | refine L_yes rfl rfl (q_pickF rfl rfl) rfl ?_
            first | exact WPL.jn rfl rfl (by repeat (first | exact trivial | refine ⟨rfl, ?_⟩)) | exact WPL.jnI rfl rfl (by repeat (first | exact trivial | refine ⟨rfl, ?_⟩)) (Imp.pick (by repeat (first | exact Pick.nil | apply Pick.keep (by repeat (first | exact List.Mem.head _ | apply List.Mem.tail)) (by first | exact Pers.cells _ _ _ | exact Pers.slv _ _ _ | exact hD | exact Pers.bytes _) | apply Pick.cons (by repeat (first | exact Pick1.here | apply Pick1.there)))))
          · intro g17_13
            try simp only [decide_eq_true_eq, decide_eq_false_iff_not, beq_iff_eq, bne_iff_ne, beq_eq_false_iff_ne, bne_eq_false_iff_eq, Bool.not_eq_true', Bool.not_eq_false', Bool.not_eq_eq_eq_not, Bool.not_true, Bool.not_false, ne_eq, Decidable.not_not, Int.not_lt, Int.not_le, gt_iff_lt, ge_iff_le] at g17_13
            refine L_yes rfl rfl (q_move rfl) rfl ?_
            refine L_yes rfl rfl (q_len rfl un_sl_uint8 rfl) rfl ?_
            refine L_yes rfl rfl (q_int rfl rfl rfl) rfl ?_
            first | refine L_yes rfl rfl (q_pickT rfl rfl) rfl ?_ | refine L_yes rfl rfl (q_pickF rfl rfl) rfl ?_
            first | exact WPL.jn rfl rfl (by repeat (first | exact trivial | refine ⟨rfl, ?_⟩)) | exact WPL.jnI rfl rfl (by repeat (first | exact trivial | refine ⟨rfl, ?_⟩)) (Imp.pick (by repeat (first | exact Pick.nil | apply Pick.keep (by repeat (first | exact List.Mem.head _ | apply List.Mem.tail)) (by first | exact Pers.cells _ _ _ | exact Pers.slv _ _ _ | exact hD | exact Pers.bytes _) | apply Pick.cons (by repeat (first | exact Pick1.here | apply Pick1.there)))))
          refine L_yes rfl rfl (q_move rfl) rfl ?_
          apply WPL.joinO (e' := [(105, _)]) 113 118 5 rfl
          · intro g17_18
            try simp only [decide_eq_true_eq, decide_eq_false_iff_not, beq_iff_eq, bne_iff_ne, beq_eq_false_iff_ne, bne_eq_false_iff_eq, Bool.not_eq_true', Bool.not_eq_false', Bool.not_eq_eq_eq_not, Bool.not_true, Bool.not_false, ne_eq, Decidable.not_not, Int.not_lt, Int.not_le, gt_iff_lt, ge_iff_le] at g17_18
            refine L_no rfl rfl rfl rfl ?_
            refine L_no rfl rfl rfl rfl ?_
            refine L_no rfl rfl rfl rfl ?_
            refine L_no rfl rfl rfl rfl ?_
            first | refine L_yes rfl rfl (q_pickT rfl rfl) rfl ?_ | refine L_yes rfl rfl (q_pickF rfl rfl) rfl ?_
            first | exact WPL.jn rfl rfl (by repeat (first | exact trivial | refine ⟨rfl, ?_⟩)) | exact WPL.jnI rfl rfl (by repeat (first | exact trivial | refine ⟨rfl, ?_⟩)) (Imp.pick (by repeat (first | exact Pick.nil | apply Pick.keep (by repeat (first | exact List.Mem.head _ | apply List.Mem.tail)) (by first | exact Pers.cells _ _ _ | exact Pers.slv _ _ _ | exact hD | exact Pers.bytes _) | apply Pick.cons (by repeat (first | exact Pick1.here | apply Pick1.there)))))
          · intro g17_18
            try simp only [decide_eq_true_eq, decide_eq_false_iff_not, beq_iff_eq, bne_iff_ne, beq_eq_false_iff_ne, bne_eq_false_iff_eq, Bool.not_eq_true', Bool.not_eq_false', Bool.not_eq_eq_eq_not, Bool.not_true, Bool.not_false, ne_eq, Decidable.not_not, Int.not_lt, Int.not_le, gt_iff_lt, ge_iff_le] at g17_18
            refine L_yes rfl rfl (q_move rfl) rfl ?_
            refine L_yes rfl rfl (q_len rfl un_sl_sl_uint8 rfl) rfl ?_
            refine L_yes rfl rfl (q_move rfl) rfl ?_
            refine L_yes rfl rfl (q_int rfl rfl rfl) rfl ?_
            first | refine L_yes rfl rfl (q_pickT rfl rfl) rfl ?_ | refine L_yes rfl rfl (q_pickF rfl rfl) rfl ?_
            first | exact WPL.jn rfl rfl (by repeat (first | exact trivial | refine ⟨rfl, ?_⟩)) | exact WPL.jnI rfl rfl (by repeat (first | exact trivial | refine ⟨rfl, ?_⟩)) (Imp.pick (by repeat (first | exact Pick.nil | apply Pick.keep (by repeat (first | exact List.Mem.head _ | apply List.Mem.tail)) (by first | exact Pers.cells _ _ _ | exact Pers.slv _ _ _ | exact hD | exact Pers.bytes _) | apply Pick.cons (by repeat (first | exact Pick1.here | apply Pick1.there)))))
          first | refine L_s (q_pickT rfl rfl) rfl ?_ | refine L_s (q_pickF rfl rfl) rfl ?_
          first | exact WPL.jn rfl rfl (by repeat (first | exact trivial | refine ⟨rfl, ?_⟩)) | exact WPL.jnI rfl rfl (by repeat (first | exact trivial | refine ⟨rfl, ?_⟩)) (Imp.pick (by repeat (first | exact Pick.nil | apply Pick.keep (by repeat (first | exact List.Mem.head _ | apply List.Mem.tail)) (by first | exact Pers.cells _ _ _ | exact Pers.slv _ _ _ | exact hD | exact Pers.bytes _) | apply Pick.cons (by repeat (first | exact Pick1.here | apply Pick1.there)))))
        · intro g17_10
          try simp only [decide_eq_true_eq, decide_eq_false_iff_not, beq_iff_eq, bne_iff_ne, beq_eq_false_iff_ne, bne_eq_false_iff_eq, Bool.not_eq_true', Bool.not_eq_false', Bool.not_eq_eq_eq_not, Bool.not_true, Bool.not_false, ne_eq, Decidable.not_not, Int.not_lt, Int.not_le, gt_iff_lt, ge_iff_le] at g17_10
          refine L_no rfl rfl rfl rfl ?_
          refine L_no rfl rfl rfl rfl ?_
          refine L_no rfl rfl rfl rfl ?_
          refine L_off rfl rfl rfl ?_
          refine L_off rfl rfl rfl ?_
          refine L_off rfl rfl rfl ?_
          refine L_no rfl rfl rfl rfl ?_
          refine L_no rfl rfl rfl rfl ?_
          refine L_off rfl rfl rfl ?_
          refine L_off rfl rfl rfl ?_
          refine L_off rfl rfl rfl ?_
          refine L_off rfl rfl rfl ?_
          refine L_no rfl rfl rfl rfl ?_
          first | refine L_s (q_pickT rfl rfl) rfl ?_ | refine L_s (q_pickF rfl rfl) rfl ?_
          first | exact WPL.jn rfl rfl (by repeat (first | exact trivial | refine ⟨rfl, ?_⟩)) | exact WPL.jnI rfl rfl (by repeat (first | exact trivial | refine ⟨rfl, ?_⟩)) (Imp.pick (by repeat (first | exact Pick.nil | apply Pick.keep (by repeat (first | exact List.Mem.head _ | apply List.Mem.tail)) (by first | exact Pers.cells _ _ _ | exact Pers.slv _ _ _ | exact hD | exact Pers.bytes _) | apply Pick.cons (by repeat (first | exact Pick1.here | apply Pick1.there)))))
        refine L_s (q_assign rfl) rfl ?_
        refine WPL.nil ?_
        refine WPC.ret ?_
        exact endR_r rfl (.tmp rfl .nil) (Imp.pick (by repeat (first | exact Pick.nil | apply Pick.keep (by repeat (first | exact List.Mem.head _ | apply List.Mem.tail)) (by first | exact Pers.cells _ _ _ | exact Pers.slv _ _ _ | exact Pers.bytes _) | apply Pick.cons (by repeat (first | exact Pick1.here | apply Pick1.there))))) ⟨by simp only [packV]; congr 1; simp; omega, rfl⟩

end Go.Sl
