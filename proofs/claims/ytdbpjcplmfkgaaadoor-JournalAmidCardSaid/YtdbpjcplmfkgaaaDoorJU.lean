/- Walks: JournalAmid. -/
import Derived.Test.YtdbpjcplmfkgaaaDoorJR
import Derived.Test.YtdbpjcplmfkgaaaDoorJPure9
namespace Go.Sl
open Go Go.RowKit Go.Proofs
set_option linter.unusedSimpArgs false
set_option linter.unusedVariables false
attribute [local irreducible] faB szB ldB zB zL slB mkB arB plB intB cells objc star stars buf slv grp whole Sat WPC WPL WPA WPO Trip

theorem c_FuseD {b : Nat} {d : DK} (f : Int) : Trip Tryd.prog 17 #[.pointer (some ⟨b, 0, none⟩), .int .i64 f] [disk b d] (fun r Δ => r = .tuple #[] ∧ Δ = [disk b { d with fuse := f }]) := by
  refine disk_open fun L hL => ?_
  have hc := (c_Fuse (b := b) (d := d) (L := L) f).frame [sl true L.sa (d.seen.flatMap encS), sl true L.ua (d.sure.flatMap encS), buf 65 L.pa d.pend.length L.pc (d.pend.flatMap encW)]
  refine hc.post ?_
  rintro v _ ⟨_, ⟨rfl, rfl⟩, rfl⟩
  exact ⟨_, ⟨rfl, rfl⟩, disk_close (b := b) (d := { d with fuse := f }) L ⟨hL.s, hL.u⟩ (Γ := [])⟩

theorem c_AmidNil {D : A} (hD : Pers D) {n : Int} {a : Option Addr} {c : Nat} {ops : List OpV} (hs : Sok 4 a ops.length c (ops.flatMap encO)) {pa oa qa : Option Addr} {pc oc qn qc : Nat} {ps : List Int} {obs : List By} {od on_ F : Int} (hp : Sok 1 pa ps.length pc (ps.map (.int .i64))) (hob : Sok 1 oa obs.length oc (obs.map u8)) (hF : -9223372036854775808 ≤ F ∧ F ≤ 9223372036854775807) (hg : ¬ (1 ≤ n ∧ n ≤ 17 ∧ ops.length ≤ 30)) : Trip Tryd.prog 6 #[.int .i64 n, .slice a ops.length c, .agg #[.int .i64 od, .int .i64 on_, .slice oa obs.length oc, .slice qa qn qc], .int .i64 F, .slice pa ps.length pc] [sl false a (ops.flatMap encO), tblA, D, sl false pa (ps.map (.int .i64)), sl false oa (obs.map u8)] fun r Δ => r = .bool true ∧ Δ = [] := by
  refine Trip.start 164 [.tmp 10] [(0, .int .i64 n), (1, .slice a ops.length c), (2, .agg #[.int .i64 od, .int .i64 on_, .slice oa obs.length oc, .slice qa qn qc]), (3, .int .i64 F), (4, .slice pa ps.length pc)] Tryd.func6 rfl Tryd.ntmps6 rfl ⟨rfl, rfl, rfl, rfl, rfl, trivial⟩ rfl ?_
  refine WPC.seqR ?_
  first | refine WPL.cons rfl (E1.wpo (e_boxN rfl) rfl ?_) | refine WPL.cons rfl (E1.wpo (e_box1 rfl rfl) rfl ?_)
  rintro _ _ ⟨bo, rfl, rfl⟩
  refine WPL.putS ?_
  refine L_s (q_assign rfl) rfl ?_
  refine WPL.nil ?_
  refine WPC.seqR ?_
  refine WPL.cons rfl (C1.call (c_call Tryd.func8 rfl rfl rfl) c_awake (by repeat (first | exact Pick.nil | apply Pick.keep (by repeat (first | exact List.Mem.head _ | apply List.Mem.tail)) (by first | exact Pers.cells _ _ _ | exact Pers.slv _ _ _ | exact hD | exact Pers.bytes _) | apply Pick.cons (by repeat (first | exact Pick1.here | apply Pick1.there)))) rfl ?_)
  rintro _ _ ⟨rfl, rfl⟩
  refine WPL.putS ?_
  refine L_s (q_assign rfl) rfl ?_
  refine WPL.nil ?_
  refine WPC.seqR ?_
  refine L_s (q_move rfl) rfl ?_
  refine L_s (q_move rfl) rfl ?_
  refine WPL.cons rfl (C1.call (c_call Tryd.func9 rfl rfl rfl) (c_madeNil hD hs hg) (by repeat (first | exact Pick.nil | apply Pick.keep (by repeat (first | exact List.Mem.head _ | apply List.Mem.tail)) (by first | exact Pers.cells _ _ _ | exact Pers.slv _ _ _ | exact hD | exact Pers.bytes _) | apply Pick.cons (by repeat (first | exact Pick1.here | apply Pick1.there)))) rfl ?_)
  rintro _ _ ⟨rfl, rfl⟩
  refine WPL.putS ?_
  refine L_s (q_move rfl) rfl ?_
  refine L_s (q_extract rfl rfl) rfl ?_
  refine L_s (q_extract rfl rfl) rfl ?_
  refine L_s (q_assign rfl) rfl ?_
  refine L_s (q_assign rfl) rfl ?_
  refine WPL.nil ?_
  refine WPC.seq ?_
  refine WPC.seqR ?_
  refine L_s (q_move rfl) rfl ?_
  first | refine L_s (q_ptNilEq un_ptr_disk_Disk rfl rfl) rfl ?_ | refine L_s (q_ptNoneEq un_ptr_disk_Disk rfl rfl) rfl ?_
  refine L_s (q_move rfl) rfl ?_
  apply WPL.joinO (e' := [(0, _), (3, _), (4, _), (7, _), (10, _), (11, _), (12, _), (13, _)]) 30 33 3 rfl
  · intro g3_2
    try simp only [decide_eq_true_eq, decide_eq_false_iff_not, beq_iff_eq, bne_iff_ne, beq_eq_false_iff_ne, bne_eq_false_iff_eq, Bool.not_eq_true', Bool.not_eq_false', Bool.not_eq_eq_eq_not, Bool.not_true, Bool.not_false, ne_eq, Decidable.not_not, Int.not_lt, Int.not_le, gt_iff_lt, ge_iff_le] at g3_2
    refine L_no rfl rfl rfl rfl ?_
    refine L_no rfl rfl rfl rfl ?_
    first | refine L_s (q_pickT rfl rfl) rfl ?_ | refine L_s (q_pickF rfl rfl) rfl ?_
    first | exact WPL.jn rfl rfl (by repeat (first | exact trivial | refine ⟨rfl, ?_⟩)) | exact WPL.jnI rfl rfl (by repeat (first | exact trivial | refine ⟨rfl, ?_⟩)) (Imp.pick (by repeat (first | exact Pick.nil | apply Pick.keep (by repeat (first | exact List.Mem.head _ | apply List.Mem.tail)) (by first | exact Pers.cells _ _ _ | exact Pers.slv _ _ _ | exact hD | exact Pers.bytes _) | apply Pick.cons (by repeat (first | exact Pick1.here | apply Pick1.there)))))
  · intro g3_2
    try simp only [decide_eq_true_eq, decide_eq_false_iff_not, beq_iff_eq, bne_iff_ne, beq_eq_false_iff_ne, bne_eq_false_iff_eq, Bool.not_eq_true', Bool.not_eq_false', Bool.not_eq_eq_eq_not, Bool.not_true, Bool.not_false, ne_eq, Decidable.not_not, Int.not_lt, Int.not_le, gt_iff_lt, ge_iff_le] at g3_2
    refine L_yes rfl rfl (q_move rfl) rfl ?_
    first | refine L_yes rfl rfl (q_ptNilEq un_ptr_journal_Journal rfl rfl) rfl ?_ | refine L_yes rfl rfl (q_ptNoneEq un_ptr_journal_Journal rfl rfl) rfl ?_
    first | refine L_s (q_pickT rfl rfl) rfl ?_ | refine L_s (q_pickF rfl rfl) rfl ?_
    first | exact WPL.jn rfl rfl (by repeat (first | exact trivial | refine ⟨rfl, ?_⟩)) | exact WPL.jnI rfl rfl (by repeat (first | exact trivial | refine ⟨rfl, ?_⟩)) (Imp.pick (by repeat (first | exact Pick.nil | apply Pick.keep (by repeat (first | exact List.Mem.head _ | apply List.Mem.tail)) (by first | exact Pers.cells _ _ _ | exact Pers.slv _ _ _ | exact hD | exact Pers.bytes _) | apply Pick.cons (by repeat (first | exact Pick1.here | apply Pick1.there)))))
  refine WPL.nil ?_
  refine WPC.cond rfl (fun h0 => ?_) (fun h0 => ?_)
  · skip
    refine WPC.seqR ?_
    refine L_s (q_move rfl) rfl ?_
    refine L_s (q_assign rfl) rfl ?_
    refine WPL.nil ?_
    refine WPC.ret ?_
    refine thenQ_r ?_
    exact endR_r rfl (.tmp rfl .nil) (Imp.pick (by repeat (first | exact Pick.nil | apply Pick.keep (by repeat (first | exact List.Mem.head _ | apply List.Mem.tail)) (by first | exact Pers.cells _ _ _ | exact Pers.slv _ _ _ | exact Pers.bytes _) | apply Pick.cons (by repeat (first | exact Pick1.here | apply Pick1.there))))) ⟨rfl, rfl⟩
  · try simp only [decide_eq_true_eq, decide_eq_false_iff_not, beq_iff_eq, bne_iff_ne, beq_eq_false_iff_ne, bne_eq_false_iff_eq, Bool.not_eq_true', Bool.not_eq_false', Bool.not_eq_eq_eq_not, Bool.not_true, Bool.not_false, ne_eq, Decidable.not_not, Int.not_lt, Int.not_le, gt_iff_lt, ge_iff_le] at h0
    simp at h0

theorem c_Amid {D : A} (hD : Pers D) {n : Nat} {a : Option Addr} {c : Nat} {ops : List OpV} (hs : Sok 4 a ops.length c (ops.flatMap encO)) {pa oa qa : Option Addr} {pc oc qn qc : Nat} {ps : List Int} {obs : List By} {od on_ F : Int} (hp : Sok 1 pa ps.length pc (ps.map (.int .i64))) (hob : Sok 1 oa obs.length oc (obs.map u8)) (hF : -9223372036854775808 ≤ F ∧ F ≤ 9223372036854775807) (hn : 1 ≤ n ∧ n ≤ 17) (hlen : ops.length ≤ 30) (hops : OpsD D ops) : Trip Tryd.prog 6 #[.int .i64 (n : Int), .slice a ops.length c, .agg #[.int .i64 od, .int .i64 on_, .slice oa obs.length oc, .slice qa qn qc], .int .i64 F, .slice pa ps.length pc] [sl false a (ops.flatMap encO), tblA, D, sl false pa (ps.map (.int .i64)), sl false oa (obs.map u8)] fun r Δ => r = .bool true ∧ Δ = [] := by
  refine Trip.start 164 [.tmp 10] [(0, .int .i64 (n : Int)), (1, .slice a ops.length c), (2, .agg #[.int .i64 od, .int .i64 on_, .slice oa obs.length oc, .slice qa qn qc]), (3, .int .i64 F), (4, .slice pa ps.length pc)] Tryd.func6 rfl Tryd.ntmps6 rfl ⟨rfl, rfl, rfl, rfl, rfl, trivial⟩ rfl ?_
  refine WPC.seqR ?_
  first | refine WPL.cons rfl (E1.wpo (e_boxN rfl) rfl ?_) | refine WPL.cons rfl (E1.wpo (e_box1 rfl rfl) rfl ?_)
  rintro _ _ ⟨bo, rfl, rfl⟩
  refine WPL.putS ?_
  refine L_s (q_assign rfl) rfl ?_
  refine WPL.nil ?_
  refine WPC.seqR ?_
  refine WPL.cons rfl (C1.call (c_call Tryd.func8 rfl rfl rfl) c_awake (by repeat (first | exact Pick.nil | apply Pick.keep (by repeat (first | exact List.Mem.head _ | apply List.Mem.tail)) (by first | exact Pers.cells _ _ _ | exact Pers.slv _ _ _ | exact hD | exact Pers.bytes _) | apply Pick.cons (by repeat (first | exact Pick1.here | apply Pick1.there)))) rfl ?_)
  rintro _ _ ⟨rfl, rfl⟩
  refine WPL.putS ?_
  refine L_s (q_assign rfl) rfl ?_
  refine WPL.nil ?_
  refine WPC.seqR ?_
  refine L_s (q_move rfl) rfl ?_
  refine L_s (q_move rfl) rfl ?_
  refine WPL.cons rfl (C1.call (c_call Tryd.func9 rfl rfl rfl) (c_made hD hs hn hlen hops) (by repeat (first | exact Pick.nil | apply Pick.keep (by repeat (first | exact List.Mem.head _ | apply List.Mem.tail)) (by first | exact Pers.cells _ _ _ | exact Pers.slv _ _ _ | exact hD | exact Pers.bytes _) | apply Pick.cons (by repeat (first | exact Pick1.here | apply Pick1.there)))) rfl ?_)
  rintro _ _ ⟨db, b, d, j, T, hT, rfl, ⟨old, fr0, hJ⟩, rfl⟩
  have hb0 := hJ.hb
  have hhl := hJ.hlen
  have hn1 := hJ.n1
  have hhn := hJ.hl
  have hpl := hJ.pl
  refine WPL.putS ?_
  refine L_s (q_move rfl) rfl ?_
  refine L_s (q_extract rfl rfl) rfl ?_
  refine L_s (q_extract rfl rfl) rfl ?_
  refine L_s (q_assign rfl) rfl ?_
  refine L_s (q_assign rfl) rfl ?_
  refine WPL.nil ?_
  refine WPC.seq ?_
  refine WPC.seqR ?_
  refine L_s (q_move rfl) rfl ?_
  first | refine L_s (q_ptNilEq un_ptr_disk_Disk rfl rfl) rfl ?_ | refine L_s (q_ptNoneEq un_ptr_disk_Disk rfl rfl) rfl ?_
  refine L_s (q_move rfl) rfl ?_
  apply WPL.joinO (e' := [(0, _), (3, _), (4, _), (7, _), (10, _), (11, _), (12, _), (13, _)]) 30 33 3 rfl
  · intro g3_2
    try simp only [decide_eq_true_eq, decide_eq_false_iff_not, beq_iff_eq, bne_iff_ne, beq_eq_false_iff_ne, bne_eq_false_iff_eq, Bool.not_eq_true', Bool.not_eq_false', Bool.not_eq_eq_eq_not, Bool.not_true, Bool.not_false, ne_eq, Decidable.not_not, Int.not_lt, Int.not_le, gt_iff_lt, ge_iff_le] at g3_2
    refine L_no rfl rfl rfl rfl ?_
    refine L_no rfl rfl rfl rfl ?_
    first | refine L_s (q_pickT rfl rfl) rfl ?_ | refine L_s (q_pickF rfl rfl) rfl ?_
    first | exact WPL.jn rfl rfl (by repeat (first | exact trivial | refine ⟨rfl, ?_⟩)) | exact WPL.jnI rfl rfl (by repeat (first | exact trivial | refine ⟨rfl, ?_⟩)) (Imp.pick (by repeat (first | exact Pick.nil | apply Pick.keep (by repeat (first | exact List.Mem.head _ | apply List.Mem.tail)) (by first | exact Pers.cells _ _ _ | exact Pers.slv _ _ _ | exact hD | exact Pers.bytes _) | apply Pick.cons (by repeat (first | exact Pick1.here | apply Pick1.there)))))
  · intro g3_2
    try simp only [decide_eq_true_eq, decide_eq_false_iff_not, beq_iff_eq, bne_iff_ne, beq_eq_false_iff_ne, bne_eq_false_iff_eq, Bool.not_eq_true', Bool.not_eq_false', Bool.not_eq_eq_eq_not, Bool.not_true, Bool.not_false, ne_eq, Decidable.not_not, Int.not_lt, Int.not_le, gt_iff_lt, ge_iff_le] at g3_2
    refine L_yes rfl rfl (q_move rfl) rfl ?_
    first | refine L_yes rfl rfl (q_ptNilEq un_ptr_journal_Journal rfl rfl) rfl ?_ | refine L_yes rfl rfl (q_ptNoneEq un_ptr_journal_Journal rfl rfl) rfl ?_
    first | refine L_s (q_pickT rfl rfl) rfl ?_ | refine L_s (q_pickF rfl rfl) rfl ?_
    first | exact WPL.jn rfl rfl (by repeat (first | exact trivial | refine ⟨rfl, ?_⟩)) | exact WPL.jnI rfl rfl (by repeat (first | exact trivial | refine ⟨rfl, ?_⟩)) (Imp.pick (by repeat (first | exact Pick.nil | apply Pick.keep (by repeat (first | exact List.Mem.head _ | apply List.Mem.tail)) (by first | exact Pers.cells _ _ _ | exact Pers.slv _ _ _ | exact hD | exact Pers.bytes _) | apply Pick.cons (by repeat (first | exact Pick1.here | apply Pick1.there)))))
  refine WPL.nil ?_
  refine WPC.cond rfl (fun h0 => ?_) (fun h0 => ?_)
  · try simp only [decide_eq_true_eq, decide_eq_false_iff_not, beq_iff_eq, bne_iff_ne, beq_eq_false_iff_ne, bne_eq_false_iff_eq, Bool.not_eq_true', Bool.not_eq_false', Bool.not_eq_eq_eq_not, Bool.not_true, Bool.not_false, ne_eq, Decidable.not_not, Int.not_lt, Int.not_le, gt_iff_lt, ge_iff_le] at h0
    simp at h0
  · skip
    refine WPC.skip ?_
    refine thenQ_n ?_
    refine WPC.seqR ?_
    refine L_s (q_move rfl) rfl ?_
    refine WPL.cons rfl (C1.call (c_call Tryd.func10 rfl rfl rfl) (c_JSync hJ.ok (by omega)) (by repeat (first | exact Pick.nil | apply Pick.keep (by repeat (first | exact List.Mem.head _ | apply List.Mem.tail)) (by first | exact Pers.cells _ _ _ | exact Pers.slv _ _ _ | exact hD | exact Pers.bytes _) | apply Pick.cons (by repeat (first | exact Pick1.here | apply Pick1.there)))) rfl ?_)
    rintro _ _ ⟨rfl, rfl⟩
    have hS := sync_sure hJ
    refine WPL.putS ?_
    refine WPL.nil ?_
    refine WPC.seqR ?_
    refine L_s (q_move rfl) rfl ?_
    refine WPL.cons rfl (C1.call (c_call Tryd.func11 rfl rfl rfl) (c_AllR hb0 (by omega)) (by repeat (first | exact Pick.nil | apply Pick.keep (by repeat (first | exact List.Mem.head _ | apply List.Mem.tail)) (by first | exact Pers.cells _ _ _ | exact Pers.slv _ _ _ | exact hD | exact Pers.bytes _) | apply Pick.cons (by repeat (first | exact Pick1.here | apply Pick1.there)))) rfl ?_)
    rintro _ _ ⟨a1, c1, ys, rfl, hys, hye, hyo, rfl⟩
    have hyl := bs_len hye
    have hycap := hys.cap
    refine WPL.putS ?_
    refine L_s (q_assign rfl) rfl ?_
    refine WPL.nil ?_
    refine WPC.seqR ?_
    refine L_s (q_move rfl) rfl ?_
    refine L_s (q_move rfl) rfl ?_
    refine WPL.cons rfl (C1.call (c_call Tryd.func17 rfl rfl rfl) (c_FuseD F) (by repeat (first | exact Pick.nil | apply Pick.keep (by repeat (first | exact List.Mem.head _ | apply List.Mem.tail)) (by first | exact Pers.cells _ _ _ | exact Pers.slv _ _ _ | exact hD | exact Pers.bytes _) | apply Pick.cons (by repeat (first | exact Pick1.here | apply Pick1.there)))) rfl ?_)
    rintro _ _ ⟨rfl, rfl⟩
    obtain ⟨d1, hd1⟩ : ∃ d1 : DK, ({ d.sync with fuse := F } : DK) = d1 := ⟨_, rfl⟩
    have hA := amid_append hS (by omega) F obs ps
    have hTr := amid_trim hS hF on_ ps
    have hCu := amid_cut hS hF on_ ps
    have hfine : Fine ({ d.sync with fuse := F } : DK) 17 := ⟨⟨hS.ok.n, hS.ok.same, hS.ok.idx, hF⟩, hS.len, hS.pl⟩
    have hjk : j.ok ({ d.sync with fuse := F } : DK) := ⟨hS.jok.n, hS.jok.at_, hS.jok.first, hS.jok.epoch, hS.jok.low, hS.jok.held, hS.jok.eps⟩
    have hnx := hS.next_lt
    rw [hd1] at hA hTr hCu hfine hjk ⊢
    have hdp := hfine.pend
    refine WPL.putS ?_
    refine WPL.nil ?_
    refine WPC.seqR ?_
    refine L_s (q_assign rfl) rfl ?_
    refine WPL.nil ?_
    refine WPC.seqR ?_
    refine L_s (q_move rfl) rfl ?_
    refine WPL.cons rfl (C1.call (c_call Tryd.func11 rfl rfl rfl) (c_All (by intro x hx; have := hb0 x hx; omega) (by omega)) (by repeat (first | exact Pick.nil | apply Pick.keep (by repeat (first | exact List.Mem.head _ | apply List.Mem.tail)) (by first | exact Pers.cells _ _ _ | exact Pers.slv _ _ _ | exact hD | exact Pers.bytes _) | apply Pick.cons (by repeat (first | exact Pick1.here | apply Pick1.there)))) rfl ?_)
    rintro _ _ ⟨a2, c2, zs, rfl, hzs, hze, hzo, rfl⟩
    have hzl := bs_len hze
    refine WPL.putS ?_
    refine L_s (q_assign rfl) rfl ?_
    refine WPL.nil ?_
    refine WPC.seq ?_
    refine WPC.seqR ?_
    obtain ⟨dA6, jA6, hA1, hA2⟩ := hA
    obtain ⟨dT6, jT6, hT1, hT2, hT3⟩ := hTr
    obtain ⟨m, dC6, jC6, hC1, hC2, hC3, hC4, hC5⟩ := hCu
    first | refine L_s (q_faK fa_pursuivantlaw06_Op_Do rfl) rfl ?_ | refine L_s (q_fa fa_pursuivantlaw06_Op_Do rfl) rfl ?_
    first | refine L_s (q_load1z ld_int rfl (by repeat (first | exact List.Mem.head _ | apply List.Mem.tail)) (by rfl)) rfl ?_ | refine L_s (q_load1 ld_int rfl (by repeat (first | exact List.Mem.head _ | apply List.Mem.tail)) rfl (by rfl)) rfl ?_
    refine WPL.nil ?_
    refine WPC.midS (fun e Γ => ∃ (g : Int) (d3 d6 : DK) (j6 : JN) (a4 : Option Addr) (c4 nq : Nat) (qs : List BS), jopen0 (d3.crash ps) 1 n = (d6, some j6, 0) ∧ Fine d3 100 ∧ (∀ q ∈ qs, q.ok) ∧ qs.length = nq ∧ Sok 1 a4 nq c4 (qs.map bsV) ∧ AmidP (j.held.map (·.2)) (qs.map BS.bs) (j6.held.map (·.2)) g od ∧ e = [(0, .int .i64 (n : Int)), (4, .slice pa ps.length pc), (7, .pointer (some ⟨bo, 0, none⟩)), (11, .bool true), (12, .pointer (some ⟨db, 0, none⟩)), (14, .slice a1 ys.length c1), (15, .int .i64 g), (16, .slice a4 nq c4)] ∧ Γ = [disk db d3, sl false a1 (ys.map bsV), bytes ys, sl false a4 (qs.map bsV), bytes qs, cells true bo 0 [.int .i64 od, .int .i64 on_, .slice oa obs.length oc, .slice qa qn qc], sl false pa (ps.map (.int .i64)), tblA]) ?_ ?_
    · refine WPC.block ?_
      refine WPC.seqR ?_
      refine L_s (q_int rfl rfl rfl) rfl ?_
      refine L_s (q_assign rfl) rfl ?_
      refine WPL.nil ?_
      refine WPC.cond rfl (fun h1 => ?_) (fun h1 => ?_)
      · have hod : od = 1 := by simpa using h1
        refine WPC.seqR ?_
        refine L_s (q_move rfl) rfl ?_
        first | refine L_s (q_faK fa_pursuivantlaw06_Op_B rfl) rfl ?_ | refine L_s (q_fa fa_pursuivantlaw06_Op_B rfl) rfl ?_
        first | refine L_s (q_load1z ld_sl_uint8 rfl (by repeat (first | exact List.Mem.head _ | apply List.Mem.tail)) (by rfl)) rfl ?_ | refine L_s (q_load1 ld_sl_uint8 rfl (by repeat (first | exact List.Mem.head _ | apply List.Mem.tail)) rfl (by rfl)) rfl ?_
        refine WPL.cons rfl (C1.call (c_call Tryd.func12 rfl rfl rfl) (c_JAppend hjk hfine.ok (by omega) hob) (by repeat (first | exact Pick.nil | apply Pick.keep (by repeat (first | exact List.Mem.head _ | apply List.Mem.tail)) (by first | exact Pers.cells _ _ _ | exact Pers.slv _ _ _ | exact hD | exact Pers.bytes _) | apply Pick.cons (by repeat (first | exact Pick1.here | apply Pick1.there)))) rfl ?_)
        rintro _ _ ⟨rfl, rfl⟩
        refine WPL.putS ?_
        refine L_s (q_assign rfl) rfl ?_
        refine WPL.nil ?_
        refine WPC.region ?_
        refine L_s (q_move rfl) rfl ?_
        first | refine L_s (q_faK fa_pursuivantlaw06_Op_B rfl) rfl ?_ | refine L_s (q_fa fa_pursuivantlaw06_Op_B rfl) rfl ?_
        first | refine L_s (q_load1z ld_sl_uint8 rfl (by repeat (first | exact List.Mem.head _ | apply List.Mem.tail)) (by rfl)) rfl ?_ | refine L_s (q_load1 ld_sl_uint8 rfl (by repeat (first | exact List.Mem.head _ | apply List.Mem.tail)) rfl (by rfl)) rfl ?_
        refine WPL.cons rfl (E1.wpo (e_buildSlice mk_sl_sl_uint8 (by decide) rfl rfl rfl) rfl ?_)
        rintro _ _ ⟨bE, rfl, rfl⟩
        refine WPL.putS ?_
        refine WPL.cons rfl (E1.wpo (e_append (m := 1) (news := [bsV (⟨obs, oa, obs.length, oc⟩ : BS)]) mk_sl_sl_uint8 (by decide) rfl rfl (by repeat (first | exact Pick1.here | apply Pick1.there)) (Rd.part (i := 0) (b := bE) (o := 0) (vs := [bsV (⟨obs, oa, obs.length, oc⟩ : BS)]) (by repeat (first | exact List.Mem.head _ | apply List.Mem.tail)) rfl rfl rfl) (by simp [Value.oneCell']) (by omega) (by omega)) rfl ?_)
        rintro _ _ ⟨a4, c4, rfl, -, rfl⟩
        rw [show zs.map bsV ++ [bsV (⟨obs, oa, obs.length, oc⟩ : BS)] = (zs ++ [(⟨obs, oa, obs.length, oc⟩ : BS)]).map bsV by simp, show zs.length + 1 = (zs ++ [(⟨obs, oa, obs.length, oc⟩ : BS)]).length by simp]
        refine WPL.putS ?_
        refine WPL.imp ((Imp.pick (Δ := [BS.at_ (⟨obs, oa, obs.length, oc⟩ : BS), bytes zs, disk db (jappend d1 j obs).1, buf 1 a4 (zs ++ [(⟨obs, oa, obs.length, oc⟩ : BS)]).length c4 ((zs ++ [(⟨obs, oa, obs.length, oc⟩ : BS)]).map bsV), cells true bo 0 [.int .i64 od, .int .i64 on_, .slice oa obs.length oc, .slice qa qn qc], sl false pa (ps.map (.int .i64)), tblA, sl false a1 (ys.map bsV), bytes ys]) (by repeat (first | exact Pick.nil | apply Pick.keep (by repeat (first | exact List.Mem.head _ | apply List.Mem.tail)) (by first | exact Pers.cells _ _ _ | exact Pers.slv _ _ _| exact hD | exact Pers.bytes _) | apply Pick.cons (by repeat (first | exact Pick1.here | apply Pick1.there))))).trans bytes_snoc) ?_
        refine WPL.imp ((Imp.pick (Δ := [buf 1 a4 (zs ++ [(⟨obs, oa, obs.length, oc⟩ : BS)]).length c4 ((zs ++ [(⟨obs, oa, obs.length, oc⟩ : BS)]).map bsV), disk db (jappend d1 j obs).1, bytes (zs ++ [(⟨obs, oa, obs.length, oc⟩ : BS)]), cells true bo 0 [.int .i64 od, .int .i64 on_, .slice oa obs.length oc, .slice qa qn qc], sl false pa (ps.map (.int .i64)), tblA, sl false a1 (ys.map bsV), bytes ys]) (by repeat (first | exact Pick.nil | apply Pick.keep (by repeat (first | exact List.Mem.head _ | apply List.Mem.tail)) (by first | exact Pers.cells _ _ _ | exact Pers.slv _ _ _| exact hD | exact Pers.bytes _) | apply Pick.cons (by repeat (first | exact Pick1.here | apply Pick1.there))))).trans Imp.bufRo) ?_
        refine WPL.pure fun hsk2 => ?_
        refine L_s (q_assign rfl) rfl ?_
        refine WPL.nil ?_
        refine blockQ_n ?_
        refine thenQ_n ?_
        exact ⟨rfl, _, _, ⟨_, _, _, _, _, _, _, (zs ++ [(⟨obs, oa, obs.length, oc⟩ : BS)]), hA1, (hfine.append obs).up (by omega), fun q hq => (List.mem_append.1 hq).elim (hzo q) (fun h => by rw [List.mem_singleton.1 h]; exact hob), rfl, hsk2, by rcases hA2 with h | h; exact .inl h; exact .inr (.inl ⟨h.1, by rw [h.2]; simp [hze]⟩), rfl, rfl⟩, (by repeat (first | exact trivial | refine ⟨rfl, ?_⟩)), Imp.pick (by repeat (first | exact Pick.nil | apply Pick.keep (by repeat (first | exact List.Mem.head _ | apply List.Mem.tail)) (by first | exact Pers.cells _ _ _ | exact Pers.slv _ _ _ | exact hD | exact Pers.bytes _) | apply Pick.cons (by repeat (first | exact Pick1.here | apply Pick1.there))))⟩
      · have hod1 : od ≠ 1 := by simpa using h1
        refine WPC.seqR ?_
        refine L_s (q_int rfl rfl rfl) rfl ?_
        refine L_s (q_assign rfl) rfl ?_
        refine WPL.nil ?_
        refine WPC.cond rfl (fun h2 => ?_) (fun h2 => ?_)
        · have hod3 : od = 3 := by simpa using h2
          refine WPC.seqR ?_
          refine L_s (q_move rfl) rfl ?_
          first | refine L_s (q_faK fa_pursuivantlaw06_Op_N rfl) rfl ?_ | refine L_s (q_fa fa_pursuivantlaw06_Op_N rfl) rfl ?_
          first | refine L_s (q_load1z ld_int rfl (by repeat (first | exact List.Mem.head _ | apply List.Mem.tail)) (by rfl)) rfl ?_ | refine L_s (q_load1 ld_int rfl (by repeat (first | exact List.Mem.head _ | apply List.Mem.tail)) rfl (by rfl)) rfl ?_
          refine WPL.cons rfl (C1.call (c_call Tryd.func16 rfl rfl rfl) (c_JTrim hjk hfine.ok (by omega) hnx) (by repeat (first | exact Pick.nil | apply Pick.keep (by repeat (first | exact List.Mem.head _ | apply List.Mem.tail)) (by first | exact Pers.cells _ _ _ | exact Pers.slv _ _ _ | exact hD | exact Pers.bytes _) | apply Pick.cons (by repeat (first | exact Pick1.here | apply Pick1.there)))) rfl ?_)
          rintro _ _ ⟨rfl, rfl⟩
          refine WPL.putS ?_
          refine L_s (q_assign rfl) rfl ?_
          refine WPL.nil ?_
          refine WPC.seqR ?_
          first | refine L_s (q_faK fa_pursuivantlaw06_Op_N rfl) rfl ?_ | refine L_s (q_fa fa_pursuivantlaw06_Op_N rfl) rfl ?_
          first | refine L_s (q_load1z ld_int rfl (by repeat (first | exact List.Mem.head _ | apply List.Mem.tail)) (by rfl)) rfl ?_ | refine L_s (q_load1 ld_int rfl (by repeat (first | exact List.Mem.head _ | apply List.Mem.tail)) rfl (by rfl)) rfl ?_
          refine L_s (q_int rfl rfl rfl) rfl ?_
          refine L_s (q_move rfl) rfl ?_
          apply WPL.joinA (e' := [(0, _), (3, _), (4, _), (7, _), (10, _), (11, _), (12, _), (13, _), (14, _), (15, _), (16, _), (33, _), (35, _), (36, _), (37, _), (38, _), (39, _), (40, _), (41, _), (42, _), (43, _), (44, _), (45, _), (67, _), (68, _), (78, _), (79, _), (80, _), (81, _), (82, _), (83, _), (84, _), (85, _), (86, _)]) 87 93 6 rfl
          · intro g19_3
            try simp only [decide_eq_true_eq, decide_eq_false_iff_not, beq_iff_eq, bne_iff_ne, beq_eq_false_iff_ne, bne_eq_false_iff_eq, Bool.not_eq_true', Bool.not_eq_false', Bool.not_eq_eq_eq_not, Bool.not_true, Bool.not_false, ne_eq, Decidable.not_not, Int.not_lt, Int.not_le, gt_iff_lt, ge_iff_le] at g19_3
            first | refine L_yes rfl rfl (q_faK fa_pursuivantlaw06_Op_N rfl) rfl ?_ | refine L_yes rfl rfl (q_fa fa_pursuivantlaw06_Op_N rfl) rfl ?_
            first | refine L_yes rfl rfl (q_load1z ld_int rfl (by repeat (first | exact List.Mem.head _ | apply List.Mem.tail)) (by rfl)) rfl ?_ | refine L_yes rfl rfl (q_load1 ld_int rfl (by repeat (first | exact List.Mem.head _ | apply List.Mem.tail)) rfl (by rfl)) rfl ?_
            refine L_yes rfl rfl (q_move rfl) rfl ?_
            refine L_yes rfl rfl (q_len rfl un_sl_sl_uint8 rfl) rfl ?_
            refine L_yes rfl rfl (q_int rfl rfl rfl) rfl ?_
            first | refine L_s (q_pickT rfl rfl) rfl ?_ | refine L_s (q_pickF rfl rfl) rfl ?_
            first | exact WPL.jn rfl rfl (by repeat (first | exact trivial | refine ⟨rfl, ?_⟩)) | exact WPL.jnI rfl rfl (by repeat (first | exact trivial | refine ⟨rfl, ?_⟩)) (Imp.pick (by repeat (first | exact Pick.nil | apply Pick.keep (by repeat (first | exact List.Mem.head _ | apply List.Mem.tail)) (by first | exact Pers.cells _ _ _ | exact Pers.slv _ _ _ | exact hD | exact Pers.bytes _) | apply Pick.cons (by repeat (first | exact Pick1.here | apply Pick1.there)))))
          · intro g19_3
            try simp only [decide_eq_true_eq, decide_eq_false_iff_not, beq_iff_eq, bne_iff_ne, beq_eq_false_iff_ne, bne_eq_false_iff_eq, Bool.not_eq_true', Bool.not_eq_false', Bool.not_eq_eq_eq_not, Bool.not_true, Bool.not_false, ne_eq, Decidable.not_not, Int.not_lt, Int.not_le, gt_iff_lt, ge_iff_le] at g19_3
            refine L_no rfl rfl rfl rfl ?_
            refine L_no rfl rfl rfl rfl ?_
            refine L_no rfl rfl rfl rfl ?_
            refine L_no rfl rfl rfl rfl ?_
            refine L_no rfl rfl rfl rfl ?_
            first | refine L_s (q_pickT rfl rfl) rfl ?_ | refine L_s (q_pickF rfl rfl) rfl ?_
            first | exact WPL.jn rfl rfl (by repeat (first | exact trivial | refine ⟨rfl, ?_⟩)) | exact WPL.jnI rfl rfl (by repeat (first | exact trivial | refine ⟨rfl, ?_⟩)) (Imp.pick (by repeat (first | exact Pick.nil | apply Pick.keep (by repeat (first | exact List.Mem.head _ | apply List.Mem.tail)) (by first | exact Pers.cells _ _ _ | exact Pers.slv _ _ _ | exact hD | exact Pers.bytes _) | apply Pick.cons (by repeat (first | exact Pick1.here | apply Pick1.there)))))
          refine WPL.nil ?_
          refine WPC.cond rfl (fun h3 => ?_) (fun h3 => ?_)
          · obtain ⟨hk0, hk1⟩ : 0 ≤ on_ ∧ on_ ≤ (ys.length : Int) := by simpa using h3
            obtain ⟨dm, rfl⟩ : ∃ dm : Nat, on_ = (dm : Int) := ⟨on_.toNat, by omega⟩
            refine WPC.region ?_
            refine WPL.imp (((Imp.pick (Δ := [sl false a1 (ys.map bsV), sl false a1 (ys.map bsV), bytes ys, disk db (jtrim d1 j (dm : Int)).1, cells true bo 0 [.int .i64 od, .int .i64 (dm : Int), .slice oa obs.length oc, .slice qa qn qc], sl false pa (ps.map (.int .i64)), tblA]) (by repeat (first | exact Pick.nil | apply Pick.keep (by repeat (first | exact List.Mem.head _ | apply List.Mem.tail)) (by first | exact Pers.cells _ _ _ | exact Pers.slv _ _ _| exact hD | exact Pers.bytes _) | apply Pick.cons (by repeat (first | exact Pick1.here | apply Pick1.there))))).trans (Imp.bsDrop (m := dm) hys (by omega))).trans ((Imp.pick (Δ := [bytes ys, sl false (cut a1 c1 dm (dm * 1)) ((ys.drop dm).map bsV), sl false a1 (ys.map bsV), disk db (jtrim d1 j (dm : Int)).1, cells true bo 0 [.int .i64 od, .int .i64 (dm : Int), .slice oa obs.length oc, .slice qa qn qc], sl false pa (ps.map (.int .i64)), tblA]) (by repeat (first | exact Pick.nil | apply Pick.keep (by repeat (first | exact List.Mem.head _ | apply List.Mem.tail)) (by first | exact Pers.cells _ _ _ | exact Pers.slv _ _ _| exact hD | exact Pers.bytes _) | apply Pick.cons (by repeat (first | exact Pick1.here | apply Pick1.there))))).trans (bytes_sub (ys := ys.drop dm) fun y hy => List.mem_of_mem_drop hy))) ?_
            refine L_s (q_move rfl) rfl ?_
            first | refine L_s (q_faK fa_pursuivantlaw06_Op_N rfl) rfl ?_ | refine L_s (q_fa fa_pursuivantlaw06_Op_N rfl) rfl ?_
            first | refine L_s (q_load1z ld_int rfl (by repeat (first | exact List.Mem.head _ | apply List.Mem.tail)) (by rfl)) rfl ?_ | refine L_s (q_load1 ld_int rfl (by repeat (first | exact List.Mem.head _ | apply List.Mem.tail)) rfl (by rfl)) rfl ?_
            refine L_s (q_sliceLoC (l := dm) sl_sl_sl_uint8 rfl rfl (by omega) (by omega)) rfl ?_
            refine L_s (q_assign rfl) rfl ?_
            refine WPL.nil ?_
            refine blockQ_n ?_
            refine thenQ_n ?_
            exact ⟨rfl, _, _, ⟨_, _, _, _, _, _, _, ys.drop dm, hT1, (hfine.trim _).up (by omega), fun q hq => hyo q (List.mem_of_mem_drop hq), by rw [List.length_drop], sokBsDrop hys (by omega), by rcases hT2 with h | h; exact .inl (by rw [h]); exact .inr (.inl ⟨hT3 ⟨by omega, by omega⟩, by rw [map_drop_bs, hye, h.2.2, Int.toNat_natCast, List.map_drop]⟩), rfl, rfl⟩, (by repeat (first | exact trivial | refine ⟨rfl, ?_⟩)), Imp.pick (by repeat (first | exact Pick.nil | apply Pick.keep (by repeat (first | exact List.Mem.head _ | apply List.Mem.tail)) (by first | exact Pers.cells _ _ _ | exact Pers.slv _ _ _ | exact hD | exact Pers.bytes _) | apply Pick.cons (by repeat (first | exact Pick1.here | apply Pick1.there))))⟩
          · have hno : ¬ (0 ≤ on_ ∧ on_ ≤ j.held.length) := fun h => by rw [← hyl] at h; simp [h.1, h.2] at h3
            refine WPC.imp ((Imp.pick (Δ := [buf 1 a2 zs.length c2 (zs.map bsV), disk db (jtrim d1 j on_).1, bytes zs, cells true bo 0 [.int .i64 od, .int .i64 on_, .slice oa obs.length oc, .slice qa qn qc], sl false pa (ps.map (.int .i64)), tblA, sl false a1 (ys.map bsV), bytes ys]) (by repeat (first | exact Pick.nil | apply Pick.keep (by repeat (first | exact List.Mem.head _ | apply List.Mem.tail)) (by first | exact Pers.cells _ _ _ | exact Pers.slv _ _ _| exact hD | exact Pers.bytes _) | apply Pick.cons (by repeat (first | exact Pick1.here | apply Pick1.there))))).trans Imp.bufRo) ?_
            refine WPC.pure fun hzs2 => ?_
            refine WPC.skip ?_
            refine blockQ_n ?_
            refine thenQ_n ?_
            exact ⟨rfl, _, _, ⟨_, _, _, _, _, _, _, zs, hT1, (hfine.trim _).up (by omega), hzo, rfl, hzs2, by rcases hT2 with h | h; exact .inl (by rw [h]); exact absurd ⟨h.1, h.2.1⟩ hno, rfl, rfl⟩, (by repeat (first | exact trivial | refine ⟨rfl, ?_⟩)), Imp.pick (by repeat (first | exact Pick.nil | apply Pick.keep (by repeat (first | exact List.Mem.head _ | apply List.Mem.tail)) (by first | exact Pers.cells _ _ _ | exact Pers.slv _ _ _ | exact hD | exact Pers.bytes _) | apply Pick.cons (by repeat (first | exact Pick1.here | apply Pick1.there))))⟩
        · have hod3 : od ≠ 3 := by simpa using h2
          refine WPC.seqR ?_
          refine L_s (q_move rfl) rfl ?_
          first | refine L_s (q_faK fa_pursuivantlaw06_Op_N rfl) rfl ?_ | refine L_s (q_fa fa_pursuivantlaw06_Op_N rfl) rfl ?_
          first | refine L_s (q_load1z ld_int rfl (by repeat (first | exact List.Mem.head _ | apply List.Mem.tail)) (by rfl)) rfl ?_ | refine L_s (q_load1 ld_int rfl (by repeat (first | exact List.Mem.head _ | apply List.Mem.tail)) rfl (by rfl)) rfl ?_
          refine WPL.cons rfl (C1.call (c_call Tryd.func18 rfl rfl rfl) (c_JCut hjk hfine.ok (by omega) hnx) (by repeat (first | exact Pick.nil | apply Pick.keep (by repeat (first | exact List.Mem.head _ | apply List.Mem.tail)) (by first | exact Pers.cells _ _ _ | exact Pers.slv _ _ _ | exact hD | exact Pers.bytes _) | apply Pick.cons (by repeat (first | exact Pick1.here | apply Pick1.there)))) rfl ?_)
          rintro _ _ ⟨rfl, rfl⟩
          refine WPL.putS ?_
          refine L_s (q_assign rfl) rfl ?_
          refine WPL.nil ?_
          refine WPC.seqR ?_
          first | refine L_s (q_faK fa_pursuivantlaw06_Op_N rfl) rfl ?_ | refine L_s (q_fa fa_pursuivantlaw06_Op_N rfl) rfl ?_
          first | refine L_s (q_load1z ld_int rfl (by repeat (first | exact List.Mem.head _ | apply List.Mem.tail)) (by rfl)) rfl ?_ | refine L_s (q_load1 ld_int rfl (by repeat (first | exact List.Mem.head _ | apply List.Mem.tail)) rfl (by rfl)) rfl ?_
          refine L_s (q_int rfl rfl rfl) rfl ?_
          refine L_s (q_move rfl) rfl ?_
          apply WPL.joinA (e' := [(0, _), (3, _), (4, _), (7, _), (10, _), (11, _), (12, _), (13, _), (14, _), (15, _), (16, _), (33, _), (35, _), (36, _), (37, _), (38, _), (39, _), (40, _), (41, _), (42, _), (43, _), (44, _), (45, _), (46, _), (47, _), (48, _), (49, _), (50, _), (51, _), (52, _), (67, _), (68, _), (78, _), (79, _)]) 53 59 6 rfl
          · intro g12_3
            try simp only [decide_eq_true_eq, decide_eq_false_iff_not, beq_iff_eq, bne_iff_ne, beq_eq_false_iff_ne, bne_eq_false_iff_eq, Bool.not_eq_true', Bool.not_eq_false', Bool.not_eq_eq_eq_not, Bool.not_true, Bool.not_false, ne_eq, Decidable.not_not, Int.not_lt, Int.not_le, gt_iff_lt, ge_iff_le] at g12_3
            first | refine L_yes rfl rfl (q_faK fa_pursuivantlaw06_Op_N rfl) rfl ?_ | refine L_yes rfl rfl (q_fa fa_pursuivantlaw06_Op_N rfl) rfl ?_
            first | refine L_yes rfl rfl (q_load1z ld_int rfl (by repeat (first | exact List.Mem.head _ | apply List.Mem.tail)) (by rfl)) rfl ?_ | refine L_yes rfl rfl (q_load1 ld_int rfl (by repeat (first | exact List.Mem.head _ | apply List.Mem.tail)) rfl (by rfl)) rfl ?_
            refine L_yes rfl rfl (q_move rfl) rfl ?_
            refine L_yes rfl rfl (q_len rfl un_sl_sl_uint8 rfl) rfl ?_
            refine L_yes rfl rfl (q_int rfl rfl rfl) rfl ?_
            first | refine L_s (q_pickT rfl rfl) rfl ?_ | refine L_s (q_pickF rfl rfl) rfl ?_
            first | exact WPL.jn rfl rfl (by repeat (first | exact trivial | refine ⟨rfl, ?_⟩)) | exact WPL.jnI rfl rfl (by repeat (first | exact trivial | refine ⟨rfl, ?_⟩)) (Imp.pick (by repeat (first | exact Pick.nil | apply Pick.keep (by repeat (first | exact List.Mem.head _ | apply List.Mem.tail)) (by first | exact Pers.cells _ _ _ | exact Pers.slv _ _ _ | exact hD | exact Pers.bytes _) | apply Pick.cons (by repeat (first | exact Pick1.here | apply Pick1.there)))))
          · intro g12_3
            try simp only [decide_eq_true_eq, decide_eq_false_iff_not, beq_iff_eq, bne_iff_ne, beq_eq_false_iff_ne, bne_eq_false_iff_eq, Bool.not_eq_true', Bool.not_eq_false', Bool.not_eq_eq_eq_not, Bool.not_true, Bool.not_false, ne_eq, Decidable.not_not, Int.not_lt, Int.not_le, gt_iff_lt, ge_iff_le] at g12_3
            refine L_no rfl rfl rfl rfl ?_
            refine L_no rfl rfl rfl rfl ?_
            refine L_no rfl rfl rfl rfl ?_
            refine L_no rfl rfl rfl rfl ?_
            refine L_no rfl rfl rfl rfl ?_
            first | refine L_s (q_pickT rfl rfl) rfl ?_ | refine L_s (q_pickF rfl rfl) rfl ?_
            first | exact WPL.jn rfl rfl (by repeat (first | exact trivial | refine ⟨rfl, ?_⟩)) | exact WPL.jnI rfl rfl (by repeat (first | exact trivial | refine ⟨rfl, ?_⟩)) (Imp.pick (by repeat (first | exact Pick.nil | apply Pick.keep (by repeat (first | exact List.Mem.head _ | apply List.Mem.tail)) (by first | exact Pers.cells _ _ _ | exact Pers.slv _ _ _ | exact hD | exact Pers.bytes _) | apply Pick.cons (by repeat (first | exact Pick1.here | apply Pick1.there)))))
          refine WPL.nil ?_
          refine WPC.cond rfl (fun h4 => ?_) (fun h4 => ?_)
          · obtain ⟨hk0, hk1⟩ : 0 ≤ on_ ∧ on_ ≤ (ys.length : Int) := by simpa using h4
            obtain ⟨dm, rfl⟩ : ∃ dm : Nat, on_ = (dm : Int) := ⟨on_.toNat, by omega⟩
            refine WPC.region ?_
            refine WPL.imp (((Imp.pick (Δ := [sl false a1 (ys.map bsV), sl false a1 (ys.map bsV), bytes ys, disk db (jcut d1 j (dm : Int)).1, cells true bo 0 [.int .i64 od, .int .i64 (dm : Int), .slice oa obs.length oc, .slice qa qn qc], sl false pa (ps.map (.int .i64)), tblA]) (by repeat (first | exact Pick.nil | apply Pick.keep (by repeat (first | exact List.Mem.head _ | apply List.Mem.tail)) (by first | exact Pers.cells _ _ _ | exact Pers.slv _ _ _| exact hD | exact Pers.bytes _) | apply Pick.cons (by repeat (first | exact Pick1.here | apply Pick1.there))))).trans (Imp.bsTake (ys.length - dm))).trans ((Imp.pick (Δ := [bytes ys, sl false a1 ((ys.take (ys.length - dm)).map bsV), sl false a1 (ys.map bsV), disk db (jcut d1 j (dm : Int)).1, cells true bo 0 [.int .i64 od, .int .i64 (dm : Int), .slice oa obs.length oc, .slice qa qn qc], sl false pa (ps.map (.int .i64)), tblA]) (by repeat (first | exact Pick.nil | apply Pick.keep (by repeat (first | exact List.Mem.head _ | apply List.Mem.tail)) (by first | exact Pers.cells _ _ _ | exact Pers.slv _ _ _| exact hD | exact Pers.bytes _) | apply Pick.cons (by repeat (first | exact Pick1.here | apply Pick1.there))))).trans (bytes_sub (ys := ys.take (ys.length - dm)) fun y hy => List.mem_of_mem_take hy))) ?_
            refine L_s (q_move rfl) rfl ?_
            refine L_s (q_move rfl) rfl ?_
            refine L_s (q_len rfl un_sl_sl_uint8 rfl) rfl ?_
            first | refine L_s (q_faK fa_pursuivantlaw06_Op_N rfl) rfl ?_ | refine L_s (q_fa fa_pursuivantlaw06_Op_N rfl) rfl ?_
            first | refine L_s (q_load1z ld_int rfl (by repeat (first | exact List.Mem.head _ | apply List.Mem.tail)) (by rfl)) rfl ?_ | refine L_s (q_load1 ld_int rfl (by repeat (first | exact List.Mem.head _ | apply List.Mem.tail)) rfl (by rfl)) rfl ?_
            first | refine L_s (q_subI rfl rfl (by omega)) rfl ?_ | refine L_s (q_int rfl rfl rfl) rfl ?_
            rw [show (ys.length : Int) - (dm : Int) = ((ys.length - dm : Nat) : Int) by omega]
            refine L_s (q_sliceHi (j := ys.length - dm) sl_sl_sl_uint8 rfl rfl (by omega)) rfl ?_
            refine L_s (q_assign rfl) rfl ?_
            refine WPL.nil ?_
            refine blockQ_n ?_
            refine thenQ_n ?_
            exact ⟨rfl, _, _, ⟨_, _, _, _, _, _, _, ys.take (ys.length - dm), hC1, (hfine.cut _ (by omega)).up (by omega), fun q hq => hyo q (List.mem_of_mem_take hq), by rw [List.length_take]; omega, hys.bsTake (by omega), .inr (.inr ⟨(hC4 ⟨by omega, by omega⟩).2, hod1, hod3, m, by have := (hC4 ⟨by omega, by omega⟩).1; simp; omega, by simp; omega, by rw [hC2, List.map_take]⟩), rfl, rfl⟩, (by repeat (first | exact trivial | refine ⟨rfl, ?_⟩)), Imp.pick (by repeat (first | exact Pick.nil | apply Pick.keep (by repeat (first | exact List.Mem.head _ | apply List.Mem.tail)) (by first | exact Pers.cells _ _ _ | exact Pers.slv _ _ _ | exact hD | exact Pers.bytes _) | apply Pick.cons (by repeat (first | exact Pick1.here | apply Pick1.there))))⟩
          · have hno : ¬ (0 ≤ on_ ∧ on_ ≤ j.held.length) := fun h => by rw [← hyl] at h; simp [h.1, h.2] at h4
            refine WPC.imp ((Imp.pick (Δ := [buf 1 a2 zs.length c2 (zs.map bsV), disk db (jcut d1 j on_).1, bytes zs, cells true bo 0 [.int .i64 od, .int .i64 on_, .slice oa obs.length oc, .slice qa qn qc], sl false pa (ps.map (.int .i64)), tblA, sl false a1 (ys.map bsV), bytes ys]) (by repeat (first | exact Pick.nil | apply Pick.keep (by repeat (first | exact List.Mem.head _ | apply List.Mem.tail)) (by first | exact Pers.cells _ _ _ | exact Pers.slv _ _ _| exact hD | exact Pers.bytes _) | apply Pick.cons (by repeat (first | exact Pick1.here | apply Pick1.there))))).trans Imp.bufRo) ?_
            refine WPC.pure fun hzs2 => ?_
            refine WPC.skip ?_
            refine blockQ_n ?_
            refine thenQ_n ?_
            exact ⟨rfl, _, _, ⟨_, _, _, _, _, _, _, zs, hC1, (hfine.cut _ (by omega)).up (by omega), hzo, rfl, hzs2, .inl (by rw [hC2, (hC5 hno).1, List.take_length]), rfl, rfl⟩, (by repeat (first | exact trivial | refine ⟨rfl, ?_⟩)), Imp.pick (by repeat (first | exact Pick.nil | apply Pick.keep (by repeat (first | exact List.Mem.head _ | apply List.Mem.tail)) (by first | exact Pers.cells _ _ _ | exact Pers.slv _ _ _ | exact hD | exact Pers.bytes _) | apply Pick.cons (by repeat (first | exact Pick1.here | apply Pick1.there))))⟩
    · rintro e Γ ⟨g, d3, d6, j6, a4, c4, nq, qs, ho6, hf3, hqo, hnq, hqs, hP, rfl, rfl⟩
      refine WPC.seq ?_
      refine WPC.seqR ?_
      refine L_s (q_move rfl) rfl ?_
      refine L_s (q_int rfl rfl rfl) rfl ?_
      refine L_s (q_move rfl) rfl ?_
      apply WPL.joinA (e' := [(0, _), (4, _), (7, _), (11, _), (12, _), (14, _), (16, _)]) 100 103 3 rfl
      · intro g21_2
        try simp only [decide_eq_true_eq, decide_eq_false_iff_not, beq_iff_eq, bne_iff_ne, beq_eq_false_iff_ne, bne_eq_false_iff_eq, Bool.not_eq_true', Bool.not_eq_false', Bool.not_eq_eq_eq_not, Bool.not_true, Bool.not_false, ne_eq, Decidable.not_not, Int.not_lt, Int.not_le, gt_iff_lt, ge_iff_le] at g21_2
        refine L_yes rfl rfl (q_move rfl) rfl ?_
        refine L_yes rfl rfl (q_int rfl rfl rfl) rfl ?_
        first | refine L_s (q_pickT rfl rfl) rfl ?_ | refine L_s (q_pickF rfl rfl) rfl ?_
        first | exact WPL.jn rfl rfl (by repeat (first | exact trivial | refine ⟨rfl, ?_⟩)) | exact WPL.jnI rfl rfl (by repeat (first | exact trivial | refine ⟨rfl, ?_⟩)) (Imp.pick (by repeat (first | exact Pick.nil | apply Pick.keep (by repeat (first | exact List.Mem.head _ | apply List.Mem.tail)) (by first | exact Pers.cells _ _ _ | exact Pers.slv _ _ _ | exact hD | exact Pers.bytes _) | apply Pick.cons (by repeat (first | exact Pick1.here | apply Pick1.there)))))
      · intro g21_2
        try simp only [decide_eq_true_eq, decide_eq_false_iff_not, beq_iff_eq, bne_iff_ne, beq_eq_false_iff_ne, bne_eq_false_iff_eq, Bool.not_eq_true', Bool.not_eq_false', Bool.not_eq_eq_eq_not, Bool.not_true, Bool.not_false, ne_eq, Decidable.not_not, Int.not_lt, Int.not_le, gt_iff_lt, ge_iff_le] at g21_2
        refine L_no rfl rfl rfl rfl ?_
        refine L_no rfl rfl rfl rfl ?_
        first | refine L_s (q_pickT rfl rfl) rfl ?_ | refine L_s (q_pickF rfl rfl) rfl ?_
        first | exact WPL.jn rfl rfl (by repeat (first | exact trivial | refine ⟨rfl, ?_⟩)) | exact WPL.jnI rfl rfl (by repeat (first | exact trivial | refine ⟨rfl, ?_⟩)) (Imp.pick (by repeat (first | exact Pick.nil | apply Pick.keep (by repeat (first | exact List.Mem.head _ | apply List.Mem.tail)) (by first | exact Pers.cells _ _ _ | exact Pers.slv _ _ _ | exact hD | exact Pers.bytes _) | apply Pick.cons (by repeat (first | exact Pick1.here | apply Pick1.there)))))
      refine WPL.nil ?_
      refine WPC.midS (fun e Γ => ∃ (a5 : Option Addr) (c5 n5 : Nat) (rs : List BS), (∀ r ∈ rs, r.ok) ∧ rs.length = n5 ∧ Sok 1 a5 n5 c5 (rs.map bsV) ∧ AmidP (j.held.map (·.2)) (rs.map BS.bs) (j6.held.map (·.2)) 0 od ∧ e = [(0, .int .i64 (n : Int)), (4, .slice pa ps.length pc), (7, .pointer (some ⟨bo, 0, none⟩)), (11, .bool true), (12, .pointer (some ⟨db, 0, none⟩)), (14, .slice a1 ys.length c1), (16, .slice a5 n5 c5)] ∧ Γ = [disk db d3, sl false a1 (ys.map bsV), bytes ys, sl false a5 (rs.map bsV), bytes rs, cells true bo 0 [.int .i64 od, .int .i64 on_, .slice oa obs.length oc, .slice qa qn qc], sl false pa (ps.map (.int .i64)), tblA]) ?_ ?_
      · refine WPC.cond rfl (fun h5 => ?_) (fun h5 => ?_)
        · have hg : g ≠ 0 ∧ g ≠ 43 := by simpa using h5
          refine WPC.region ?_
          refine L_s (q_move rfl) rfl ?_
          refine L_s (q_assign rfl) rfl ?_
          refine WPL.nil ?_
          refine thenQ_n ?_
          exact ⟨rfl, _, _, ⟨a1, c1, ys.length, ys, hyo, rfl, hys, .inl (by rcases hP with h | h | h; exact h; exact absurd h.1 (by omega); exact absurd h.1 (by omega)), rfl, rfl⟩, (by repeat (first | exact trivial | refine ⟨rfl, ?_⟩)), Imp.pick (by repeat (first | exact Pick.nil | apply Pick.keep (by repeat (first | exact List.Mem.head _ | apply List.Mem.tail)) (by first | exact Pers.cells _ _ _ | exact Pers.slv _ _ _ | exact hD | exact Pers.bytes _) | apply Pick.cons (by repeat (first | exact Pick1.here | apply Pick1.there))))⟩
        · have hg : g = 0 ∨ g = 43 := by
            rcases Int.decEq g 0 with h | h
            · right; simp [h] at h5; exact h5
            · exact .inl h
          refine WPC.skip ?_
          refine thenQ_n ?_
          exact ⟨rfl, _, _, ⟨a4, c4, nq, qs, hqo, hnq, hqs, by rcases hP with h | h | h; exact .inl h; exact .inr (.inl ⟨.inl rfl, h.2⟩); exact .inr (.inr ⟨.inl rfl, h.2⟩), rfl, rfl⟩, (by repeat (first | exact trivial | refine ⟨rfl, ?_⟩)), Imp.pick (by repeat (first | exact Pick.nil | apply Pick.keep (by repeat (first | exact List.Mem.head _ | apply List.Mem.tail)) (by first | exact Pers.cells _ _ _ | exact Pers.slv _ _ _ | exact hD | exact Pers.bytes _) | apply Pick.cons (by repeat (first | exact Pick1.here | apply Pick1.there))))⟩
      · rintro e Γ ⟨a5, c5, n5, rs, hro, hn5, hrs, hP5, rfl, rfl⟩
        have hf3p := hf3.pend
        refine WPC.seqR ?_
        refine L_s (q_move rfl) rfl ?_
        refine L_s (q_move rfl) rfl ?_
        refine WPL.cons rfl (C1.call (c_call Tryd.func13 rfl rfl rfl) (c_Crash (q := false) hf3.ok (by omega) hp) (by repeat (first | exact Pick.nil | apply Pick.keep (by repeat (first | exact List.Mem.head _ | apply List.Mem.tail)) (by first | exact Pers.cells _ _ _ | exact Pers.slv _ _ _ | exact hD | exact Pers.bytes _) | apply Pick.cons (by repeat (first | exact Pick1.here | apply Pick1.there)))) rfl ?_)
        rintro _ _ ⟨rfl, rfl⟩
        refine WPL.putS ?_
        refine WPL.nil ?_
        refine WPC.seqR ?_
        refine L_s (q_move rfl) rfl ?_
        refine L_s (q_move rfl) rfl ?_
        refine WPL.cons rfl (C1.call (c_call Tryd.func14 rfl rfl rfl) (c_OpenR hn (by rw [crash_len hf3.ok]; exact hf3.len) (hf3.ok.crash _) (by rw [crash_pl]; omega) ho6) (by repeat (first | exact Pick.nil | apply Pick.keep (by repeat (first | exact List.Mem.head _ | apply List.Mem.tail)) (by first | exact Pers.cells _ _ _ | exact Pers.slv _ _ _ | exact hD | exact Pers.bytes _) | apply Pick.cons (by repeat (first | exact Pick1.here | apply Pick1.there)))) rfl ?_)
        rintro _ _ ⟨b6, a6, c6, us, rfl, hus, hue, huo, rfl⟩
        obtain ⟨hub0, hul0⟩ := jopen0_held ho6
        have hub := bs_bound hue hub0 huo
        have hul := bs_len hue
        have htl : (ys.take (min us.length ys.length)).length = min us.length ys.length := by rw [List.length_take]; omega
        refine WPL.putS ?_
        refine L_s (q_move rfl) rfl ?_
        refine L_s (q_extract rfl rfl) rfl ?_
        refine L_s (q_extract rfl rfl) rfl ?_
        refine L_s (q_extract rfl rfl) rfl ?_
        refine L_s (q_assign rfl) rfl ?_
        refine L_s (q_assign rfl) rfl ?_
        refine L_s (q_assign rfl) rfl ?_
        refine WPL.nil ?_
        refine WPC.seq ?_
        refine WPC.seqR ?_
        refine L_s (q_move rfl) rfl ?_
        refine L_s (q_int rfl rfl rfl) rfl ?_
        refine WPL.nil ?_
        refine WPC.cond rfl (fun h6 => ?_) (fun h6 => ?_)
        · try simp only [decide_eq_true_eq, decide_eq_false_iff_not, beq_iff_eq, bne_iff_ne, beq_eq_false_iff_ne, bne_eq_false_iff_eq, Bool.not_eq_true', Bool.not_eq_false', Bool.not_eq_eq_eq_not, Bool.not_true, Bool.not_false, ne_eq, Decidable.not_not, Int.not_lt, Int.not_le, gt_iff_lt, ge_iff_le] at h6
          simp at h6
        · skip
          refine WPC.skip ?_
          refine thenQ_n ?_
          refine WPC.seqR ?_
          first | refine L_s (q_faK fa_pursuivantlaw06_Op_Do rfl) rfl ?_ | refine L_s (q_fa fa_pursuivantlaw06_Op_Do rfl) rfl ?_
          first | refine L_s (q_load1z ld_int rfl (by repeat (first | exact List.Mem.head _ | apply List.Mem.tail)) (by rfl)) rfl ?_ | refine L_s (q_load1 ld_int rfl (by repeat (first | exact List.Mem.head _ | apply List.Mem.tail)) rfl (by rfl)) rfl ?_
          refine L_s (q_int rfl rfl rfl) rfl ?_
          refine L_s (q_move rfl) rfl ?_
          apply WPL.joinA (e' := [(11, _), (14, _), (16, _), (18, _)]) 120 124 4 rfl
          · intro g27_3
            try simp only [decide_eq_true_eq, decide_eq_false_iff_not, beq_iff_eq, bne_iff_ne, beq_eq_false_iff_ne, bne_eq_false_iff_eq, Bool.not_eq_true', Bool.not_eq_false', Bool.not_eq_eq_eq_not, Bool.not_true, Bool.not_false, ne_eq, Decidable.not_not, Int.not_lt, Int.not_le, gt_iff_lt, ge_iff_le] at g27_3
            first | refine L_yes rfl rfl (q_faK fa_pursuivantlaw06_Op_Do rfl) rfl ?_ | refine L_yes rfl rfl (q_fa fa_pursuivantlaw06_Op_Do rfl) rfl ?_
            first | refine L_yes rfl rfl (q_load1z ld_int rfl (by repeat (first | exact List.Mem.head _ | apply List.Mem.tail)) (by rfl)) rfl ?_ | refine L_yes rfl rfl (q_load1 ld_int rfl (by repeat (first | exact List.Mem.head _ | apply List.Mem.tail)) rfl (by rfl)) rfl ?_
            refine L_yes rfl rfl (q_int rfl rfl rfl) rfl ?_
            first | refine L_s (q_pickT rfl rfl) rfl ?_ | refine L_s (q_pickF rfl rfl) rfl ?_
            first | exact WPL.jn rfl rfl (by repeat (first | exact trivial | refine ⟨rfl, ?_⟩)) | exact WPL.jnI rfl rfl (by repeat (first | exact trivial | refine ⟨rfl, ?_⟩)) (Imp.pick (by repeat (first | exact Pick.nil | apply Pick.keep (by repeat (first | exact List.Mem.head _ | apply List.Mem.tail)) (by first | exact Pers.cells _ _ _ | exact Pers.slv _ _ _ | exact hD | exact Pers.bytes _) | apply Pick.cons (by repeat (first | exact Pick1.here | apply Pick1.there)))))
          · intro g27_3
            try simp only [decide_eq_true_eq, decide_eq_false_iff_not, beq_iff_eq, bne_iff_ne, beq_eq_false_iff_ne, bne_eq_false_iff_eq, Bool.not_eq_true', Bool.not_eq_false', Bool.not_eq_eq_eq_not, Bool.not_true, Bool.not_false, ne_eq, Decidable.not_not, Int.not_lt, Int.not_le, gt_iff_lt, ge_iff_le] at g27_3
            refine L_no rfl rfl rfl rfl ?_
            refine L_no rfl rfl rfl rfl ?_
            refine L_no rfl rfl rfl rfl ?_
            first | refine L_s (q_pickT rfl rfl) rfl ?_ | refine L_s (q_pickF rfl rfl) rfl ?_
            first | exact WPL.jn rfl rfl (by repeat (first | exact trivial | refine ⟨rfl, ?_⟩)) | exact WPL.jnI rfl rfl (by repeat (first | exact trivial | refine ⟨rfl, ?_⟩)) (Imp.pick (by repeat (first | exact Pick.nil | apply Pick.keep (by repeat (first | exact List.Mem.head _ | apply List.Mem.tail)) (by first | exact Pers.cells _ _ _ | exact Pers.slv _ _ _ | exact hD | exact Pers.bytes _) | apply Pick.cons (by repeat (first | exact Pick1.here | apply Pick1.there)))))
          refine L_s (q_move rfl) rfl ?_
          apply WPL.joinA (e' := [(11, _), (14, _), (16, _), (18, _)]) 125 131 6 rfl
          · intro g27_8
            try simp only [decide_eq_true_eq, decide_eq_false_iff_not, beq_iff_eq, bne_iff_ne, beq_eq_false_iff_ne, bne_eq_false_iff_eq, Bool.not_eq_true', Bool.not_eq_false', Bool.not_eq_eq_eq_not, Bool.not_true, Bool.not_false, ne_eq, Decidable.not_not, Int.not_lt, Int.not_le, gt_iff_lt, ge_iff_le] at g27_8
            refine L_yes rfl rfl (q_move rfl) rfl ?_
            refine L_yes rfl rfl (q_len rfl un_sl_sl_uint8 rfl) rfl ?_
            refine L_yes rfl rfl (q_move rfl) rfl ?_
            refine L_yes rfl rfl (q_len rfl un_sl_sl_uint8 rfl) rfl ?_
            refine L_yes rfl rfl (q_int rfl rfl rfl) rfl ?_
            first | refine L_s (q_pickT rfl rfl) rfl ?_ | refine L_s (q_pickF rfl rfl) rfl ?_
            first | exact WPL.jn rfl rfl (by repeat (first | exact trivial | refine ⟨rfl, ?_⟩)) | exact WPL.jnI rfl rfl (by repeat (first | exact trivial | refine ⟨rfl, ?_⟩)) (Imp.pick (by repeat (first | exact Pick.nil | apply Pick.keep (by repeat (first | exact List.Mem.head _ | apply List.Mem.tail)) (by first | exact Pers.cells _ _ _ | exact Pers.slv _ _ _ | exact hD | exact Pers.bytes _) | apply Pick.cons (by repeat (first | exact Pick1.here | apply Pick1.there)))))
          · intro g27_8
            try simp only [decide_eq_true_eq, decide_eq_false_iff_not, beq_iff_eq, bne_iff_ne, beq_eq_false_iff_ne, bne_eq_false_iff_eq, Bool.not_eq_true', Bool.not_eq_false', Bool.not_eq_eq_eq_not, Bool.not_true, Bool.not_false, ne_eq, Decidable.not_not, Int.not_lt, Int.not_le, gt_iff_lt, ge_iff_le] at g27_8
            refine L_no rfl rfl rfl rfl ?_
            refine L_no rfl rfl rfl rfl ?_
            refine L_no rfl rfl rfl rfl ?_
            refine L_no rfl rfl rfl rfl ?_
            refine L_no rfl rfl rfl rfl ?_
            first | refine L_s (q_pickT rfl rfl) rfl ?_ | refine L_s (q_pickF rfl rfl) rfl ?_
            first | exact WPL.jn rfl rfl (by repeat (first | exact trivial | refine ⟨rfl, ?_⟩)) | exact WPL.jnI rfl rfl (by repeat (first | exact trivial | refine ⟨rfl, ?_⟩)) (Imp.pick (by repeat (first | exact Pick.nil | apply Pick.keep (by repeat (first | exact List.Mem.head _ | apply List.Mem.tail)) (by first | exact Pers.cells _ _ _ | exact Pers.slv _ _ _ | exact hD | exact Pers.bytes _) | apply Pick.cons (by repeat (first | exact Pick1.here | apply Pick1.there)))))
          refine L_s (q_move rfl) rfl ?_
          apply WPL.joinA (e' := [(11, _), (14, _), (16, _), (18, _)]) 132 138 6 rfl
          · intro g27_15
            try simp only [decide_eq_true_eq, decide_eq_false_iff_not, beq_iff_eq, bne_iff_ne, beq_eq_false_iff_ne, bne_eq_false_iff_eq, Bool.not_eq_true', Bool.not_eq_false', Bool.not_eq_eq_eq_not, Bool.not_true, Bool.not_false, ne_eq, Decidable.not_not, Int.not_lt, Int.not_le, gt_iff_lt, ge_iff_le] at g27_15
            refine L_yes rfl rfl (q_move rfl) rfl ?_
            refine L_yes rfl rfl (q_len rfl un_sl_sl_uint8 rfl) rfl ?_
            refine L_yes rfl rfl (q_move rfl) rfl ?_
            refine L_yes rfl rfl (q_len rfl un_sl_sl_uint8 rfl) rfl ?_
            refine L_yes rfl rfl (q_int rfl rfl rfl) rfl ?_
            first | refine L_s (q_pickT rfl rfl) rfl ?_ | refine L_s (q_pickF rfl rfl) rfl ?_
            first | exact WPL.jn rfl rfl (by repeat (first | exact trivial | refine ⟨rfl, ?_⟩)) | exact WPL.jnI rfl rfl (by repeat (first | exact trivial | refine ⟨rfl, ?_⟩)) (Imp.pick (by repeat (first | exact Pick.nil | apply Pick.keep (by repeat (first | exact List.Mem.head _ | apply List.Mem.tail)) (by first | exact Pers.cells _ _ _ | exact Pers.slv _ _ _ | exact hD | exact Pers.bytes _) | apply Pick.cons (by repeat (first | exact Pick1.here | apply Pick1.there)))))
          · intro g27_15
            try simp only [decide_eq_true_eq, decide_eq_false_iff_not, beq_iff_eq, bne_iff_ne, beq_eq_false_iff_ne, bne_eq_false_iff_eq, Bool.not_eq_true', Bool.not_eq_false', Bool.not_eq_eq_eq_not, Bool.not_true, Bool.not_false, ne_eq, Decidable.not_not, Int.not_lt, Int.not_le, gt_iff_lt, ge_iff_le] at g27_15
            refine L_no rfl rfl rfl rfl ?_
            refine L_no rfl rfl rfl rfl ?_
            refine L_no rfl rfl rfl rfl ?_
            refine L_no rfl rfl rfl rfl ?_
            refine L_no rfl rfl rfl rfl ?_
            first | refine L_s (q_pickT rfl rfl) rfl ?_ | refine L_s (q_pickF rfl rfl) rfl ?_
            first | exact WPL.jn rfl rfl (by repeat (first | exact trivial | refine ⟨rfl, ?_⟩)) | exact WPL.jnI rfl rfl (by repeat (first | exact trivial | refine ⟨rfl, ?_⟩)) (Imp.pick (by repeat (first | exact Pick.nil | apply Pick.keep (by repeat (first | exact List.Mem.head _ | apply List.Mem.tail)) (by first | exact Pers.cells _ _ _ | exact Pers.slv _ _ _ | exact hD | exact Pers.bytes _) | apply Pick.cons (by repeat (first | exact Pick1.here | apply Pick1.there)))))
          refine L_s (q_move rfl) rfl ?_
          apply WPL.joinA (e' := [(11, _), (14, _), (16, _), (18, _)]) 139 149 10 rfl
          · intro g27_22
            try simp only [decide_eq_true_eq, decide_eq_false_iff_not, beq_iff_eq, bne_iff_ne, beq_eq_false_iff_ne, bne_eq_false_iff_eq, Bool.not_eq_true', Bool.not_eq_false', Bool.not_eq_eq_eq_not, Bool.not_true, Bool.not_false, ne_eq, Decidable.not_not, Int.not_lt, Int.not_le, gt_iff_lt, ge_iff_le] at g27_22
            refine L_yes rfl rfl (q_move rfl) rfl ?_
            refine L_yes rfl rfl (q_move rfl) rfl ?_
            refine L_yes rfl rfl (q_move rfl) rfl ?_
            refine L_yes rfl rfl (q_len rfl un_sl_sl_uint8 rfl) rfl ?_
            refine L_yes rfl rfl (q_move rfl) rfl ?_
            refine L_yes rfl rfl (q_len rfl un_sl_sl_uint8 rfl) rfl ?_
            refine L_yes rfl rfl (q_min2 rfl rfl) rfl ?_
            try rw [show min (us.length : Int) (ys.length : Int) = ((min us.length ys.length : Nat) : Int) by omega]
            refine L_yes rfl rfl (q_sliceHi (j := min us.length ys.length) sl_sl_sl_uint8 rfl rfl (by omega)) rfl ?_
            refine WPL.imp (((Imp.pick (Δ := [sl false a1 (ys.map bsV), sl false a1 (ys.map bsV), bytes ys, jour b6 db j6, disk db d6, sl false a6 (us.map bsV), bytes us, sl false a5 (rs.map bsV), bytes rs, cells true bo 0 [.int .i64 od, .int .i64 on_, .slice oa obs.length oc, .slice qa qn qc], sl false pa (ps.map (.int .i64)), tblA]) (by repeat (first | exact Pick.nil | apply Pick.keep (by repeat (first | exact List.Mem.head _ | apply List.Mem.tail)) (by first | exact Pers.cells _ _ _ | exact Pers.slv _ _ _| exact hD | exact Pers.bytes _) | apply Pick.cons (by repeat (first | exact Pick1.here | apply Pick1.there))))).trans (Imp.bsTake (min us.length ys.length))).trans ((Imp.pick (Δ := [bytes ys, sl false a1 ((ys.take (min us.length ys.length)).map bsV), sl false a1 (ys.map bsV), jour b6 db j6, disk db d6, sl false a6 (us.map bsV), bytes us, sl false a5 (rs.map bsV), bytes rs, cells true bo 0 [.int .i64 od, .int .i64 on_, .slice oa obs.length oc, .slice qa qn qc], sl false pa (ps.map (.int .i64)), tblA]) (by repeat (first | exact Pick.nil | apply Pick.keep (by repeat (first | exact List.Mem.head _ | apply List.Mem.tail)) (by first | exact Pers.cells _ _ _ | exact Pers.slv _ _ _| exact hD | exact Pers.bytes _) | apply Pick.cons (by repeat (first | exact Pick1.here | apply Pick1.there))))).trans (bytes_sub (ys := ys.take (min us.length ys.length)) fun y hy => List.mem_of_mem_take hy))) ?_
            refine L_eyes rfl rfl rfl (C1.call (c_call Tryd.func15 rfl rfl rfl) (c_Same06g (p := false) (q := false) rfl htl hus (hys.bsTake (by omega)) (by omega) hub (fun z hz => hyo z (List.mem_of_mem_take hz))) (by repeat (first | exact Pick.nil | apply Pick.keep (by repeat (first | exact List.Mem.head _ | apply List.Mem.tail)) (by first | exact Pers.cells _ _ _ | exact Pers.slv _ _ _ | exact hD | exact Pers.bytes _) | apply Pick.cons (by repeat (first | exact Pick1.here | apply Pick1.there)))) rfl ?_)
            rintro _ _ ⟨rfl, rfl⟩
            refine WPL.putS ?_
            first | refine L_s (q_pickT rfl rfl) rfl ?_ | refine L_s (q_pickF rfl rfl) rfl ?_
            first | exact WPL.jn rfl rfl (by repeat (first | exact trivial | refine ⟨rfl, ?_⟩)) | exact WPL.jnI rfl rfl (by repeat (first | exact trivial | refine ⟨rfl, ?_⟩)) (Imp.pick (by repeat (first | exact Pick.nil | apply Pick.keep (by repeat (first | exact List.Mem.head _ | apply List.Mem.tail)) (by first | exact Pers.cells _ _ _ | exact Pers.slv _ _ _ | exact hD | exact Pers.bytes _) | apply Pick.cons (by repeat (first | exact Pick1.here | apply Pick1.there)))))
          · intro g27_22
            try simp only [decide_eq_true_eq, decide_eq_false_iff_not, beq_iff_eq, bne_iff_ne, beq_eq_false_iff_ne, bne_eq_false_iff_eq, Bool.not_eq_true', Bool.not_eq_false', Bool.not_eq_eq_eq_not, Bool.not_true, Bool.not_false, ne_eq, Decidable.not_not, Int.not_lt, Int.not_le, gt_iff_lt, ge_iff_le] at g27_22
            refine L_no rfl rfl rfl rfl ?_
            refine L_no rfl rfl rfl rfl ?_
            refine L_no rfl rfl rfl rfl ?_
            refine L_no rfl rfl rfl rfl ?_
            refine L_no rfl rfl rfl rfl ?_
            refine L_no rfl rfl rfl rfl ?_
            refine L_no rfl rfl rfl rfl ?_
            try rw [show min (us.length : Int) (ys.length : Int) = ((min us.length ys.length : Nat) : Int) by omega]
            refine L_no rfl rfl rfl rfl ?_
            refine WPL.imp (((Imp.pick (Δ := [sl false a1 (ys.map bsV), sl false a1 (ys.map bsV), bytes ys, jour b6 db j6, disk db d6, sl false a6 (us.map bsV), bytes us, sl false a5 (rs.map bsV), bytes rs, cells true bo 0 [.int .i64 od, .int .i64 on_, .slice oa obs.length oc, .slice qa qn qc], sl false pa (ps.map (.int .i64)), tblA]) (by repeat (first | exact Pick.nil | apply Pick.keep (by repeat (first | exact List.Mem.head _ | apply List.Mem.tail)) (by first | exact Pers.cells _ _ _ | exact Pers.slv _ _ _| exact hD | exact Pers.bytes _) | apply Pick.cons (by repeat (first | exact Pick1.here | apply Pick1.there))))).trans (Imp.bsTake (min us.length ys.length))).trans ((Imp.pick (Δ := [bytes ys, sl false a1 ((ys.take (min us.length ys.length)).map bsV), sl false a1 (ys.map bsV), jour b6 db j6, disk db d6, sl false a6 (us.map bsV), bytes us, sl false a5 (rs.map bsV), bytes rs, cells true bo 0 [.int .i64 od, .int .i64 on_, .slice oa obs.length oc, .slice qa qn qc], sl false pa (ps.map (.int .i64)), tblA]) (by repeat (first | exact Pick.nil | apply Pick.keep (by repeat (first | exact List.Mem.head _ | apply List.Mem.tail)) (by first | exact Pers.cells _ _ _ | exact Pers.slv _ _ _| exact hD | exact Pers.bytes _) | apply Pick.cons (by repeat (first | exact Pick1.here | apply Pick1.there))))).trans (bytes_sub (ys := ys.take (min us.length ys.length)) fun y hy => List.mem_of_mem_take hy))) ?_
            refine L_no rfl rfl rfl rfl ?_
            first | refine L_s (q_pickT rfl rfl) rfl ?_ | refine L_s (q_pickF rfl rfl) rfl ?_
            first | exact WPL.jn rfl rfl (by repeat (first | exact trivial | refine ⟨rfl, ?_⟩)) | exact WPL.jnI rfl rfl (by repeat (first | exact trivial | refine ⟨rfl, ?_⟩)) (Imp.pick (by repeat (first | exact Pick.nil | apply Pick.keep (by repeat (first | exact List.Mem.head _ | apply List.Mem.tail)) (by first | exact Pers.cells _ _ _ | exact Pers.slv _ _ _ | exact hD | exact Pers.bytes _) | apply Pick.cons (by repeat (first | exact Pick1.here | apply Pick1.there)))))
          refine L_s (q_assign rfl) rfl ?_
          refine WPL.nil ?_
          refine WPC.seqR ?_
          refine L_s (q_move rfl) rfl ?_
          refine L_s (q_move rfl) rfl ?_
          apply WPL.joinA (e' := []) 151 163 12 rfl
          · intro g28_1
            try simp only [decide_eq_true_eq, decide_eq_false_iff_not, beq_iff_eq, bne_iff_ne, beq_eq_false_iff_ne, bne_eq_false_iff_eq, Bool.not_eq_true', Bool.not_eq_false', Bool.not_eq_eq_eq_not, Bool.not_true, Bool.not_false, ne_eq, Decidable.not_not, Int.not_lt, Int.not_le, gt_iff_lt, ge_iff_le] at g28_1
            refine L_yes rfl rfl (q_move rfl) rfl ?_
            refine L_yes rfl rfl (q_move rfl) rfl ?_
            refine L_eyes rfl rfl rfl (C1.call (c_call Tryd.func15 rfl rfl rfl) (c_Same06g (p := false) (q := false) rfl rfl hus hys (by omega) hub hyo) (by repeat (first | exact Pick.nil | apply Pick.keep (by repeat (first | exact List.Mem.head _ | apply List.Mem.tail)) (by first | exact Pers.cells _ _ _ | exact Pers.slv _ _ _ | exact hD | exact Pers.bytes _) | apply Pick.cons (by repeat (first | exact Pick1.here | apply Pick1.there)))) rfl ?_)
            rintro _ _ ⟨rfl, rfl⟩
            refine WPL.putS ?_
            refine L_yes rfl rfl (q_move rfl) rfl ?_
            apply WPL.joinO (e' := [(20, _), (151, _)]) 155 159 4 rfl
            · intro g28_5
              try simp only [decide_eq_true_eq, decide_eq_false_iff_not, beq_iff_eq, bne_iff_ne, beq_eq_false_iff_ne, bne_eq_false_iff_eq, Bool.not_eq_true', Bool.not_eq_false', Bool.not_eq_eq_eq_not, Bool.not_true, Bool.not_false, ne_eq, Decidable.not_not, Int.not_lt, Int.not_le, gt_iff_lt, ge_iff_le] at g28_5
              refine L_no rfl rfl rfl rfl ?_
              refine L_no rfl rfl rfl rfl ?_
              refine L_no rfl rfl rfl rfl ?_
              first | refine L_yes rfl rfl (q_pickT rfl rfl) rfl ?_ | refine L_yes rfl rfl (q_pickF rfl rfl) rfl ?_
              first | exact WPL.jn rfl rfl (by repeat (first | exact trivial | refine ⟨rfl, ?_⟩)) | exact WPL.jnI rfl rfl (by repeat (first | exact trivial | refine ⟨rfl, ?_⟩)) (Imp.pick (by repeat (first | exact Pick.nil | apply Pick.keep (by repeat (first | exact List.Mem.head _ | apply List.Mem.tail)) (by first | exact Pers.cells _ _ _ | exact Pers.slv _ _ _ | exact hD | exact Pers.bytes _) | apply Pick.cons (by repeat (first | exact Pick1.here | apply Pick1.there)))))
            · intro g28_5
              try simp only [decide_eq_true_eq, decide_eq_false_iff_not, beq_iff_eq, bne_iff_ne, beq_eq_false_iff_ne, bne_eq_false_iff_eq, Bool.not_eq_true', Bool.not_eq_false', Bool.not_eq_eq_eq_not, Bool.not_true, Bool.not_false, ne_eq, Decidable.not_not, Int.not_lt, Int.not_le, gt_iff_lt, ge_iff_le] at g28_5
              refine L_yes rfl rfl (q_move rfl) rfl ?_
              refine L_yes rfl rfl (q_move rfl) rfl ?_
              refine L_eyes rfl rfl rfl (C1.call (c_call Tryd.func15 rfl rfl rfl) (c_Same06g (p := false) (q := false) rfl hn5 hus hrs (by omega) hub hro) (by repeat (first | exact Pick.nil | apply Pick.keep (by repeat (first | exact List.Mem.head _ | apply List.Mem.tail)) (by first | exact Pers.cells _ _ _ | exact Pers.slv _ _ _ | exact hD | exact Pers.bytes _) | apply Pick.cons (by repeat (first | exact Pick1.here | apply Pick1.there)))) rfl ?_)
              rintro _ _ ⟨rfl, rfl⟩
              refine WPL.putS ?_
              first | refine L_yes rfl rfl (q_pickT rfl rfl) rfl ?_ | refine L_yes rfl rfl (q_pickF rfl rfl) rfl ?_
              first | exact WPL.jn rfl rfl (by repeat (first | exact trivial | refine ⟨rfl, ?_⟩)) | exact WPL.jnI rfl rfl (by repeat (first | exact trivial | refine ⟨rfl, ?_⟩)) (Imp.pick (by repeat (first | exact Pick.nil | apply Pick.keep (by repeat (first | exact List.Mem.head _ | apply List.Mem.tail)) (by first | exact Pers.cells _ _ _ | exact Pers.slv _ _ _ | exact hD | exact Pers.bytes _) | apply Pick.cons (by repeat (first | exact Pick1.here | apply Pick1.there)))))
            refine L_yes rfl rfl (q_move rfl) rfl ?_
            apply WPL.joinO (e' := [(151, _)]) 160 162 2 rfl
            · intro g28_10
              try simp only [decide_eq_true_eq, decide_eq_false_iff_not, beq_iff_eq, bne_iff_ne, beq_eq_false_iff_ne, bne_eq_false_iff_eq, Bool.not_eq_true', Bool.not_eq_false', Bool.not_eq_eq_eq_not, Bool.not_true, Bool.not_false, ne_eq, Decidable.not_not, Int.not_lt, Int.not_le, gt_iff_lt, ge_iff_le] at g28_10
              refine L_no rfl rfl rfl rfl ?_
              first | refine L_yes rfl rfl (q_pickT rfl rfl) rfl ?_ | refine L_yes rfl rfl (q_pickF rfl rfl) rfl ?_
              first | exact WPL.jn rfl rfl (by repeat (first | exact trivial | refine ⟨rfl, ?_⟩)) | exact WPL.jnI rfl rfl (by repeat (first | exact trivial | refine ⟨rfl, ?_⟩)) (Imp.pick (by repeat (first | exact Pick.nil | apply Pick.keep (by repeat (first | exact List.Mem.head _ | apply List.Mem.tail)) (by first | exact Pers.cells _ _ _ | exact Pers.slv _ _ _ | exact hD | exact Pers.bytes _) | apply Pick.cons (by repeat (first | exact Pick1.here | apply Pick1.there)))))
            · intro g28_10
              try simp only [decide_eq_true_eq, decide_eq_false_iff_not, beq_iff_eq, bne_iff_ne, beq_eq_false_iff_ne, bne_eq_false_iff_eq, Bool.not_eq_true', Bool.not_eq_false', Bool.not_eq_eq_eq_not, Bool.not_true, Bool.not_false, ne_eq, Decidable.not_not, Int.not_lt, Int.not_le, gt_iff_lt, ge_iff_le] at g28_10
              refine L_yes rfl rfl (q_move rfl) rfl ?_
              first | refine L_yes rfl rfl (q_pickT rfl rfl) rfl ?_ | refine L_yes rfl rfl (q_pickF rfl rfl) rfl ?_
              first | exact WPL.jn rfl rfl (by repeat (first | exact trivial | refine ⟨rfl, ?_⟩)) | exact WPL.jnI rfl rfl (by repeat (first | exact trivial | refine ⟨rfl, ?_⟩)) (Imp.pick (by repeat (first | exact Pick.nil | apply Pick.keep (by repeat (first | exact List.Mem.head _ | apply List.Mem.tail)) (by first | exact Pers.cells _ _ _ | exact Pers.slv _ _ _ | exact hD | exact Pers.bytes _) | apply Pick.cons (by repeat (first | exact Pick1.here | apply Pick1.there)))))
            first | refine L_s (q_pickT rfl rfl) rfl ?_ | refine L_s (q_pickF rfl rfl) rfl ?_
            first | exact WPL.jn rfl rfl (by repeat (first | exact trivial | refine ⟨rfl, ?_⟩)) | exact WPL.jnI rfl rfl (by repeat (first | exact trivial | refine ⟨rfl, ?_⟩)) (Imp.pick (by repeat (first | exact Pick.nil | apply Pick.keep (by repeat (first | exact List.Mem.head _ | apply List.Mem.tail)) (by first | exact Pers.cells _ _ _ | exact Pers.slv _ _ _ | exact hD | exact Pers.bytes _) | apply Pick.cons (by repeat (first | exact Pick1.here | apply Pick1.there)))))
          · intro g28_1
            try simp only [decide_eq_true_eq, decide_eq_false_iff_not, beq_iff_eq, bne_iff_ne, beq_eq_false_iff_ne, bne_eq_false_iff_eq, Bool.not_eq_true', Bool.not_eq_false', Bool.not_eq_eq_eq_not, Bool.not_true, Bool.not_false, ne_eq, Decidable.not_not, Int.not_lt, Int.not_le, gt_iff_lt, ge_iff_le] at g28_1
            refine L_no rfl rfl rfl rfl ?_
            refine L_no rfl rfl rfl rfl ?_
            refine L_no rfl rfl rfl rfl ?_
            refine L_no rfl rfl rfl rfl ?_
            refine L_off rfl rfl rfl ?_
            refine L_off rfl rfl rfl ?_
            refine L_off rfl rfl rfl ?_
            refine L_no rfl rfl rfl rfl ?_
            refine L_no rfl rfl rfl rfl ?_
            refine L_off rfl rfl rfl ?_
            refine L_no rfl rfl rfl rfl ?_
            first | refine L_s (q_pickT rfl rfl) rfl ?_ | refine L_s (q_pickF rfl rfl) rfl ?_
            first | exact WPL.jn rfl rfl (by repeat (first | exact trivial | refine ⟨rfl, ?_⟩)) | exact WPL.jnI rfl rfl (by repeat (first | exact trivial | refine ⟨rfl, ?_⟩)) (Imp.pick (by repeat (first | exact Pick.nil | apply Pick.keep (by repeat (first | exact List.Mem.head _ | apply List.Mem.tail)) (by first | exact Pers.cells _ _ _ | exact Pers.slv _ _ _ | exact hD | exact Pers.bytes _) | apply Pick.cons (by repeat (first | exact Pick1.here | apply Pick1.there)))))
          refine L_s (q_assign rfl) rfl ?_
          refine WPL.nil ?_
          refine WPC.ret ?_
          have hfin : (true && (decide (us.map BS.bs = ys.map BS.bs) || decide (us.map BS.bs = rs.map BS.bs) || (od != 1 && od != 3 && decide ((us.length : Int) ≤ (ys.length : Int)) && decide ((us.length : Int) ≥ (n5 : Int)) && decide (us.map BS.bs = (ys.take (min us.length ys.length)).map BS.bs)))) = true := by
            rw [Bool.true_and, hue, hye, map_take_bs, hye]
            rcases hP5 with h | h | ⟨-, h1, h2, m, g1, g2, g3⟩
            · simp [h]
            · simp [h.2]
            · have hul2 : us.length = m := by rw [hul, ← List.length_map (f := (·.2)), g3, List.length_take]; omega
              rw [List.length_map] at g1 g2
              rw [g3, hul2, show min m ys.length = m by omega]
              have q1 : (m : Int) ≤ (ys.length : Int) := by omega
              have q2 : (n5 : Int) ≤ (m : Int) := by omega
              simp [h1, h2, q1, q2]
          exact endR_r rfl (.tmp rfl .nil) (Imp.pick (by repeat (first | exact Pick.nil | apply Pick.keep (by repeat (first | exact List.Mem.head _ | apply List.Mem.tail)) (by first | exact Pers.cells _ _ _ | exact Pers.slv _ _ _ | exact Pers.bytes _) | apply Pick.cons (by repeat (first | exact Pick1.here | apply Pick1.there))))) ⟨by simp only [packV]; exact congrArg Value.bool hfin, rfl⟩

end Go.Sl
