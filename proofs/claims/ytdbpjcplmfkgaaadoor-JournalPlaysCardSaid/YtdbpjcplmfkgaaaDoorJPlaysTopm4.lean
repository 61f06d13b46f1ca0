/- Texts of this claim, merged: JN, JPure7, JO, JP, KE, JQ, JR, JPure8, KF. -/
import Derived.Test.YtdbpjcplmfkgaaaDoorJPlaysTopm3
/- Walks: journals behind calls. -/
namespace Go.Sl
open Go Go.RowKit Go.Proofs
set_option linter.unusedSimpArgs false
set_option linter.unusedVariables false
attribute [local irreducible] faB szB ldB zB zL slB mkB arB plB intB cells objc star stars buf slv grp whole Sat WPC WPL WPA WPO WPQ Trip Q1 E1 S1 C1

theorem c_OpenJ {db : Nat} {d d2 : DK} {j2 : JN} {n : Nat} (hn : 1 ≤ n ∧ n ≤ 17) (hl : d.seen.length = 20) (hd : d.ok) (hpl : d.pend.length < 600000) (h : jopen0 d 1 n = (d2, some j2, 0)) : Trip Tryd.prog 14 #[.pointer (some ⟨db, 0, none⟩), .int .i64 1, .int .i64 (n : Int)] [disk db d, tblA]
    (fun r Δ => ∃ (b : Nat) (a : Option Addr) (c : Nat) (ys : List BS), r = .tuple #[.pointer (some ⟨b, 0, none⟩), .slice a ys.length c, .int .i64 0] ∧ Sok 1 a ys.length c (ys.map bsV) ∧ ys.map BS.bs = j2.held.map (·.2) ∧ (∀ y ∈ ys, y.ok) ∧ Δ = [jour b db j2, disk db d2, buf 1 a ys.length c (ys.map bsV), bytes ys]) := by
  have hc := c_Open (db := db) (d := d) (at_ := 1) (n := n) (by omega) (by omega) hd hpl
  rw [h] at hc
  exact hc

theorem c_opened {n : Nat} (hn : 1 ≤ n ∧ n ≤ 17) : Trip Tryd.prog 30 #[.int .i64 (n : Int)] [tblA] fun r Δ => ∃ (db b : Nat) (d : DK) (j : JN), r = .tuple #[.pointer (some ⟨db, 0, none⟩), .pointer (some ⟨b, 0, none⟩)] ∧ jopen0 (DK.new 20) 1 n = (d, some j, 0) ∧ Inv n 1 d j ∧ Δ = [jour b db j, disk db d] := by
  obtain ⟨d, j, hopen, hI⟩ := Inv.new hn
  refine Trip.start 24 [.tmp 2, .tmp 3] [(0, .int .i64 (n : Int))] Tryd.func30 rfl Tryd.ntmps30 rfl ⟨rfl, trivial⟩ rfl ?_
  refine WPC.seqR ?_
  iterate 2 refine stp ?_
  refine WPL.nil ?_
  refine WPC.seqR ?_
  refine kall rfl (c_DNew (k := 20) (by omega)) ?_
  rintro _ _ ⟨db, rfl, rfl⟩
  iterate 5 refine stp ?_
  refine WPL.nil ?_
  refine WPC.seq ?_
  refine WPC.seqR ?_
  iterate 2 refine stp ?_
  refine WPL.nil ?_
  refine WPC.cond rfl (fun h0 => ?_) (fun h0 => ?_)
  · try simp only [decide_eq_true_eq, decide_eq_false_iff_not, beq_iff_eq, bne_iff_ne, beq_eq_false_iff_ne, bne_eq_false_iff_eq, Bool.not_eq_true', Bool.not_eq_false', Bool.not_eq_eq_eq_not, Bool.not_true, Bool.not_false, ne_eq, Decidable.not_not, Int.not_lt, Int.not_le, gt_iff_lt, ge_iff_le] at h0
    simp at h0
  · skip
    refine WPC.skip ?_
    refine thenQ_n ?_
    refine WPC.seqR ?_
    iterate 2 refine stp ?_
    refine kall rfl (c_OpenJ (db := db) hn rfl ⟨by simp [DK.new], by simp [DK.new], by simp [DK.new], by simp [DK.new]⟩ (by simp [DK.new]) hopen) ?_
    rintro _ _ ⟨b, a, c, ys, rfl, -, -, -, rfl⟩
    iterate 7 refine stp ?_
    refine WPL.nil ?_
    refine WPC.seqR ?_
    iterate 4 refine stp ?_
    refine WPL.nil ?_
    refine WPC.ret ?_
    exact endR_r rfl (.tmp rfl (.tmp rfl .nil)) Imp.pk ⟨db, b, d, j, rfl, hopen, hI, rfl⟩

theorem c_madeNil {D : A} (hD : Pers D) {n : Int} {a : Option Addr} {c : Nat} {ops : List OpV} (hs : Sok 4 a ops.length c (ops.flatMap encO)) (hg : ¬ (1 ≤ n ∧ n ≤ 17 ∧ ops.length ≤ 30)) : Trip Tryd.prog 9 #[.int .i64 n, .slice a ops.length c] [sl false a (ops.flatMap encO), tblA, D] fun r Δ => r = .tuple #[.pointer none, .pointer none] ∧ Δ = [] := by
  refine Trip.start 102 [.tmp 4, .tmp 5] [(0, .int .i64 n), (1, .slice a ops.length c)] Tryd.func9 rfl Tryd.ntmps9 rfl ⟨rfl, rfl, trivial⟩ rfl ?_
  refine WPC.seqR ?_
  iterate 2 refine stp ?_
  refine WPL.nil ?_
  refine WPC.seq ?_
  refine WPC.seqR ?_
  iterate 3 refine stp ?_
  apply WPL.joinO (e' := [(0, _), (1, _), (4, _), (5, _)]) 11 14 3 rfl
  · intro g1_2
    try simp only [decide_eq_true_eq, decide_eq_false_iff_not, beq_iff_eq, bne_iff_ne, beq_eq_false_iff_ne, bne_eq_false_iff_eq, Bool.not_eq_true', Bool.not_eq_false', Bool.not_eq_eq_eq_not, Bool.not_true, Bool.not_false, ne_eq, Decidable.not_not, Int.not_lt, Int.not_le, gt_iff_lt, ge_iff_le] at g1_2
    refine L_no rfl rfl rfl rfl ?_
    refine L_no rfl rfl rfl rfl ?_
    refine stp ?_
    first | exact WPL.jn rfl rfl sbb | exact WPL.jnI rfl rfl sbb Imp.pk
  · intro g1_2
    try simp only [decide_eq_true_eq, decide_eq_false_iff_not, beq_iff_eq, bne_iff_ne, beq_eq_false_iff_ne, bne_eq_false_iff_eq, Bool.not_eq_true', Bool.not_eq_false', Bool.not_eq_eq_eq_not, Bool.not_true, Bool.not_false, ne_eq, Decidable.not_not, Int.not_lt, Int.not_le, gt_iff_lt, ge_iff_le] at g1_2
    iterate 2 refine stpY rfl rfl ?_
    refine stp ?_
    first | exact WPL.jn rfl rfl sbb | exact WPL.jnI rfl rfl sbb Imp.pk
  refine stp ?_
  apply WPL.joinO (e' := [(0, _), (1, _), (4, _), (5, _)]) 15 19 4 rfl
  · intro g1_6
    try simp only [decide_eq_true_eq, decide_eq_false_iff_not, beq_iff_eq, bne_iff_ne, beq_eq_false_iff_ne, bne_eq_false_iff_eq, Bool.not_eq_true', Bool.not_eq_false', Bool.not_eq_eq_eq_not, Bool.not_true, Bool.not_false, ne_eq, Decidable.not_not, Int.not_lt, Int.not_le, gt_iff_lt, ge_iff_le] at g1_6
    refine L_no rfl rfl rfl rfl ?_
    refine L_no rfl rfl rfl rfl ?_
    refine L_no rfl rfl rfl rfl ?_
    refine stp ?_
    first | exact WPL.jn rfl rfl sbb | exact WPL.jnI rfl rfl sbb Imp.pk
  · intro g1_6
    try simp only [decide_eq_true_eq, decide_eq_false_iff_not, beq_iff_eq, bne_iff_ne, beq_eq_false_iff_ne, bne_eq_false_iff_eq, Bool.not_eq_true', Bool.not_eq_false', Bool.not_eq_eq_eq_not, Bool.not_true, Bool.not_false, ne_eq, Decidable.not_not, Int.not_lt, Int.not_le, gt_iff_lt, ge_iff_le] at g1_6
    iterate 3 refine stpY rfl rfl ?_
    refine stp ?_
    first | exact WPL.jn rfl rfl sbb | exact WPL.jnI rfl rfl sbb Imp.pk
  refine WPL.nil ?_
  refine WPC.cond rfl (fun h0 => ?_) (fun h0 => ?_)
  · skip
    refine WPC.seqR ?_
    iterate 2 refine stp ?_
    refine WPL.nil ?_
    refine WPC.ret ?_
    refine thenQ_r ?_
    exact endR_r rfl (.tmp rfl (.tmp rfl .nil)) Imp.pk ⟨rfl, rfl⟩
  · try simp only [decide_eq_true_eq, decide_eq_false_iff_not, beq_iff_eq, bne_iff_ne, beq_eq_false_iff_ne, bne_eq_false_iff_eq, Bool.not_eq_true', Bool.not_eq_false', Bool.not_eq_eq_eq_not, Bool.not_true, Bool.not_false, ne_eq, Decidable.not_not, Int.not_lt, Int.not_le, gt_iff_lt, ge_iff_le] at h0
    simp only [Bool.or_eq_false_iff, decide_eq_false_iff_not] at h0
    omega

theorem c_made {D : A} (hD : Pers D) {n : Nat} {a : Option Addr} {c : Nat} {ops : List OpV} (hs : Sok 4 a ops.length c (ops.flatMap encO)) (hn : 1 ≤ n ∧ n ≤ 17) (hlen : ops.length ≤ 30) (hops : OpsD D ops) : Trip Tryd.prog 9 #[.int .i64 (n : Int), .slice a ops.length c] [sl false a (ops.flatMap encO), tblA, D] fun r Δ => ∃ (db b : Nat) (d : DK) (j : JN) (T : Nat), T ≤ 31 ∧ r = .tuple #[.pointer (some ⟨db, 0, none⟩), .pointer (some ⟨b, 0, none⟩)] ∧ Inv n T d j ∧ Δ = [jour b db j, disk db d] := by
  refine Trip.start 102 [.tmp 4, .tmp 5] [(0, .int .i64 (n : Int)), (1, .slice a ops.length c)] Tryd.func9 rfl Tryd.ntmps9 rfl ⟨rfl, rfl, trivial⟩ rfl ?_
  refine WPC.seqR ?_
  iterate 2 refine stp ?_
  refine WPL.nil ?_
  refine WPC.seq ?_
  refine WPC.seqR ?_
  iterate 3 refine stp ?_
  apply WPL.joinO (e' := [(0, _), (1, _), (4, _), (5, _)]) 11 14 3 rfl
  · intro g1_2
    try simp only [decide_eq_true_eq, decide_eq_false_iff_not, beq_iff_eq, bne_iff_ne, beq_eq_false_iff_ne, bne_eq_false_iff_eq, Bool.not_eq_true', Bool.not_eq_false', Bool.not_eq_eq_eq_not, Bool.not_true, Bool.not_false, ne_eq, Decidable.not_not, Int.not_lt, Int.not_le, gt_iff_lt, ge_iff_le] at g1_2
    refine L_no rfl rfl rfl rfl ?_
    refine L_no rfl rfl rfl rfl ?_
    refine stp ?_
    first | exact WPL.jn rfl rfl sbb | exact WPL.jnI rfl rfl sbb Imp.pk
  · intro g1_2
    try simp only [decide_eq_true_eq, decide_eq_false_iff_not, beq_iff_eq, bne_iff_ne, beq_eq_false_iff_ne, bne_eq_false_iff_eq, Bool.not_eq_true', Bool.not_eq_false', Bool.not_eq_eq_eq_not, Bool.not_true, Bool.not_false, ne_eq, Decidable.not_not, Int.not_lt, Int.not_le, gt_iff_lt, ge_iff_le] at g1_2
    iterate 2 refine stpY rfl rfl ?_
    refine stp ?_
    first | exact WPL.jn rfl rfl sbb | exact WPL.jnI rfl rfl sbb Imp.pk
  refine stp ?_
  apply WPL.joinO (e' := [(0, _), (1, _), (4, _), (5, _)]) 15 19 4 rfl
  · intro g1_6
    try simp only [decide_eq_true_eq, decide_eq_false_iff_not, beq_iff_eq, bne_iff_ne, beq_eq_false_iff_ne, bne_eq_false_iff_eq, Bool.not_eq_true', Bool.not_eq_false', Bool.not_eq_eq_eq_not, Bool.not_true, Bool.not_false, ne_eq, Decidable.not_not, Int.not_lt, Int.not_le, gt_iff_lt, ge_iff_le] at g1_6
    refine L_no rfl rfl rfl rfl ?_
    refine L_no rfl rfl rfl rfl ?_
    refine L_no rfl rfl rfl rfl ?_
    refine stp ?_
    first | exact WPL.jn rfl rfl sbb | exact WPL.jnI rfl rfl sbb Imp.pk
  · intro g1_6
    try simp only [decide_eq_true_eq, decide_eq_false_iff_not, beq_iff_eq, bne_iff_ne, beq_eq_false_iff_ne, bne_eq_false_iff_eq, Bool.not_eq_true', Bool.not_eq_false', Bool.not_eq_eq_eq_not, Bool.not_true, Bool.not_false, ne_eq, Decidable.not_not, Int.not_lt, Int.not_le, gt_iff_lt, ge_iff_le] at g1_6
    iterate 3 refine stpY rfl rfl ?_
    refine stp ?_
    first | exact WPL.jn rfl rfl sbb | exact WPL.jnI rfl rfl sbb Imp.pk
  refine WPL.nil ?_
  refine WPC.cond rfl (fun h0 => ?_) (fun h0 => ?_)
  · try simp only [decide_eq_true_eq, decide_eq_false_iff_not, beq_iff_eq, bne_iff_ne, beq_eq_false_iff_ne, bne_eq_false_iff_eq, Bool.not_eq_true', Bool.not_eq_false', Bool.not_eq_eq_eq_not, Bool.not_true, Bool.not_false, ne_eq, Decidable.not_not, Int.not_lt, Int.not_le, gt_iff_lt, ge_iff_le] at h0
    simp only [Bool.or_eq_true, decide_eq_true_eq] at h0
    omega
  · skip
    refine WPC.skip ?_
    refine thenQ_n ?_
    refine WPC.seqR ?_
    refine stp ?_
    refine kall rfl (c_opened hn) ?_
    rintro _ _ ⟨db, b, d, j, rfl, -, hI, rfl⟩
    iterate 5 refine stp ?_
    refine WPL.nil ?_
    refine WPC.seq ?_
    refine WPC.seqR ?_
    iterate 3 refine stp ?_
    apply WPL.joinO (e' := [(0, _), (1, _), (4, _), (5, _), (6, _), (7, _)]) 27 30 3 rfl
    · intro g4_2
      try simp only [decide_eq_true_eq, decide_eq_false_iff_not, beq_iff_eq, bne_iff_ne, beq_eq_false_iff_ne, bne_eq_false_iff_eq, Bool.not_eq_true', Bool.not_eq_false', Bool.not_eq_eq_eq_not, Bool.not_true, Bool.not_false, ne_eq, Decidable.not_not, Int.not_lt, Int.not_le, gt_iff_lt, ge_iff_le] at g4_2
      refine L_no rfl rfl rfl rfl ?_
      refine L_no rfl rfl rfl rfl ?_
      refine stp ?_
      first | exact WPL.jn rfl rfl sbb | exact WPL.jnI rfl rfl sbb Imp.pk
    · intro g4_2
      try simp only [decide_eq_true_eq, decide_eq_false_iff_not, beq_iff_eq, bne_iff_ne, beq_eq_false_iff_ne, bne_eq_false_iff_eq, Bool.not_eq_true', Bool.not_eq_false', Bool.not_eq_eq_eq_not, Bool.not_true, Bool.not_false, ne_eq, Decidable.not_not, Int.not_lt, Int.not_le, gt_iff_lt, ge_iff_le] at g4_2
      iterate 2 refine stpY rfl rfl ?_
      refine stp ?_
      first | exact WPL.jn rfl rfl sbb | exact WPL.jnI rfl rfl sbb Imp.pk
    refine WPL.nil ?_
    refine WPC.cond rfl (fun h1 => ?_) (fun h1 => ?_)
    · try simp only [decide_eq_true_eq, decide_eq_false_iff_not, beq_iff_eq, bne_iff_ne, beq_eq_false_iff_ne, bne_eq_false_iff_eq, Bool.not_eq_true', Bool.not_eq_false', Bool.not_eq_eq_eq_not, Bool.not_true, Bool.not_false, ne_eq, Decidable.not_not, Int.not_lt, Int.not_le, gt_iff_lt, ge_iff_le] at h1
      simp at h1
    · skip
      refine WPC.skip ?_
      refine thenQ_n ?_
      refine WPC.seq ?_
      refine WPC.seqR ?_
      refine stp ?_
      refine WPL.nil ?_
      refine WPC.block ?_
      refine WPC.loopS (fun m e Γ => ∃ (k b : Nat) (d : DK) (j : JN), m = ops.length - k ∧ k ≤ ops.length ∧ Inv n (k + 1) d j ∧ e = [(0, .int .i64 (n : Int)), (1, .slice a ops.length c), (6, .pointer (some ⟨db, 0, none⟩)), (7, .pointer (some ⟨b, 0, none⟩)), (8, .int .i64 (k : Int))] ∧ Γ = [jour b db j, disk db d, sl false a (ops.flatMap encO), tblA, D]) (ops.length) ⟨0, b, d, j, rfl, by omega, hI, rfl, rfl⟩ sbb Imp.pk ?_
      clear h1 hI
      rintro m e Γ ⟨k, b, d, j, rfl, hk, hI, rfl, rfl⟩
      refine WPC.seq ?_
      refine WPC.seqR ?_
      iterate 4 refine stp ?_
      refine WPL.nil ?_
      refine WPC.cond rfl (fun h2 => ?_) (fun h2 => ?_)
      · simp only [decide_eq_true_eq, Int.ofNat_lt] at h2
        have hp : Pl a := hs.at (by omega) (by omega)
        obtain ⟨o, ho⟩ : ∃ o, ops[k]? = some o := ⟨ops[k], by simp [h2]⟩
        have hDo := hops o (List.mem_of_getElem? ho)
        have hbn := hDo.1.n
        have hbo := hDo.1
        unfold BS.ok at hbo
        rw [hbn] at hbo
        have hpn := hDo.2.1.n
        have hpo := hDo.2.1
        unfold IS.ok at hpo
        rw [hpn] at hpo
        have hT : k + 1 + 1 ≤ 1000 := by omega
        have hpl := hI.pl
        have hok := hI.ok
        have hjo := hI.jok
        have hnx := hI.next_lt
        have eb : bsV o.b = .slice o.b.a o.b.bs.length o.b.c := by simp only [bsV, hbn]
        refine WPC.skip ?_
        refine thenQ_n ?_
        refine WPC.seq ?_
        refine WPC.block ?_
        refine WPC.seq ?_
        refine WPC.seqR ?_
        iterate 2 refine stp ?_
        refine L_s (q_idxN (i := k) sl_sl_pursuivantlaw06_Op rfl rfl h2 hp) rfl ?_
        refine stp ?_
        refine L_s (show Q1 _ _ _ _ (.int .i64 o.do_) from q_ldFlat1 (k := 4) (i := k) (j := 0) (e := o) (enc := encO) ld_int rfl mm encO_len ho (by omega) rfl) rfl ?_
        refine WPL.nil ?_
        refine WPC.midS (fun e Γ => ∃ (b : Nat) (d : DK) (j : JN), Inv n (k + 1 + 1) d j ∧ e = [(0, .int .i64 (n : Int)), (1, .slice a ops.length c), (6, .pointer (some ⟨db, 0, none⟩)), (7, .pointer (some ⟨b, 0, none⟩)), (8, .int .i64 (k : Int))] ∧ Γ = [jour b db j, disk db d, sl false a (ops.flatMap encO), tblA, D]) ?_ ?_
        · refine WPC.block ?_
          refine WPC.seqR ?_
          iterate 2 refine stp ?_
          refine WPL.nil ?_
          refine WPC.cond rfl (fun h3 => ?_) (fun h3 => ?_)
          · skip
            refine WPC.region ?_
            iterate 3 refine stp ?_
            refine L_s (q_idxN (i := k) sl_sl_pursuivantlaw06_Op rfl rfl h2 hp) rfl ?_
            refine stp ?_
            refine L_s (show Q1 _ _ _ _ (bsV o.b) from q_ldFlat1 (k := 4) (i := k) (j := 2) (e := o) (enc := encO) ld_sl_uint8 rfl mm encO_len ho (by omega) rfl) rfl ?_
            rw [eb]
            refine WPL.imp ((Imp.pk (Δ := [D, jour b db j, disk db d, sl false a (ops.flatMap encO), tblA])).trans (hDo.2.2.1 _)) ?_
            refine kall rfl (c_JAppend hjo hok (by omega) hbo) ?_
            rintro _ _ ⟨rfl, rfl⟩
            have hI2 := hI.append hT o.b.bs
            refine WPL.nil ?_
            refine blockQ_n ?_
            refine thenQ_n ?_
            exact ⟨rfl, _, _, ⟨_, _, _, hI2, rfl, rfl⟩, sbb, Imp.pk⟩
          · skip
            refine WPC.seqR ?_
            iterate 2 refine stp ?_
            refine WPL.nil ?_
            refine WPC.cond rfl (fun h4 => ?_) (fun h4 => ?_)
            · skip
              refine WPC.region ?_
              refine stp ?_
              refine kall rfl (c_JSync hok (by omega)) ?_
              rintro _ _ ⟨rfl, rfl⟩
              have hI2 := hI.sync hT
              refine WPL.nil ?_
              refine blockQ_n ?_
              refine thenQ_n ?_
              exact ⟨rfl, _, _, ⟨_, _, _, hI2, rfl, rfl⟩, sbb, Imp.pk⟩
            · skip
              refine WPC.seqR ?_
              iterate 2 refine stp ?_
              refine WPL.nil ?_
              refine WPC.cond rfl (fun h5 => ?_) (fun h5 => ?_)
              · skip
                refine WPC.region ?_
                iterate 3 refine stp ?_
                refine L_s (q_idxN (i := k) sl_sl_pursuivantlaw06_Op rfl rfl h2 hp) rfl ?_
                refine stp ?_
                refine L_s (show Q1 _ _ _ _ (.int .i64 o.n) from q_ldFlat1 (k := 4) (i := k) (j := 1) (e := o) (enc := encO) ld_int rfl mm encO_len ho (by omega) rfl) rfl ?_
                refine kall rfl (c_JTrim hjo hok (by omega) hnx) ?_
                rintro _ _ ⟨rfl, rfl⟩
                have hI2 := hI.trim hT o.n
                refine WPL.nil ?_
                refine blockQ_n ?_
                refine thenQ_n ?_
                exact ⟨rfl, _, _, ⟨_, _, _, hI2, rfl, rfl⟩, sbb, Imp.pk⟩
              · skip
                refine WPC.seqR ?_
                iterate 2 refine stp ?_
                refine WPL.nil ?_
                refine WPC.cond rfl (fun h6 => ?_) (fun h6 => ?_)
                · skip
                  refine WPC.region ?_
                  iterate 3 refine stp ?_
                  refine L_s (q_idxN (i := k) sl_sl_pursuivantlaw06_Op rfl rfl h2 hp) rfl ?_
                  refine stp ?_
                  refine L_s (show Q1 _ _ _ _ (.int .i64 o.n) from q_ldFlat1 (k := 4) (i := k) (j := 1) (e := o) (enc := encO) ld_int rfl mm encO_len ho (by omega) rfl) rfl ?_
                  refine kall rfl (c_JCut hjo hok (by omega) hnx) ?_
                  rintro _ _ ⟨rfl, rfl⟩
                  have hI2 := hI.cut hT o.n
                  refine WPL.nil ?_
                  refine blockQ_n ?_
                  refine thenQ_n ?_
                  exact ⟨rfl, _, _, ⟨_, _, _, hI2, rfl, rfl⟩, sbb, Imp.pk⟩
                · skip
                  refine WPC.seqR ?_
                  iterate 2 refine stp ?_
                  refine WPL.nil ?_
                  refine WPC.cond rfl (fun h7 => ?_) (fun h7 => ?_)
                  · skip
                    refine WPC.seqR ?_
                    iterate 3 refine stp ?_
                    refine L_s (q_idxN (i := k) sl_sl_pursuivantlaw06_Op rfl rfl h2 hp) rfl ?_
                    refine stp ?_
                    refine L_s (show Q1 _ _ _ _ (.slice o.p.a o.p.n o.p.c) from q_ldFlat1 (k := 4) (i := k) (j := 3) (e := o) (enc := encO) ld_sl_int rfl mm encO_len ho (by omega) rfl) rfl ?_
                    rw [show Value.slice o.p.a o.p.n o.p.c = .slice o.p.a o.p.xs.length o.p.c by rw [hpn]]
                    refine WPL.imp ((Imp.pk (Δ := [D, jour b db j, disk db d, sl false a (ops.flatMap encO), tblA])).trans (hDo.2.2.2 _)) ?_
                    refine kall rfl (c_Crash hok (by omega) hpo) ?_
                    rintro _ _ ⟨rfl, rfl⟩
                    obtain ⟨d2, j2, ho2, hI2⟩ := hI.crash hT o.p.xs
                    refine WPL.nil ?_
                    refine WPC.region ?_
                    iterate 2 refine stp ?_
                    refine kall rfl (c_OpenJ hn (hI.clen _) (hok.crash _) (by rw [crash_pl]; omega) ho2) ?_
                    rintro _ _ ⟨b2, a2, c2, ys, rfl, -, -, -, rfl⟩
                    iterate 5 refine stp ?_
                    refine WPL.nil ?_
                    refine blockQ_n ?_
                    refine thenQ_n ?_
                    exact ⟨rfl, _, _, ⟨_, _, _, hI2, rfl, rfl⟩, sbb, Imp.pk⟩
                  · skip
                    refine WPC.seqR ?_
                    iterate 2 refine stp ?_
                    refine WPL.nil ?_
                    refine WPC.cond rfl (fun h8 => ?_) (fun h8 => ?_)
                    · skip
                      refine WPC.region ?_
                      iterate 2 refine stp ?_
                      obtain ⟨d2, j2, ho2, hI2⟩ := hI.again hT
                      refine kall rfl (c_OpenJ hn hI.len hok (by omega) ho2) ?_
                      rintro _ _ ⟨b2, a2, c2, ys, rfl, -, -, -, rfl⟩
                      iterate 5 refine stp ?_
                      refine WPL.nil ?_
                      refine blockQ_n ?_
                      refine thenQ_n ?_
                      exact ⟨rfl, _, _, ⟨_, _, _, hI2, rfl, rfl⟩, sbb, Imp.pk⟩
                    · have hI2 := hI.mono (Nat.le_succ _) hT
                      refine WPC.skip ?_
                      refine blockQ_n ?_
                      refine thenQ_n ?_
                      exact ⟨rfl, _, _, ⟨_, _, _, hI2, rfl, rfl⟩, sbb, Imp.pk⟩
        · clear hI hjo hnx hok hpl
          rintro e Γ ⟨b, d, j, hI, rfl, rfl⟩
          refine WPC.seqR ?_
          iterate 2 refine stp ?_
          refine WPL.nil ?_
          refine WPC.cond rfl (fun h9 => ?_) (fun h9 => ?_)
          · try simp only [decide_eq_true_eq, decide_eq_false_iff_not, beq_iff_eq, bne_iff_ne, beq_eq_false_iff_ne, bne_eq_false_iff_eq, Bool.not_eq_true', Bool.not_eq_false', Bool.not_eq_eq_eq_not, Bool.not_true, Bool.not_false, ne_eq, Decidable.not_not, Int.not_lt, Int.not_le, gt_iff_lt, ge_iff_le] at h9
            simp at h9
          · skip
            refine WPC.skip ?_
            refine blockQ_n ?_
            refine thenQ_n ?_
            refine WPC.region ?_
            iterate 3 refine stp ?_
            refine WPL.nil ?_
            refine thenQ_n ?_
            exact ⟨rfl, _, _, _, by omega, ⟨k + 1, _, _, _, rfl, by omega, hI, rfl, rfl⟩, sbb, Imp.pk⟩
      · skip
        refine WPC.exit ?_
        refine thenQ_e ?_
        refine thenQ_e ?_
        refine blockQ_here ?_
        refine thenQ_n ?_
        refine WPC.seqR ?_
        iterate 4 refine stp ?_
        refine WPL.nil ?_
        refine WPC.ret ?_
        exact endR_r rfl (.tmp rfl (.tmp rfl .nil)) Imp.pk ⟨db, b, d, j, k + 1, by omega, rfl, hI, rfl⟩

end Go.Sl
/- The chapter's examples, in the plain model. -/
namespace Go.Sl
open Go
def ap (p : DK × JN) (b : List By) : DK × JN := ((jappend p.1 p.2 b).1, (jappend p.1 p.2 b).2.1)
def apE (p : DK × JN) (b : List By) : Int := (jappend p.1 p.2 b).2.2
def tp (p : DK × JN) (k : Int) : DK × JN := ((jtrim p.1 p.2 k).1, (jtrim p.1 p.2 k).2.1)
def tpE (p : DK × JN) (k : Int) : Int := (jtrim p.1 p.2 k).2.2
def cp (p : DK × JN) (k : Int) : DK × JN := ((jcut p.1 p.2 k).1, (jcut p.1 p.2 k).2.1)
def cpE (p : DK × JN) (k : Int) : Int := (jcut p.1 p.2 k).2.2
def toP (x : DK × Option JN × Int) : DK × JN := (x.1, x.2.1.getD (JN.fresh 1 4))
def a0 : DK × JN := toP (jopen0 (DK.new 20) 1 4)
def xA : DK × JN := ap (ap a0 [97]) [98]
def xB : DK × JN := (xA.1.sync, xA.2)
def xC : DK × JN := ap xB [99]
def xO : DK × Option JN × Int := jopen0 (xC.1.crash []) 1 4
def yC : DK × JN := ap xA [99]
def yO : DK × Option JN × Int := jopen0 (yC.1.crash [0, 64, 64]) 1 4
def zA : DK × JN := ap yC [100]
def zC : DK × JN := tp (ap zA [101]) 1
def wC : DK × JN := cp yC 2
def txt (j : JN) : ByteArray := (j.held.map (·.2)).foldl (fun s b => s ++ strOf b) .empty
theorem xO_held : xO.2.1.map (fun j => j.held.map (·.2)) = some [[97], [98]] := by decide +kernel
theorem yO_held : yO.2.1.map (fun j => j.held.map (·.2)) = some [] := by decide +kernel
theorem z_err : apE zA [101] = 42 ∧ tpE (ap zA [101]) 1 = 0 ∧ apE zC [101] = 0 := by decide +kernel
theorem z_held : (ap zC [101]).2.held.map (·.2) = [[98], [99], [100], [101]] := by decide +kernel
theorem w_err : cpE yC 2 = 0 := by decide +kernel
theorem w_held : (ap wC [100]).2.held.map (·.2) = [[97], [100]] := by decide +kernel
theorem txt_size (l : List (List By)) : ∀ s : ByteArray, (l.foldl (fun s b => s ++ strOf b) s).size = s.size + (l.map List.length).sum := by
  induction l with
  | nil => intro s; simp
  | cons x l ih => intro s; rw [List.foldl_cons, ih, ByteArray.size_append, strOf_size]; simp; omega
theorem txt_bound : ∀ (l : List (List By)) (s : ByteArray), (∀ x ∈ l, x.length ≤ 1000) → (l.foldl (fun s b => s ++ strOf b) s).size ≤ s.size + l.length * 1000
  | [], s, _ => by simp
  | x :: l, s, h => by
    rw [List.foldl_cons]
    refine Nat.le_trans (txt_bound l _ fun y hy => h y (List.mem_cons_of_mem _ hy)) ?_
    have := h x (List.mem_cons_self ..)
    rw [ByteArray.size_append, strOf_size, List.length_cons]; omega
theorem txt_eq {j : JN} {l : List (List By)} (h : j.held.map (·.2) = l) : txt j = l.foldl (fun s b => s ++ strOf b) .empty := by unfold txt; rw [h]
theorem a0_eq {d : DK} {j : JN} (h : jopen0 (DK.new 20) 1 4 = (d, some j, 0)) : a0 = (d, j) := by unfold a0 toP; rw [h]; rfl
theorem a0_inv : Inv 4 1 a0.1 a0.2 := by
  obtain ⟨d, j, h, hI⟩ := Inv.new (n := 4) (by omega)
  rw [a0_eq h]; exact hI
theorem ap_inv {p : DK × JN} {T : Nat} (h : Inv 4 T p.1 p.2) (hT : T + 1 ≤ 1000) (b : List By) : Inv 4 (T + 1) (ap p b).1 (ap p b).2 := h.append hT b
theorem xA_inv : Inv 4 3 xA.1 xA.2 := ap_inv (ap_inv a0_inv (by omega) _) (by omega) _
theorem xB_inv : Inv 4 4 xB.1 xB.2 := xA_inv.sync (by omega)
theorem xC_inv : Inv 4 5 xC.1 xC.2 := ap_inv xB_inv (by omega) _
theorem xO_inv : ∃ d j, jopen0 (xC.1.crash []) 1 4 = (d, some j, 0) ∧ Inv 4 6 d j ∧ j.held.map (·.2) = [[97], [98]] := by
  obtain ⟨d, j, h, hI⟩ := xC_inv.crash (by omega) []
  have h2 := xO_held
  have h3 : xO = (d, some j, 0) := h
  rw [h3] at h2
  exact ⟨d, j, h3, hI, by simpa using h2⟩
theorem yC_inv : Inv 4 4 yC.1 yC.2 := ap_inv xA_inv (by omega) _
theorem yO_inv : ∃ d j, jopen0 (yC.1.crash [0, 64, 64]) 1 4 = (d, some j, 0) ∧ Inv 4 5 d j ∧ j.held = [] := by
  obtain ⟨d, j, h, hI⟩ := yC_inv.crash (by omega) [0, 64, 64]
  have h2 := yO_held
  have h3 : yO = (d, some j, 0) := h
  rw [h3] at h2
  exact ⟨d, j, h3, hI, by simpa using h2⟩
theorem zA_inv : Inv 4 5 zA.1 zA.2 := ap_inv yC_inv (by omega) _
theorem zB_inv : Inv 4 6 (ap zA [101]).1 (ap zA [101]).2 := ap_inv zA_inv (by omega) _
theorem tp_inv {p : DK × JN} {T : Nat} (h : Inv 4 T p.1 p.2) (hT : T + 1 ≤ 1000) (k : Int) : Inv 4 (T + 1) (tp p k).1 (tp p k).2 := h.trim hT k
theorem cp_inv {p : DK × JN} {T : Nat} (h : Inv 4 T p.1 p.2) (hT : T + 1 ≤ 1000) (k : Int) : Inv 4 (T + 1) (cp p k).1 (cp p k).2 := h.cut hT k
theorem zC_inv : Inv 4 7 zC.1 zC.2 := tp_inv zB_inv (by omega) 1
theorem zD_inv : Inv 4 8 (ap zC [101]).1 (ap zC [101]).2 := ap_inv zC_inv (by omega) _
theorem wC_inv : Inv 4 5 wC.1 wC.2 := cp_inv yC_inv (by omega) 2
def yN : Nat → DK × JN
  | 0 => a0
  | k + 1 => ap (yN k) [by_ (97 + k)]
theorem yN_inv : ∀ k, k ≤ 100 → Inv 4 (k + 1) (yN k).1 (yN k).2
  | 0, _ => a0_inv
  | k + 1, h => ap_inv (yN_inv k (by omega)) (by omega) _
theorem yN_three : yN 3 = yC := rfl
theorem yN_four : yN 4 = zA := rfl
theorem e_xA : ap (ap a0 [97]) [98] = xA := rfl
theorem e_xB : (xA.1.sync, xA.2) = xB := rfl
theorem e_xC : ap xB [99] = xC := rfl
theorem e_yN (k : Nat) : ap (yN k) [by_ (97 + k)] = yN (k + 1) := rfl
theorem yN_zero : yN 0 = a0 := rfl
theorem e_zC : tp (ap zA [101]) 1 = zC := rfl
theorem e_wC : cp yC 2 = wC := rfl
theorem txt_ab {j : JN} (h : j.held.map (·.2) = [[97], [98]]) : ((txt j).toList == (ByteArray.mk #[97, 98]).toList) = true := by rw [txt_eq h]; decide +kernel
theorem txt_z : ((txt (ap zC [101]).2).toList == (ByteArray.mk #[98, 99, 100, 101]).toList) = true := by rw [txt_eq z_held]; decide +kernel
theorem txt_w : ((txt (ap wC [100]).2).toList == (ByteArray.mk #[97, 100]).toList) = true := by rw [txt_eq w_held]; decide +kernel
theorem wD_inv : Inv 4 6 (ap wC [100]).1 (ap wC [100]).2 := ap_inv wC_inv (by omega) _
end Go.Sl
/- Walks: all records, texts. -/
namespace Go.Sl
open Go Go.RowKit Go.Proofs
set_option linter.unusedSimpArgs false
set_option linter.unusedVariables false
attribute [local irreducible] faB szB ldB zB zL slB mkB arB plB intB cells objc star stars buf slv grp whole Sat WPC WPL WPA WPO WPQ Trip Q1 E1 S1 C1

theorem c_All {b db : Nat} {j : JN} (hb : ∀ x ∈ j.held, x.2.length ≤ 1000) (hn : j.held.length ≤ 1000) : Trip Tryd.prog 11 #[.pointer (some ⟨b, 0, none⟩)] [jour b db j] (fun r Δ => ∃ (a : Option Addr) (c : Nat) (ys : List BS), r = .slice a ys.length c ∧ Sok 1 a ys.length c (ys.map bsV) ∧ ys.map BS.bs = j.held.map (·.2) ∧ (∀ y ∈ ys, y.ok) ∧ Δ = [jour b db j, buf 1 a ys.length c (ys.map bsV), bytes ys]) := by
  refine jour_open fun L hL => ?_
  refine Trip.imp (Imp.pk (Δ := [buf 2 L.a L.rs.length L.c (L.rs.flatMap encR), cells true b 0 (jourC db j L), bytes (L.rs.map (fun q : JR => q.x))])) (Trip.bufOpen fun sp hs hsp => ?_)
  have hlen := hL.len
  have hh : ∀ r ∈ L.rs, r.x.bs.length ≤ 1000 := fun r hr => hb (jrP r) (by rw [← hL.held]; exact List.mem_map_of_mem hr)
  have hc := (c_All_ (b := b) (db := db) hL (by omega) hh hs).frame [cells true (blk L.a) (off L.a + (L.rs.flatMap encR).length) sp, bytes (L.rs.map (fun q : JR => q.x))]
  refine Trip.imp (Imp.pk (Δ := [cells true b 0 (jourC db j L), sl true L.a (L.rs.flatMap encR), bytes (L.rs.map (fun q : JR => q.x)), cells true (blk L.a) (off L.a + (L.rs.flatMap encR).length) sp, bytes (L.rs.map (fun q : JR => q.x))])) (Trip.post hc ?_)
  rintro v _ ⟨_, ⟨a, c, ys, rfl, h1, h2, h3, rfl⟩, rfl⟩
  refine ⟨_, ⟨a, c, ys, rfl, h1, h2, h3, rfl⟩, ?_⟩
  refine Imp.trans (Imp.pk (Δ := [sl true L.a (L.rs.flatMap encR), cells true (blk L.a) (off L.a + (L.rs.flatMap encR).length) sp, cells true b 0 (jourC db j L), bytes (L.rs.map (fun q : JR => q.x)), buf 1 a ys.length c (ys.map bsV), bytes ys])) ((Imp.bufClose hs hsp).trans (Imp.trans (Imp.pk (Δ := [cells true b 0 (jourC db j L), buf 2 L.a L.rs.length L.c (L.rs.flatMap encR), bytes (L.rs.map (fun q : JR => q.x)), buf 1 a ys.length c (ys.map bsV), bytes ys])) (jour_close (b := b) (db := db) (j := j) L hL (Γ := [buf 1 a ys.length c (ys.map bsV), bytes ys]))))

theorem c_texts {b db : Nat} {j : JN} (hb : ∀ x ∈ j.held, x.2.length ≤ 1000) (hn : j.held.length ≤ 1000) : Trip Tryd.prog 31 #[.pointer (some ⟨b, 0, none⟩)] [jour b db j] fun r Δ => r = .string (txt j) ∧ Δ = [jour b db j] := by
  refine Trip.start 22 [.tmp 2] [(0, .pointer (some ⟨b, 0, none⟩))] Tryd.func31 rfl Tryd.ntmps31 rfl ⟨rfl, trivial⟩ rfl ?_
  refine WPC.seqR ?_
  refine stp ?_
  refine WPL.nil ?_
  refine WPC.seqR ?_
  refine stp ?_
  refine WPL.nil ?_
  refine WPC.seqR ?_
  refine stp ?_
  refine kall rfl (c_All hb hn) ?_
  rintro _ _ ⟨a, c, ys, rfl, hs, hys, hyo, rfl⟩
  refine WPL.imp ((Imp.pk (Δ := [buf 1 a ys.length c (ys.map bsV), jour b db j, bytes ys])).trans Imp.bufRo) ?_
  refine WPL.pure fun _ => ?_
  have hyl : ys.length = j.held.length := by have := congrArg List.length hys; simpa using this
  have hyb : ∀ x ∈ ys.map BS.bs, x.length ≤ 1000 := by rw [hys]; intro x hx; obtain ⟨y, hy, rfl⟩ := List.mem_map.1 hx; exact hb y hy
  refine stp ?_
  refine WPL.nil ?_
  refine WPC.seq ?_
  refine WPC.seqR ?_
  refine stp ?_
  refine WPL.nil ?_
  refine WPC.block ?_
  refine WPC.loopS (fun m e Γ => ∃ k : Nat, m = ys.length - k ∧ k ≤ ys.length ∧ e = [(3, .string (((ys.map BS.bs).take k).foldl (fun s b => s ++ strOf b) .empty)), (4, .slice a ys.length c), (5, .int .i64 (k : Int))] ∧ Γ = [jour b db j, sl false a (ys.map bsV), bytes ys]) (ys.length) ⟨0, rfl, by omega, rfl, rfl⟩ sbb Imp.pk ?_
  rintro m e Γ ⟨k, rfl, hk, rfl, rfl⟩
  refine WPC.seq ?_
  refine WPC.seqR ?_
  iterate 4 refine stp ?_
  refine WPL.nil ?_
  refine WPC.cond rfl (fun h0 => ?_) (fun h0 => ?_)
  · simp only [decide_eq_true_eq, Int.ofNat_lt] at h0
    have hp : Pl a := hs.at (by omega) (by omega)
    obtain ⟨x, hx1⟩ : ∃ x, ys[k]? = some x := ⟨ys[k], by simp [h0]⟩
    have hxm := List.mem_of_getElem? hx1
    have hxo := hyo x hxm
    have hts : ((ys.map BS.bs).take (k + 1)).foldl (fun s b => s ++ strOf b) .empty = (((ys.map BS.bs).take k).foldl (fun s b => s ++ strOf b) .empty) ++ strOf x.bs := by rw [take_succ (show (ys.map BS.bs)[k]? = some x.bs by simp [hx1]), List.foldl_append]; rfl
    have hb1 := txt_bound ((ys.map BS.bs).take k) .empty (fun y hy => hyb y (List.mem_of_mem_take hy))
    have hb2 := strOf_size x.bs
    have hb3 := hyb x.bs (List.mem_map_of_mem hxm)
    have hb4 : ((ys.map BS.bs).take k).length ≤ 1000 := by rw [List.length_take, List.length_map]; omega
    have hb5 : ByteArray.empty.size = 0 := rfl
    refine WPC.skip ?_
    refine thenQ_n ?_
    refine WPC.seq ?_
    refine WPC.block ?_
    refine WPC.region ?_
    iterate 3 refine stp ?_
    refine L_s (q_idxN (i := k) sl_sl_sl_uint8 rfl rfl h0 hp) rfl ?_
    refine L_s (show Q1 _ _ _ _ (bsV x) from q_ldMap (f := bsV) ld_sl_uint8 rfl mm hx1) rfl ?_
    refine WPL.imp ((Imp.pk (Δ := [bytes ys, jour b db j, sl false a (ys.map bsV)])).trans (bytes_one hxm)) ?_
    refine L_s (q_bytesStr (p := false) (xs := x.bs) un_sl_uint8 un_uint8 un_string hxo mm rfl) rfl ?_
    refine L_s (q_strCat rfl rfl (by omega)) rfl ?_
    rw [← hts]
    refine stp ?_
    refine WPL.nil ?_
    refine blockQ_n ?_
    refine thenQ_n ?_
    refine WPC.region ?_
    iterate 3 refine stp ?_
    refine WPL.nil ?_
    refine thenQ_n ?_
    exact ⟨rfl, _, _, _, by omega, ⟨k + 1, rfl, by omega, rfl, rfl⟩, sbb, Imp.pk⟩
  · simp only [decide_eq_false_iff_not, Int.ofNat_lt] at h0
    have hk2 : k = ys.length := by omega
    refine WPC.exit ?_
    refine thenQ_e ?_
    refine thenQ_e ?_
    refine blockQ_here ?_
    refine thenQ_n ?_
    refine WPC.seqR ?_
    iterate 2 refine stp ?_
    refine WPL.nil ?_
    refine WPC.ret ?_
    have he : (((ys.map BS.bs).take k).foldl (fun s b => s ++ strOf b) .empty) = txt j := by rw [hk2, List.take_of_length_le (by simp), hys]; rfl
    rw [he]
    exact endR_r rfl (.tmp rfl .nil) Imp.pk ⟨rfl, rfl⟩

end Go.Sl
/- Walks: the examples. -/
namespace Go.Sl
open Go Go.RowKit Go.Proofs
set_option linter.unusedSimpArgs false
set_option linter.unusedVariables false
attribute [local irreducible] faB szB ldB zB zL slB mkB arB plB intB cells objc star stars buf slv grp whole Sat WPC WPL WPA WPO WPQ Trip Q1 E1 S1 C1

theorem c_openA : Trip Tryd.prog 30 #[.int .i64 4] [tblA] (fun r Δ => ∃ db b : Nat, r = .tuple #[.pointer (some ⟨db, 0, none⟩), .pointer (some ⟨b, 0, none⟩)] ∧ Δ = [jour b db a0.2, disk db a0.1]) :=
  (c_opened (n := 4) (by omega)).mono fun v Δ ⟨db, b, d, j, h1, h2, h3, h4⟩ => ⟨db, b, h1, by rw [a0_eq h2]; exact h4⟩

theorem c_ap {b db bA T : Nat} {p q : DK × JN} (xs : List By) {vs : List Value} (hv : vs = xs.map u8) (hI : Inv 4 T p.1 p.2) (hq : ap p xs = q) : Trip Tryd.prog 12 #[.pointer (some ⟨b, 0, none⟩), .slice (some ⟨bA, 0, none⟩) xs.length xs.length] [jour b db p.2, disk db p.1, tblA, cells true bA 0 vs] (fun r Δ => r = .int .i64 (apE p xs) ∧ Δ = [jour b db q.2, disk db q.1]) := by
  subst hv hq
  have hpl := hI.pl
  refine Trip.imp ((Imp.pk (Δ := [cells true bA 0 (xs.map u8), jour b db p.2, disk db p.1, tblA])).trans ((Imp.freeze _ _ _ _).trans Imp.pk)) (c_JAppend (a := some ⟨bA, 0, none⟩) (c := xs.length) hI.jok hI.ok (by omega) ⟨by simp, Nat.le_refl _, .inr (Pl.mk _ _)⟩)

theorem c_syP {b db T : Nat} {p q : DK × JN} (hI : Inv 4 T p.1 p.2) (hq : (p.1.sync, p.2) = q) : Trip Tryd.prog 10 #[.pointer (some ⟨b, 0, none⟩)] [jour b db p.2, disk db p.1] (fun r Δ => r = .tuple #[] ∧ Δ = [jour b db q.2, disk db q.1]) := by
  subst hq
  have hpl := hI.pl
  exact c_JSync hI.ok (by omega)

theorem c_tp {b db T : Nat} {p q : DK × JN} (k : Int) (hI : Inv 4 T p.1 p.2) (hq : tp p k = q) : Trip Tryd.prog 16 #[.pointer (some ⟨b, 0, none⟩), .int .i64 k] [jour b db p.2, disk db p.1, tblA] (fun r Δ => r = .int .i64 (tpE p k) ∧ Δ = [jour b db q.2, disk db q.1]) := by
  subst hq
  have hpl := hI.pl
  exact c_JTrim hI.jok hI.ok (by omega) hI.next_lt

theorem c_cp {b db T : Nat} {p q : DK × JN} (k : Int) (hI : Inv 4 T p.1 p.2) (hq : cp p k = q) : Trip Tryd.prog 18 #[.pointer (some ⟨b, 0, none⟩), .int .i64 k] [jour b db p.2, disk db p.1, tblA] (fun r Δ => r = .int .i64 (cpE p k) ∧ Δ = [jour b db q.2, disk db q.1]) := by
  subst hq
  have hpl := hI.pl
  exact c_JCut hI.jok hI.ok (by omega) hI.next_lt

attribute [local irreducible] a0 xA xB xC yC zA zC wC ap tp cp apE tpE cpE yN jopen0 txt
theorem c_awake  : Trip Tryd.prog 8 #[] [tblA] fun r Δ => r = .bool true ∧ Δ = [] := by
  refine Trip.start 182 [.tmp 0] [] Tryd.func8 rfl Tryd.ntmps8 rfl trivial rfl ?_
  refine WPC.seqR ?_
  refine stp ?_
  refine WPL.nil ?_
  refine WPC.seqR ?_
  refine kall rfl c_openA ?_
  rintro _ _ ⟨db1, b1, rfl, rfl⟩
  iterate 5 refine stp ?_
  refine WPL.nil ?_
  refine WPC.seqR ?_
  refine kall rfl c_openA ?_
  rintro _ _ ⟨db2, b2, rfl, rfl⟩
  iterate 5 refine stp ?_
  refine WPL.nil ?_
  refine WPC.seqR ?_
  refine kall rfl c_openA ?_
  rintro _ _ ⟨db3, b3, rfl, rfl⟩
  iterate 5 refine stp ?_
  refine WPL.nil ?_
  refine WPC.seqR ?_
  refine kall rfl c_openA ?_
  rintro _ _ ⟨db4, b4, rfl, rfl⟩
  iterate 5 refine stp ?_
  refine WPL.nil ?_
  refine WPC.prune [(0, _), (1, _), (2, _), (3, _), (4, _), (6, _), (8, _)] sbb ?_
  refine WPC.seq ?_
  refine WPC.seqR ?_
  iterate 3 refine stp ?_
  apply WPL.joinO (e' := [(0, _), (1, _), (2, _), (3, _), (4, _), (6, _), (8, _)]) 38 41 3 rfl
  · intro g5_2
    try simp only [decide_eq_true_eq, decide_eq_false_iff_not, beq_iff_eq, bne_iff_ne, beq_eq_false_iff_ne, bne_eq_false_iff_eq, Bool.not_eq_true', Bool.not_eq_false', Bool.not_eq_eq_eq_not, Bool.not_true, Bool.not_false, ne_eq, Decidable.not_not, Int.not_lt, Int.not_le, gt_iff_lt, ge_iff_le] at g5_2
    refine L_no rfl rfl rfl rfl ?_
    refine L_no rfl rfl rfl rfl ?_
    refine stp ?_
    first | exact WPL.jn rfl rfl sbb | exact WPL.jnI rfl rfl sbb Imp.pk
  · intro g5_2
    try simp only [decide_eq_true_eq, decide_eq_false_iff_not, beq_iff_eq, bne_iff_ne, beq_eq_false_iff_ne, bne_eq_false_iff_eq, Bool.not_eq_true', Bool.not_eq_false', Bool.not_eq_eq_eq_not, Bool.not_true, Bool.not_false, ne_eq, Decidable.not_not, Int.not_lt, Int.not_le, gt_iff_lt, ge_iff_le] at g5_2
    iterate 2 refine stpY rfl rfl ?_
    refine stp ?_
    first | exact WPL.jn rfl rfl sbb | exact WPL.jnI rfl rfl sbb Imp.pk
  refine stp ?_
  apply WPL.joinO (e' := [(0, _), (1, _), (2, _), (3, _), (4, _), (6, _), (8, _)]) 42 45 3 rfl
  · intro g5_6
    try simp only [decide_eq_true_eq, decide_eq_false_iff_not, beq_iff_eq, bne_iff_ne, beq_eq_false_iff_ne, bne_eq_false_iff_eq, Bool.not_eq_true', Bool.not_eq_false', Bool.not_eq_eq_eq_not, Bool.not_true, Bool.not_false, ne_eq, Decidable.not_not, Int.not_lt, Int.not_le, gt_iff_lt, ge_iff_le] at g5_6
    refine L_no rfl rfl rfl rfl ?_
    refine L_no rfl rfl rfl rfl ?_
    refine stp ?_
    first | exact WPL.jn rfl rfl sbb | exact WPL.jnI rfl rfl sbb Imp.pk
  · intro g5_6
    try simp only [decide_eq_true_eq, decide_eq_false_iff_not, beq_iff_eq, bne_iff_ne, beq_eq_false_iff_ne, bne_eq_false_iff_eq, Bool.not_eq_true', Bool.not_eq_false', Bool.not_eq_eq_eq_not, Bool.not_true, Bool.not_false, ne_eq, Decidable.not_not, Int.not_lt, Int.not_le, gt_iff_lt, ge_iff_le] at g5_6
    iterate 2 refine stpY rfl rfl ?_
    refine stp ?_
    first | exact WPL.jn rfl rfl sbb | exact WPL.jnI rfl rfl sbb Imp.pk
  refine stp ?_
  apply WPL.joinO (e' := [(0, _), (1, _), (2, _), (3, _), (4, _), (6, _), (8, _)]) 46 49 3 rfl
  · intro g5_10
    try simp only [decide_eq_true_eq, decide_eq_false_iff_not, beq_iff_eq, bne_iff_ne, beq_eq_false_iff_ne, bne_eq_false_iff_eq, Bool.not_eq_true', Bool.not_eq_false', Bool.not_eq_eq_eq_not, Bool.not_true, Bool.not_false, ne_eq, Decidable.not_not, Int.not_lt, Int.not_le, gt_iff_lt, ge_iff_le] at g5_10
    refine L_no rfl rfl rfl rfl ?_
    refine L_no rfl rfl rfl rfl ?_
    refine stp ?_
    first | exact WPL.jn rfl rfl sbb | exact WPL.jnI rfl rfl sbb Imp.pk
  · intro g5_10
    try simp only [decide_eq_true_eq, decide_eq_false_iff_not, beq_iff_eq, bne_iff_ne, beq_eq_false_iff_ne, bne_eq_false_iff_eq, Bool.not_eq_true', Bool.not_eq_false', Bool.not_eq_eq_eq_not, Bool.not_true, Bool.not_false, ne_eq, Decidable.not_not, Int.not_lt, Int.not_le, gt_iff_lt, ge_iff_le] at g5_10
    iterate 2 refine stpY rfl rfl ?_
    refine stp ?_
    first | exact WPL.jn rfl rfl sbb | exact WPL.jnI rfl rfl sbb Imp.pk
  refine stp ?_
  apply WPL.joinO (e' := [(0, _), (1, _), (2, _), (3, _), (4, _), (6, _), (8, _)]) 50 53 3 rfl
  · intro g5_14
    try simp only [decide_eq_true_eq, decide_eq_false_iff_not, beq_iff_eq, bne_iff_ne, beq_eq_false_iff_ne, bne_eq_false_iff_eq, Bool.not_eq_true', Bool.not_eq_false', Bool.not_eq_eq_eq_not, Bool.not_true, Bool.not_false, ne_eq, Decidable.not_not, Int.not_lt, Int.not_le, gt_iff_lt, ge_iff_le] at g5_14
    refine L_no rfl rfl rfl rfl ?_
    refine L_no rfl rfl rfl rfl ?_
    refine stp ?_
    first | exact WPL.jn rfl rfl sbb | exact WPL.jnI rfl rfl sbb Imp.pk
  · intro g5_14
    try simp only [decide_eq_true_eq, decide_eq_false_iff_not, beq_iff_eq, bne_iff_ne, beq_eq_false_iff_ne, bne_eq_false_iff_eq, Bool.not_eq_true', Bool.not_eq_false', Bool.not_eq_eq_eq_not, Bool.not_true, Bool.not_false, ne_eq, Decidable.not_not, Int.not_lt, Int.not_le, gt_iff_lt, ge_iff_le] at g5_14
    iterate 2 refine stpY rfl rfl ?_
    refine stp ?_
    first | exact WPL.jn rfl rfl sbb | exact WPL.jnI rfl rfl sbb Imp.pk
  refine stp ?_
  apply WPL.joinO (e' := [(0, _), (1, _), (2, _), (3, _), (4, _), (6, _), (8, _)]) 54 57 3 rfl
  · intro g5_18
    try simp only [decide_eq_true_eq, decide_eq_false_iff_not, beq_iff_eq, bne_iff_ne, beq_eq_false_iff_ne, bne_eq_false_iff_eq, Bool.not_eq_true', Bool.not_eq_false', Bool.not_eq_eq_eq_not, Bool.not_true, Bool.not_false, ne_eq, Decidable.not_not, Int.not_lt, Int.not_le, gt_iff_lt, ge_iff_le] at g5_18
    refine L_no rfl rfl rfl rfl ?_
    refine L_no rfl rfl rfl rfl ?_
    refine stp ?_
    first | exact WPL.jn rfl rfl sbb | exact WPL.jnI rfl rfl sbb Imp.pk
  · intro g5_18
    try simp only [decide_eq_true_eq, decide_eq_false_iff_not, beq_iff_eq, bne_iff_ne, beq_eq_false_iff_ne, bne_eq_false_iff_eq, Bool.not_eq_true', Bool.not_eq_false', Bool.not_eq_eq_eq_not, Bool.not_true, Bool.not_false, ne_eq, Decidable.not_not, Int.not_lt, Int.not_le, gt_iff_lt, ge_iff_le] at g5_18
    iterate 2 refine stpY rfl rfl ?_
    refine stp ?_
    first | exact WPL.jn rfl rfl sbb | exact WPL.jnI rfl rfl sbb Imp.pk
  refine WPL.nil ?_
  refine WPC.cond rfl (fun h0 => ?_) (fun h0 => ?_)
  · try simp only [decide_eq_true_eq, decide_eq_false_iff_not, beq_iff_eq, bne_iff_ne, beq_eq_false_iff_ne, bne_eq_false_iff_eq, Bool.not_eq_true', Bool.not_eq_false', Bool.not_eq_eq_eq_not, Bool.not_true, Bool.not_false, ne_eq, Decidable.not_not, Int.not_lt, Int.not_le, gt_iff_lt, ge_iff_le] at h0
    simp at h0
  · skip
    refine WPC.skip ?_
    refine thenQ_n ?_
    refine WPC.seqR ?_
    refine stp ?_
    refine nwb [_] fun bA => ?_
    refine kall rfl (c_ap (q := (ap a0 [97])) [97] (vs := [.int .u8 97]) rfl a0_inv rfl) ?_
    rintro _ _ ⟨rfl, rfl⟩
    refine WPL.nil ?_
    refine WPC.seqR ?_
    refine stp ?_
    refine nwb [_] fun bA2 => ?_
    refine kall rfl (c_ap (q := xA) [98] (vs := [.int .u8 98]) rfl (ap_inv a0_inv (by omega) _) e_xA) ?_
    rintro _ _ ⟨rfl, rfl⟩
    refine WPL.nil ?_
    refine WPC.seqR ?_
    refine stp ?_
    refine kall rfl (c_syP (q := xB) xA_inv e_xB) ?_
    rintro _ _ ⟨rfl, rfl⟩
    refine WPL.nil ?_
    refine WPC.seqR ?_
    refine stp ?_
    refine nwb [_] fun bA3 => ?_
    refine kall rfl (c_ap (q := xC) [99] (vs := [.int .u8 99]) rfl xB_inv e_xC) ?_
    rintro _ _ ⟨rfl, rfl⟩
    refine WPL.nil ?_
    refine WPC.seqR ?_
    refine stp ?_
    have hxpl := xC_inv.pl
    refine WPL.imp (Imp.slEmpty (p := false) (a := none)) ?_
    refine kall rfl (c_Crash (ps := []) (a := none) (c := 0) (q := false) xC_inv.ok (by omega) ⟨rfl, Nat.le_refl _, .inl rfl⟩) ?_
    rintro _ _ ⟨rfl, rfl⟩
    refine WPL.nil ?_
    refine WPC.seqR ?_
    refine stp ?_
    obtain ⟨dx, jx, hxo, hxI, hxh⟩ := xO_inv
    refine kall rfl (c_OpenJ (n := 4) (by omega) (xC_inv.clen _) (xC_inv.ok.crash _) (by rw [crash_pl]; omega) hxo) ?_
    rintro _ _ ⟨bx, xa, xc, ys, rfl, -, hys, -, rfl⟩
    have hyl : ys.length = 2 := by have := congrArg List.length (hys.trans hxh); simpa using this
    iterate 7 refine stp ?_
    refine WPL.nil ?_
    refine WPC.prune [(0, _), (2, _), (3, _), (4, _), (6, _), (8, _), (9, _), (10, _)] sbb ?_
    refine WPC.seq ?_
    refine WPC.seqR ?_
    refine stp ?_
    refine WPL.nil ?_
    refine WPC.block ?_
    refine WPC.loopS (fun m e Γ => ∃ k : Nat, m = 3 - k ∧ k ≤ 3 ∧ e = [(2, .pointer (some ⟨bx, 0, none⟩)), (3, .pointer (some ⟨db2, 0, none⟩)), (4, .pointer (some ⟨b2, 0, none⟩)), (6, .pointer (some ⟨b3, 0, none⟩)), (8, .pointer (some ⟨b4, 0, none⟩)), (9, .slice xa ys.length xc), (10, .int .i64 0), (11, .int .i64 (k : Int))] ∧ Γ = [jour b2 db2 (yN k).2, disk db2 (yN k).1, jour bx db1 jx, jour b3 db3 a0.2, disk db3 a0.1, jour b4 db4 a0.2, disk db4 a0.1, tblA]) (3) ⟨0, rfl, by omega, rfl, by rw [yN_zero]⟩ sbb Imp.pk ?_
    rintro m e Γ ⟨k, rfl, hk, rfl, rfl⟩
    refine WPC.seq ?_
    refine WPC.seqR ?_
    iterate 2 refine stp ?_
    refine WPL.nil ?_
    refine WPC.cond rfl (fun h1 => ?_) (fun h1 => ?_)
    · simp only [decide_eq_true_eq] at h1
      refine WPC.skip ?_
      refine thenQ_n ?_
      refine WPC.seq ?_
      refine WPC.block ?_
      refine WPC.region ?_
      iterate 2 refine stp ?_
      refine L_s (q_addN (a := 97) (b := k) rfl rfl (by omega)) rfl ?_
      refine L_s (q_conv8 (a := 97 + k) in_int in_uint8 rfl) rfl ?_
      refine nwb [_] fun bA4 => ?_
      refine kall rfl (c_ap (q := (yN (k + 1))) [by_ (97 + k)] (vs := [.int .u8 (((97 + k) % 256 : Nat) : Int)]) rfl (yN_inv k (by omega)) (e_yN k)) ?_
      rintro _ _ ⟨rfl, rfl⟩
      refine WPL.nil ?_
      refine blockQ_n ?_
      refine thenQ_n ?_
      refine WPC.region ?_
      iterate 3 refine stp ?_
      refine WPL.nil ?_
      refine thenQ_n ?_
      exact ⟨rfl, _, _, _, by omega, ⟨k + 1, rfl, by omega, rfl, rfl⟩, sbb, Imp.pk⟩
    · simp only [decide_eq_false_iff_not] at h1
      have hk3 : k = 3 := by omega
      subst hk3
      rw [yN_three]
      refine WPC.exit ?_
      refine thenQ_e ?_
      refine thenQ_e ?_
      refine blockQ_here ?_
      refine thenQ_n ?_
      refine WPC.seqR ?_
      refine stp ?_
      refine nwb [_, _, _] fun bP => ?_
      have hypl := yC_inv.pl
      refine kall rfl (c_Crash (ps := [0, 64, 64]) (a := some ⟨bP, 0, none⟩) (c := 3) (q := true) yC_inv.ok (by omega) ⟨rfl, Nat.le_refl _, .inr (Pl.mk _ _)⟩) ?_
      rintro _ _ ⟨rfl, rfl⟩
      refine WPL.nil ?_
      refine WPC.seqR ?_
      refine stp ?_
      obtain ⟨dy, jy, hyo, hyI, hyh⟩ := yO_inv
      refine kall rfl (c_OpenJ (n := 4) (by omega) (yC_inv.clen _) (yC_inv.ok.crash _) (by rw [crash_pl]; omega) hyo) ?_
      rintro _ _ ⟨by_2, ya, yc, zs, rfl, -, hzs, -, rfl⟩
      have hzl : zs.length = 0 := by have := congrArg List.length hzs; rw [hyh] at this; simpa using this
      iterate 7 refine stp ?_
      refine WPL.nil ?_
      refine WPC.seq ?_
      refine WPC.seqR ?_
      iterate 3 refine stp ?_
      apply WPL.joinO (e' := [(2, _), (6, _), (8, _), (9, _), (10, _), (12, _), (13, _)]) 98 101 3 rfl
      · intro g19_2
        try simp only [decide_eq_true_eq, decide_eq_false_iff_not, beq_iff_eq, bne_iff_ne, beq_eq_false_iff_ne, bne_eq_false_iff_eq, Bool.not_eq_true', Bool.not_eq_false', Bool.not_eq_eq_eq_not, Bool.not_true, Bool.not_false, ne_eq, Decidable.not_not, Int.not_lt, Int.not_le, gt_iff_lt, ge_iff_le] at g19_2
        refine L_no rfl rfl rfl rfl ?_
        refine L_no rfl rfl rfl rfl ?_
        refine stp ?_
        first | exact WPL.jn rfl rfl sbb | exact WPL.jnI rfl rfl sbb Imp.pk
      · intro g19_2
        try simp only [decide_eq_true_eq, decide_eq_false_iff_not, beq_iff_eq, bne_iff_ne, beq_eq_false_iff_ne, bne_eq_false_iff_eq, Bool.not_eq_true', Bool.not_eq_false', Bool.not_eq_eq_eq_not, Bool.not_true, Bool.not_false, ne_eq, Decidable.not_not, Int.not_lt, Int.not_le, gt_iff_lt, ge_iff_le] at g19_2
        iterate 2 refine stpY rfl rfl ?_
        refine stp ?_
        first | exact WPL.jn rfl rfl sbb | exact WPL.jnI rfl rfl sbb Imp.pk
      refine WPL.nil ?_
      refine WPC.cond rfl (fun h2 => ?_) (fun h2 => ?_)
      · try simp only [decide_eq_true_eq, decide_eq_false_iff_not, beq_iff_eq, bne_iff_ne, beq_eq_false_iff_ne, bne_eq_false_iff_eq, Bool.not_eq_true', Bool.not_eq_false', Bool.not_eq_eq_eq_not, Bool.not_true, Bool.not_false, ne_eq, Decidable.not_not, Int.not_lt, Int.not_le, gt_iff_lt, ge_iff_le] at h2
        simp at h2
      · skip
        refine WPC.skip ?_
        refine thenQ_n ?_
        refine WPC.seq ?_
        refine WPC.seqR ?_
        refine stp ?_
        refine WPL.nil ?_
        refine WPC.block ?_
        refine WPC.loopS (fun m e Γ => ∃ k : Nat, m = 4 - k ∧ k ≤ 4 ∧ e = [(2, .pointer (some ⟨bx, 0, none⟩)), (6, .pointer (some ⟨b3, 0, none⟩)), (8, .pointer (some ⟨b4, 0, none⟩)), (9, .slice xa ys.length xc), (10, .int .i64 0), (12, .slice ya zs.length yc), (13, .int .i64 0), (14, .int .i64 (k : Int))] ∧ Γ = [jour b3 db3 (yN k).2, disk db3 (yN k).1, jour bx db1 jx, jour b4 db4 a0.2, disk db4 a0.1, tblA]) (4) ⟨0, rfl, by omega, rfl, by rw [yN_zero]⟩ sbb Imp.pk ?_
        rintro m e Γ ⟨k, rfl, hk, rfl, rfl⟩
        refine WPC.seq ?_
        refine WPC.seqR ?_
        iterate 2 refine stp ?_
        refine WPL.nil ?_
        refine WPC.cond rfl (fun h3 => ?_) (fun h3 => ?_)
        · simp only [decide_eq_true_eq] at h3
          refine WPC.skip ?_
          refine thenQ_n ?_
          refine WPC.seq ?_
          refine WPC.block ?_
          refine WPC.region ?_
          iterate 2 refine stp ?_
          refine L_s (q_addN (a := 97) (b := k) rfl rfl (by omega)) rfl ?_
          refine L_s (q_conv8 (a := 97 + k) in_int in_uint8 rfl) rfl ?_
          refine nwb [_] fun bA5 => ?_
          refine kall rfl (c_ap (q := (yN (k + 1))) [by_ (97 + k)] (vs := [.int .u8 (((97 + k) % 256 : Nat) : Int)]) rfl (yN_inv k (by omega)) (e_yN k)) ?_
          rintro _ _ ⟨rfl, rfl⟩
          refine WPL.nil ?_
          refine blockQ_n ?_
          refine thenQ_n ?_
          refine WPC.region ?_
          iterate 3 refine stp ?_
          refine WPL.nil ?_
          refine thenQ_n ?_
          exact ⟨rfl, _, _, _, by omega, ⟨k + 1, rfl, by omega, rfl, rfl⟩, sbb, Imp.pk⟩
        · simp only [decide_eq_false_iff_not] at h3
          have hk3 : k = 4 := by omega
          subst hk3
          rw [yN_four]
          refine WPC.exit ?_
          refine thenQ_e ?_
          refine thenQ_e ?_
          refine blockQ_here ?_
          refine thenQ_n ?_
          refine WPC.seqR ?_
          refine stp ?_
          refine nwb [_] fun bA6 => ?_
          refine kall rfl (c_ap (q := (ap zA [101])) [101] (vs := [.int .u8 101]) rfl zA_inv rfl) ?_
          rintro _ _ ⟨rfl, rfl⟩
          refine stp ?_
          refine WPL.nil ?_
          refine WPC.seqR ?_
          refine stp ?_
          refine kall rfl (c_tp (q := zC) 1 zB_inv e_zC) ?_
          rintro _ _ ⟨rfl, rfl⟩
          refine stp ?_
          refine WPL.nil ?_
          refine WPC.seqR ?_
          refine stp ?_
          refine nwb [_] fun bA7 => ?_
          refine kall rfl (c_ap (q := (ap zC [101])) [101] (vs := [.int .u8 101]) rfl zC_inv rfl) ?_
          rintro _ _ ⟨rfl, rfl⟩
          rw [z_err.1, z_err.2.1, z_err.2.2]
          refine stp ?_
          refine WPL.nil ?_
          refine WPC.seq ?_
          refine WPC.seqR ?_
          refine stp ?_
          refine WPL.nil ?_
          refine WPC.block ?_
          refine WPC.loopS (fun m e Γ => ∃ k : Nat, m = 3 - k ∧ k ≤ 3 ∧ e = [(2, .pointer (some ⟨bx, 0, none⟩)), (6, .pointer (some ⟨b3, 0, none⟩)), (8, .pointer (some ⟨b4, 0, none⟩)), (9, .slice xa ys.length xc), (10, .int .i64 0), (12, .slice ya zs.length yc), (13, .int .i64 0), (15, .int .i64 42), (16, .int .i64 0), (17, .int .i64 0), (18, .int .i64 (k : Int))] ∧ Γ = [jour b4 db4 (yN k).2, disk db4 (yN k).1, jour bx db1 jx, jour b3 db3 (ap zC [101]).2, tblA]) (3) ⟨0, rfl, by omega, rfl, by rw [yN_zero]⟩ sbb Imp.pk ?_
          rintro m e Γ ⟨k, rfl, hk, rfl, rfl⟩
          refine WPC.seq ?_
          refine WPC.seqR ?_
          iterate 2 refine stp ?_
          refine WPL.nil ?_
          refine WPC.cond rfl (fun h4 => ?_) (fun h4 => ?_)
          · simp only [decide_eq_true_eq] at h4
            refine WPC.skip ?_
            refine thenQ_n ?_
            refine WPC.seq ?_
            refine WPC.block ?_
            refine WPC.region ?_
            iterate 2 refine stp ?_
            refine L_s (q_addN (a := 97) (b := k) rfl rfl (by omega)) rfl ?_
            refine L_s (q_conv8 (a := 97 + k) in_int in_uint8 rfl) rfl ?_
            refine nwb [_] fun bA8 => ?_
            refine kall rfl (c_ap (q := (yN (k + 1))) [by_ (97 + k)] (vs := [.int .u8 (((97 + k) % 256 : Nat) : Int)]) rfl (yN_inv k (by omega)) (e_yN k)) ?_
            rintro _ _ ⟨rfl, rfl⟩
            refine WPL.nil ?_
            refine blockQ_n ?_
            refine thenQ_n ?_
            refine WPC.region ?_
            iterate 3 refine stp ?_
            refine WPL.nil ?_
            refine thenQ_n ?_
            exact ⟨rfl, _, _, _, by omega, ⟨k + 1, rfl, by omega, rfl, rfl⟩, sbb, Imp.pk⟩
          · simp only [decide_eq_false_iff_not] at h4
            have hk3 : k = 3 := by omega
            subst hk3
            rw [yN_three]
            refine WPC.exit ?_
            refine thenQ_e ?_
            refine thenQ_e ?_
            refine blockQ_here ?_
            refine thenQ_n ?_
            refine WPC.seqR ?_
            refine stp ?_
            refine kall rfl (c_cp (q := wC) 2 yC_inv e_wC) ?_
            rintro _ _ ⟨rfl, rfl⟩
            rw [w_err]
            refine stp ?_
            refine WPL.nil ?_
            refine WPC.seqR ?_
            refine stp ?_
            refine nwb [_] fun bA9 => ?_
            refine kall rfl (c_ap (q := (ap wC [100])) [100] (vs := [.int .u8 100]) rfl wC_inv rfl) ?_
            rintro _ _ ⟨rfl, rfl⟩
            refine WPL.nil ?_
            refine WPC.seqR ?_
            iterate 3 refine stp ?_
            apply WPL.joinA (e' := [(2, _), (6, _), (8, _), (12, _), (13, _), (15, _), (16, _), (17, _), (19, _)]) 137 141 4 rfl
            · intro g34_2
              try simp only [decide_eq_true_eq, decide_eq_false_iff_not, beq_iff_eq, bne_iff_ne, beq_eq_false_iff_ne, bne_eq_false_iff_eq, Bool.not_eq_true', Bool.not_eq_false', Bool.not_eq_eq_eq_not, Bool.not_true, Bool.not_false, ne_eq, Decidable.not_not, Int.not_lt, Int.not_le, gt_iff_lt, ge_iff_le] at g34_2
              iterate 3 refine stpY rfl rfl ?_
              refine stp ?_
              first | exact WPL.jn rfl rfl sbb | exact WPL.jnI rfl rfl sbb Imp.pk
            · intro g34_2
              try simp only [decide_eq_true_eq, decide_eq_false_iff_not, beq_iff_eq, bne_iff_ne, beq_eq_false_iff_ne, bne_eq_false_iff_eq, Bool.not_eq_true', Bool.not_eq_false', Bool.not_eq_eq_eq_not, Bool.not_true, Bool.not_false, ne_eq, Decidable.not_not, Int.not_lt, Int.not_le, gt_iff_lt, ge_iff_le] at g34_2
              refine L_no rfl rfl rfl rfl ?_
              refine L_no rfl rfl rfl rfl ?_
              refine L_no rfl rfl rfl rfl ?_
              refine stp ?_
              first | exact WPL.jn rfl rfl sbb | exact WPL.jnI rfl rfl sbb Imp.pk
            refine stp ?_
            apply WPL.joinA (e' := [(6, _), (8, _), (12, _), (13, _), (15, _), (16, _), (17, _), (19, _)]) 142 146 4 rfl
            · intro g34_7
              try simp only [decide_eq_true_eq, decide_eq_false_iff_not, beq_iff_eq, bne_iff_ne, beq_eq_false_iff_ne, bne_eq_false_iff_eq, Bool.not_eq_true', Bool.not_eq_false', Bool.not_eq_eq_eq_not, Bool.not_true, Bool.not_false, ne_eq, Decidable.not_not, Int.not_lt, Int.not_le, gt_iff_lt, ge_iff_le] at g34_7
              refine stpY rfl rfl ?_
              refine L_eyes rfl rfl rfl (C1.call (c_call Tryd.func31 rfl rfl rfl) (c_texts (by intro x hx; have := hxI.hb x hx; omega) (by have := hxI.hlen; omega)) pkk rfl ?_)
              rintro _ _ ⟨rfl, rfl⟩
              refine WPL.putS ?_
              refine stpY rfl rfl ?_
              refine stp ?_
              first | exact WPL.jn rfl rfl sbb | exact WPL.jnI rfl rfl sbb Imp.pk
            · intro g34_7
              try simp only [decide_eq_true_eq, decide_eq_false_iff_not, beq_iff_eq, bne_iff_ne, beq_eq_false_iff_ne, bne_eq_false_iff_eq, Bool.not_eq_true', Bool.not_eq_false', Bool.not_eq_eq_eq_not, Bool.not_true, Bool.not_false, ne_eq, Decidable.not_not, Int.not_lt, Int.not_le, gt_iff_lt, ge_iff_le] at g34_7
              refine L_no rfl rfl rfl rfl ?_
              refine L_no rfl rfl rfl rfl ?_
              refine L_no rfl rfl rfl rfl ?_
              refine stp ?_
              first | exact WPL.jn rfl rfl sbb | exact WPL.jnI rfl rfl sbb Imp.pk
            refine stp ?_
            apply WPL.joinA (e' := [(6, _), (8, _), (12, _), (15, _), (16, _), (17, _), (19, _)]) 147 150 3 rfl
            · intro g34_12
              try simp only [decide_eq_true_eq, decide_eq_false_iff_not, beq_iff_eq, bne_iff_ne, beq_eq_false_iff_ne, bne_eq_false_iff_eq, Bool.not_eq_true', Bool.not_eq_false', Bool.not_eq_eq_eq_not, Bool.not_true, Bool.not_false, ne_eq, Decidable.not_not, Int.not_lt, Int.not_le, gt_iff_lt, ge_iff_le] at g34_12
              iterate 2 refine stpY rfl rfl ?_
              refine stp ?_
              first | exact WPL.jn rfl rfl sbb | exact WPL.jnI rfl rfl sbb Imp.pk
            · intro g34_12
              try simp only [decide_eq_true_eq, decide_eq_false_iff_not, beq_iff_eq, bne_iff_ne, beq_eq_false_iff_ne, bne_eq_false_iff_eq, Bool.not_eq_true', Bool.not_eq_false', Bool.not_eq_eq_eq_not, Bool.not_true, Bool.not_false, ne_eq, Decidable.not_not, Int.not_lt, Int.not_le, gt_iff_lt, ge_iff_le] at g34_12
              refine L_no rfl rfl rfl rfl ?_
              refine L_no rfl rfl rfl rfl ?_
              refine stp ?_
              first | exact WPL.jn rfl rfl sbb | exact WPL.jnI rfl rfl sbb Imp.pk
            refine stp ?_
            apply WPL.joinA (e' := [(6, _), (8, _), (15, _), (16, _), (17, _), (19, _)]) 151 155 4 rfl
            · intro g34_16
              try simp only [decide_eq_true_eq, decide_eq_false_iff_not, beq_iff_eq, bne_iff_ne, beq_eq_false_iff_ne, bne_eq_false_iff_eq, Bool.not_eq_true', Bool.not_eq_false', Bool.not_eq_eq_eq_not, Bool.not_true, Bool.not_false, ne_eq, Decidable.not_not, Int.not_lt, Int.not_le, gt_iff_lt, ge_iff_le] at g34_16
              iterate 3 refine stpY rfl rfl ?_
              refine stp ?_
              first | exact WPL.jn rfl rfl sbb | exact WPL.jnI rfl rfl sbb Imp.pk
            · intro g34_16
              try simp only [decide_eq_true_eq, decide_eq_false_iff_not, beq_iff_eq, bne_iff_ne, beq_eq_false_iff_ne, bne_eq_false_iff_eq, Bool.not_eq_true', Bool.not_eq_false', Bool.not_eq_eq_eq_not, Bool.not_true, Bool.not_false, ne_eq, Decidable.not_not, Int.not_lt, Int.not_le, gt_iff_lt, ge_iff_le] at g34_16
              refine L_no rfl rfl rfl rfl ?_
              refine L_no rfl rfl rfl rfl ?_
              refine L_no rfl rfl rfl rfl ?_
              refine stp ?_
              first | exact WPL.jn rfl rfl sbb | exact WPL.jnI rfl rfl sbb Imp.pk
            refine stp ?_
            apply WPL.joinA (e' := [(6, _), (8, _), (16, _), (17, _), (19, _)]) 156 159 3 rfl
            · intro g34_21
              try simp only [decide_eq_true_eq, decide_eq_false_iff_not, beq_iff_eq, bne_iff_ne, beq_eq_false_iff_ne, bne_eq_false_iff_eq, Bool.not_eq_true', Bool.not_eq_false', Bool.not_eq_eq_eq_not, Bool.not_true, Bool.not_false, ne_eq, Decidable.not_not, Int.not_lt, Int.not_le, gt_iff_lt, ge_iff_le] at g34_21
              iterate 2 refine stpY rfl rfl ?_
              refine stp ?_
              first | exact WPL.jn rfl rfl sbb | exact WPL.jnI rfl rfl sbb Imp.pk
            · intro g34_21
              try simp only [decide_eq_true_eq, decide_eq_false_iff_not, beq_iff_eq, bne_iff_ne, beq_eq_false_iff_ne, bne_eq_false_iff_eq, Bool.not_eq_true', Bool.not_eq_false', Bool.not_eq_eq_eq_not, Bool.not_true, Bool.not_false, ne_eq, Decidable.not_not, Int.not_lt, Int.not_le, gt_iff_lt, ge_iff_le] at g34_21
              refine L_no rfl rfl rfl rfl ?_
              refine L_no rfl rfl rfl rfl ?_
              refine stp ?_
              first | exact WPL.jn rfl rfl sbb | exact WPL.jnI rfl rfl sbb Imp.pk
            refine stp ?_
            apply WPL.joinA (e' := [(6, _), (8, _), (17, _), (19, _)]) 160 163 3 rfl
            · intro g34_25
              try simp only [decide_eq_true_eq, decide_eq_false_iff_not, beq_iff_eq, bne_iff_ne, beq_eq_false_iff_ne, bne_eq_false_iff_eq, Bool.not_eq_true', Bool.not_eq_false', Bool.not_eq_eq_eq_not, Bool.not_true, Bool.not_false, ne_eq, Decidable.not_not, Int.not_lt, Int.not_le, gt_iff_lt, ge_iff_le] at g34_25
              iterate 2 refine stpY rfl rfl ?_
              refine stp ?_
              first | exact WPL.jn rfl rfl sbb | exact WPL.jnI rfl rfl sbb Imp.pk
            · intro g34_25
              try simp only [decide_eq_true_eq, decide_eq_false_iff_not, beq_iff_eq, bne_iff_ne, beq_eq_false_iff_ne, bne_eq_false_iff_eq, Bool.not_eq_true', Bool.not_eq_false', Bool.not_eq_eq_eq_not, Bool.not_true, Bool.not_false, ne_eq, Decidable.not_not, Int.not_lt, Int.not_le, gt_iff_lt, ge_iff_le] at g34_25
              refine L_no rfl rfl rfl rfl ?_
              refine L_no rfl rfl rfl rfl ?_
              refine stp ?_
              first | exact WPL.jn rfl rfl sbb | exact WPL.jnI rfl rfl sbb Imp.pk
            refine stp ?_
            apply WPL.joinA (e' := [(6, _), (8, _), (19, _)]) 164 167 3 rfl
            · intro g34_29
              try simp only [decide_eq_true_eq, decide_eq_false_iff_not, beq_iff_eq, bne_iff_ne, beq_eq_false_iff_ne, bne_eq_false_iff_eq, Bool.not_eq_true', Bool.not_eq_false', Bool.not_eq_eq_eq_not, Bool.not_true, Bool.not_false, ne_eq, Decidable.not_not, Int.not_lt, Int.not_le, gt_iff_lt, ge_iff_le] at g34_29
              iterate 2 refine stpY rfl rfl ?_
              refine stp ?_
              first | exact WPL.jn rfl rfl sbb | exact WPL.jnI rfl rfl sbb Imp.pk
            · intro g34_29
              try simp only [decide_eq_true_eq, decide_eq_false_iff_not, beq_iff_eq, bne_iff_ne, beq_eq_false_iff_ne, bne_eq_false_iff_eq, Bool.not_eq_true', Bool.not_eq_false', Bool.not_eq_eq_eq_not, Bool.not_true, Bool.not_false, ne_eq, Decidable.not_not, Int.not_lt, Int.not_le, gt_iff_lt, ge_iff_le] at g34_29
              refine L_no rfl rfl rfl rfl ?_
              refine L_no rfl rfl rfl rfl ?_
              refine stp ?_
              first | exact WPL.jn rfl rfl sbb | exact WPL.jnI rfl rfl sbb Imp.pk
            refine stp ?_
            apply WPL.joinA (e' := [(8, _), (19, _)]) 168 172 4 rfl
            · intro g34_33
              try simp only [decide_eq_true_eq, decide_eq_false_iff_not, beq_iff_eq, bne_iff_ne, beq_eq_false_iff_ne, bne_eq_false_iff_eq, Bool.not_eq_true', Bool.not_eq_false', Bool.not_eq_eq_eq_not, Bool.not_true, Bool.not_false, ne_eq, Decidable.not_not, Int.not_lt, Int.not_le, gt_iff_lt, ge_iff_le] at g34_33
              refine stpY rfl rfl ?_
              refine L_eyes rfl rfl rfl (C1.call (c_call Tryd.func31 rfl rfl rfl) (c_texts (by intro x hx; have := zD_inv.hb x hx; omega) (by have := zD_inv.hlen; omega)) pkk rfl ?_)
              rintro _ _ ⟨rfl, rfl⟩
              refine WPL.putS ?_
              refine stpY rfl rfl ?_
              refine stp ?_
              first | exact WPL.jn rfl rfl sbb | exact WPL.jnI rfl rfl sbb Imp.pk
            · intro g34_33
              try simp only [decide_eq_true_eq, decide_eq_false_iff_not, beq_iff_eq, bne_iff_ne, beq_eq_false_iff_ne, bne_eq_false_iff_eq, Bool.not_eq_true', Bool.not_eq_false', Bool.not_eq_eq_eq_not, Bool.not_true, Bool.not_false, ne_eq, Decidable.not_not, Int.not_lt, Int.not_le, gt_iff_lt, ge_iff_le] at g34_33
              refine L_no rfl rfl rfl rfl ?_
              refine L_no rfl rfl rfl rfl ?_
              refine L_no rfl rfl rfl rfl ?_
              refine stp ?_
              first | exact WPL.jn rfl rfl sbb | exact WPL.jnI rfl rfl sbb Imp.pk
            refine stp ?_
            apply WPL.joinA (e' := [(8, _)]) 173 176 3 rfl
            · intro g34_38
              try simp only [decide_eq_true_eq, decide_eq_false_iff_not, beq_iff_eq, bne_iff_ne, beq_eq_false_iff_ne, bne_eq_false_iff_eq, Bool.not_eq_true', Bool.not_eq_false', Bool.not_eq_eq_eq_not, Bool.not_true, Bool.not_false, ne_eq, Decidable.not_not, Int.not_lt, Int.not_le, gt_iff_lt, ge_iff_le] at g34_38
              iterate 2 refine stpY rfl rfl ?_
              refine stp ?_
              first | exact WPL.jn rfl rfl sbb | exact WPL.jnI rfl rfl sbb Imp.pk
            · intro g34_38
              try simp only [decide_eq_true_eq, decide_eq_false_iff_not, beq_iff_eq, bne_iff_ne, beq_eq_false_iff_ne, bne_eq_false_iff_eq, Bool.not_eq_true', Bool.not_eq_false', Bool.not_eq_eq_eq_not, Bool.not_true, Bool.not_false, ne_eq, Decidable.not_not, Int.not_lt, Int.not_le, gt_iff_lt, ge_iff_le] at g34_38
              refine L_no rfl rfl rfl rfl ?_
              refine L_no rfl rfl rfl rfl ?_
              refine stp ?_
              first | exact WPL.jn rfl rfl sbb | exact WPL.jnI rfl rfl sbb Imp.pk
            refine stp ?_
            apply WPL.joinA (e' := []) 177 181 4 rfl
            · intro g34_42
              try simp only [decide_eq_true_eq, decide_eq_false_iff_not, beq_iff_eq, bne_iff_ne, beq_eq_false_iff_ne, bne_eq_false_iff_eq, Bool.not_eq_true', Bool.not_eq_false', Bool.not_eq_eq_eq_not, Bool.not_true, Bool.not_false, ne_eq, Decidable.not_not, Int.not_lt, Int.not_le, gt_iff_lt, ge_iff_le] at g34_42
              refine stpY rfl rfl ?_
              refine L_eyes rfl rfl rfl (C1.call (c_call Tryd.func31 rfl rfl rfl) (c_texts (by intro x hx; have := wD_inv.hb x hx; omega) (by have := wD_inv.hlen; omega)) pkk rfl ?_)
              rintro _ _ ⟨rfl, rfl⟩
              refine WPL.putS ?_
              refine stpY rfl rfl ?_
              refine stp ?_
              first | exact WPL.jn rfl rfl sbb | exact WPL.jnI rfl rfl sbb Imp.pk
            · intro g34_42
              try simp only [decide_eq_true_eq, decide_eq_false_iff_not, beq_iff_eq, bne_iff_ne, beq_eq_false_iff_ne, bne_eq_false_iff_eq, Bool.not_eq_true', Bool.not_eq_false', Bool.not_eq_eq_eq_not, Bool.not_true, Bool.not_false, ne_eq, Decidable.not_not, Int.not_lt, Int.not_le, gt_iff_lt, ge_iff_le] at g34_42
              refine L_no rfl rfl rfl rfl ?_
              refine L_no rfl rfl rfl rfl ?_
              refine L_no rfl rfl rfl rfl ?_
              refine stp ?_
              first | exact WPL.jn rfl rfl sbb | exact WPL.jnI rfl rfl sbb Imp.pk
            refine stp ?_
            refine WPL.nil ?_
            refine WPC.ret ?_
            exact endR_r rfl (.tmp rfl .nil) Imp.pk ⟨by simp only [packV, txt_ab hxh, txt_z, txt_w, hyl, hzl]; rfl, rfl⟩

end Go.Sl
/- Walks: JournalPlays at arguments that no journal has. -/
namespace Go.Sl
open Go Go.RowKit Go.Proofs
set_option linter.unusedSimpArgs false
set_option linter.unusedVariables false
attribute [local irreducible] faB szB ldB zB zL slB mkB arB plB intB cells objc star stars buf slv grp whole Sat WPC WPL WPA WPO WPQ Trip Q1 E1 S1 C1

theorem jopen0_inv {d d2 : DK} {j2 : JN} {a n : Nat} (h : jopen0 d a n = (d2, some j2, 0)) : ∃ j0, JN.begun d a n = some j0 ∧ j0.epoch ≠ 4294967295 ∧ j2 = openJ (j0.scanned d) ∧ d2 = (jsave (openD d (j0.scanned d) n) (openJ (j0.scanned d))).1 := by
  cases hb : JN.begun d a n with
  | none => rw [jopen0_none hb] at h; cases h
  | some j0 =>
    by_cases he : j0.epoch = 4294967295
    · rw [jopen0_full hb he] at h; cases h
    · by_cases hz : (jsave (openD d (j0.scanned d) n) (openJ (j0.scanned d))).2 = 0
      · rw [jopen0_ok hb he hz] at h
        simp only [Prod.mk.injEq, Option.some.injEq] at h
        exact ⟨j0, rfl, he, h.2.1.symm, h.1.symm⟩
      · rw [jopen0_err hb he hz] at h
        simp at h
theorem c_ROpenJ {db : Nat} {d d2 : DK} {j2 : JN} {at_ n : Nat} (hn : 1 ≤ n ∧ n ≤ 100) (hat : at_ + 2 + n ≤ d.seen.length) (hpl : d.pend.length < 900000) (hok : d.ok) (hvis : d.seen = flush d.sure d.pend) (hup : Up d) (hq : (last d (at_ : Int)).seq < 4294967295) (h : jopen0 d at_ n = (d2, some j2, 0)) :
    Trip Tryd.prog 21 #[.pointer (some ⟨db, 0, none⟩), .int .i64 (at_ : Int), .int .i64 (n : Int)] [rdisk db d] (fun r Δ => ∃ b, r = .tuple #[.pointer (some ⟨b, 0, none⟩), .int .i64 0] ∧ Δ = [rjour b db j2, rdisk db d2]) := by
  obtain ⟨j0, h1, h2, rfl, rfl⟩ := jopen0_inv h
  exact c_ROpen hn hat hpl hok (by omega) hvis hup h1 h2 hq
theorem c_OpenG {db : Nat} {d d2 : DK} {j2 : JN} {at_ n : Nat} (hn : 1 ≤ n ∧ n ≤ 100) (hat : at_ + 2 + n ≤ d.seen.length) (hd : d.ok) (hpl : d.pend.length < 600000) (h : jopen0 d at_ n = (d2, some j2, 0)) : Trip Tryd.prog 14 #[.pointer (some ⟨db, 0, none⟩), .int .i64 (at_ : Int), .int .i64 (n : Int)] [disk db d, tblA]
    (fun r Δ => ∃ (b : Nat) (a : Option Addr) (c : Nat) (ys : List BS), r = .tuple #[.pointer (some ⟨b, 0, none⟩), .slice a ys.length c, .int .i64 0] ∧ Sok 1 a ys.length c (ys.map bsV) ∧ ys.map BS.bs = j2.held.map (·.2) ∧ (∀ y ∈ ys, y.ok) ∧ Δ = [jour b db j2, disk db d2, buf 1 a ys.length c (ys.map bsV), bytes ys]) := by
  have hc := c_Open (db := db) (d := d) (at_ := at_) (n := n) hn hat hd hpl
  rw [h] at hc
  exact hc

theorem c_PendD {b : Nat} {d : DK} : Trip Tryd.prog 28 #[.pointer (some ⟨b, 0, none⟩)] [disk b d] fun r Δ => r = .int .i64 (d.pend.length : Int) ∧ Δ = [disk b d] := by
  refine disk_open fun L hL => ?_
  refine Trip.start 8 [.tmp 2] [(0, .pointer (some ⟨b, 0, none⟩))] Tryd.func28 rfl Tryd.ntmps28 rfl ⟨rfl, trivial⟩ rfl ?_
  refine WPC.seqR ?_
  refine stp ?_
  refine WPL.nil ?_
  refine WPC.seqR ?_
  iterate 6 refine stp ?_
  refine WPL.nil ?_
  refine WPC.ret ?_
  exact endR_r rfl (.tmp rfl .nil) ((Imp.pk).trans (disk_close L hL (Γ := []))) ⟨rfl, rfl⟩

theorem c_RAllO {rj rb : Nat} {j : JN} {L : RJL} (hL : RJOk j L) (hn : j.held.length ≤ 1000) : Trip Tryd.prog 29 #[.pointer (some ⟨rj, 0, none⟩)] [cells true rj 0 (rjC rb j L), sl false L.a (L.rs.flatMap encRJ), bytes (L.rs.map (·.x))] fun r Δ => ∃ (a : Option Addr) (c : Nat) (ys : List BS), r = .slice a ys.length c ∧ Sok 1 a ys.length c (ys.map bsV) ∧ ys.map BS.bs = j.held.map (·.2) ∧ (∀ y ∈ ys, y.ok) ∧ Δ = [cells true rj 0 (rjC rb j L), sl false L.a (L.rs.flatMap encRJ), bytes (L.rs.map (·.x)), sl false a (ys.map bsV), bytes ys] := by
  have hrl := hL.len
  refine Trip.start 26 [.tmp 2] [(0, .pointer (some ⟨rj, 0, none⟩))] Tryd.func29 rfl Tryd.ntmps29 rfl ⟨rfl, trivial⟩ rfl ?_
  refine WPC.seqR ?_
  refine stp ?_
  refine WPL.nil ?_
  refine WPC.seqR ?_
  refine stp ?_
  refine WPL.nil ?_
  refine WPC.seq ?_
  refine WPC.seqR ?_
  refine stp ?_
  refine WPL.nil ?_
  refine WPC.imp (Imp.bufNil (sz := 1)) ?_
  refine WPC.block ?_
  refine WPC.loopS (fun m e Γ => ∃ (k : Nat) (a2 : Option Addr) (c2 : Nat), m = L.rs.length - k ∧ k ≤ L.rs.length ∧ e = [(0, .pointer (some ⟨rj, 0, none⟩)), (3, .slice a2 k c2), (4, .int .i64 (k : Int))] ∧ Γ = [buf 1 a2 k c2 (((L.rs.take k).map (·.x)).map bsV), cells true rj 0 (rjC rb j L), sl false L.a (L.rs.flatMap encRJ), bytes (L.rs.map (·.x))]) (L.rs.length) ⟨0, none, 0, rfl, by omega, rfl, rfl⟩ sbb Imp.pk ?_
  rintro m e Γ ⟨k, a2, c2, rfl, hk, rfl, rfl⟩
  refine WPC.seq ?_
  refine WPC.seqR ?_
  iterate 7 refine stp ?_
  refine WPL.nil ?_
  refine WPC.cond rfl (fun h0 => ?_) (fun h0 => ?_)
  · simp only [decide_eq_true_eq, Int.ofNat_lt] at h0
    obtain ⟨r, hr⟩ : ∃ r, L.rs[k]? = some r := ⟨L.rs[k]'(by omega), by simp⟩
    have hp : Pl L.a := hL.s.at (by omega) (by omega)
    refine WPC.skip ?_
    refine thenQ_n ?_
    refine WPC.seq ?_
    refine WPC.block ?_
    refine WPC.region ?_
    iterate 6 refine stp ?_
    refine L_s (q_idxN (i := k) sl_sl_pursuivantref06_Record rfl rfl h0 hp) rfl ?_
    refine stp ?_
    refine L_s (q_ldFlat1 (k := 2) (i := k) (j := 1) (enc := encRJ) ld_sl_uint8 rfl mm encRJ_len hr (by omega) rfl) rfl ?_
    refine nwb [_] fun b1 => ?_
    refine WPL.cons rfl (E1.wpo (e_ap1 rfl rfl) rfl ?_)
    rintro _ _ ⟨a3, c3, rfl, rfl⟩
    rw [show ((L.rs.take k).map (·.x)).map bsV ++ [Value.slice r.x.a r.x.n r.x.c] = ((L.rs.take (k + 1)).map (·.x)).map bsV by rw [take_succ hr, List.map_append, List.map_append]; rfl]
    refine WPL.putS ?_
    refine stp ?_
    refine WPL.nil ?_
    refine blockQ_n ?_
    refine thenQ_n ?_
    refine WPC.region ?_
    iterate 3 refine stp ?_
    refine WPL.nil ?_
    refine thenQ_n ?_
    exact ⟨rfl, _, _, _, by omega, ⟨k + 1, a3, c3, rfl, by omega, rfl, rfl⟩, sbb, Imp.pk⟩
  · simp only [decide_eq_false_iff_not, Int.ofNat_lt] at h0
    have hkk : k = L.rs.length := by omega
    refine WPC.exit ?_
    refine thenQ_e ?_
    refine thenQ_e ?_
    refine blockQ_here ?_
    refine thenQ_n ?_
    refine WPC.seqR ?_
    iterate 2 refine stp ?_
    refine WPL.nil ?_
    rw [hkk, List.take_length]
    refine WPC.bufRo fun hS => ?_
    refine WPC.ret ?_
    rw [← List.length_map (f := fun r : RJ => r.x)] at hS ⊢
    exact endR_r rfl (.tmp rfl .nil) ((((Imp.pk (Δ := [bytes (L.rs.map (·.x)), cells true rj 0 (rjC rb j L), sl false L.a (L.rs.flatMap encRJ), sl false a2 ((L.rs.map (·.x)).map bsV)])).trans (bytes_sub (fun y hy => hy)))).trans Imp.pk) ⟨a2, c2, L.rs.map (·.x), rfl, hS, by rw [← hL.held, List.map_map, List.map_map]; rfl, fun y hy => by
      obtain ⟨r, hr, rfl⟩ := List.mem_map.1 hy; exact hL.ok r hr, rfl⟩

theorem c_OpenBad {db : Nat} {d : DK} {x n : Int} (hd : d.ok) (hbad : n < 1 ∨ 100 < n ∨ x < 0 ∨ (d.seen.length : Int) - 2 - n < x) : Trip Tryd.prog 14 #[.pointer (some ⟨db, 0, none⟩), .int .i64 x, .int .i64 n] [disk db d] fun r Δ => r = .tuple #[.pointer none, .slice none 0 0, .int .i64 (if n < 1 ∨ 100 < n then 1 else 40)] ∧ Δ = [disk db d] := by
  have hdn := hd.n
  refine Trip.start 98 [.tmp 6, .tmp 7, .tmp 8] [(0, .pointer (some ⟨db, 0, none⟩)), (1, .int .i64 x), (2, .int .i64 n)] Tryd.func14 rfl Tryd.ntmps14 rfl ⟨rfl, rfl, rfl, trivial⟩ rfl ?_
  refine WPC.seqR ?_
  iterate 3 refine stp ?_
  refine WPL.nil ?_
  refine WPC.seq ?_
  refine WPC.block ?_
  refine WPC.seqR ?_
  iterate 3 refine stp ?_
  apply WPL.joinO (e' := [(0, _), (1, _), (2, _), (6, _), (7, _), (8, _)]) 16 19 3 rfl
  · intro g1_2
    try simp only [decide_eq_true_eq, decide_eq_false_iff_not, beq_iff_eq, bne_iff_ne, beq_eq_false_iff_ne, bne_eq_false_iff_eq, Bool.not_eq_true', Bool.not_eq_false', Bool.not_eq_eq_eq_not, Bool.not_true, Bool.not_false, ne_eq, Decidable.not_not, Int.not_lt, Int.not_le, gt_iff_lt, ge_iff_le] at g1_2
    refine L_no rfl rfl rfl rfl ?_
    refine L_no rfl rfl rfl rfl ?_
    refine stp ?_
    first | exact WPL.jn rfl rfl sbb | exact WPL.jnI rfl rfl sbb Imp.pk
  · intro g1_2
    try simp only [decide_eq_true_eq, decide_eq_false_iff_not, beq_iff_eq, bne_iff_ne, beq_eq_false_iff_ne, bne_eq_false_iff_eq, Bool.not_eq_true', Bool.not_eq_false', Bool.not_eq_eq_eq_not, Bool.not_true, Bool.not_false, ne_eq, Decidable.not_not, Int.not_lt, Int.not_le, gt_iff_lt, ge_iff_le] at g1_2
    iterate 2 refine stpY rfl rfl ?_
    refine stp ?_
    first | exact WPL.jn rfl rfl sbb | exact WPL.jnI rfl rfl sbb Imp.pk
  refine stp ?_
  refine WPL.nil ?_
  refine WPC.cond rfl (fun h0 => ?_) (fun h0 => ?_)
  · rw [if_pos (by simp only [Bool.or_eq_true, decide_eq_true_eq] at h0; omega)]
    refine WPC.seqR ?_
    iterate 3 refine stp ?_
    refine WPL.nil ?_
    refine WPC.ret ?_
    refine blockQ_r ?_
    refine thenQ_r ?_
    exact endR_r rfl (.tmp rfl (.tmp rfl (.tmp rfl .nil))) Imp.pk ⟨rfl, rfl⟩
  · have hn : ¬ (n < 1 ∨ 100 < n) := by simp only [Bool.or_eq_false_iff, decide_eq_false_iff_not] at h0; omega
    rw [if_neg hn]
    refine WPC.seqR ?_
    iterate 3 refine stp ?_
    apply WPL.joinO (e' := [(0, _), (1, _), (2, _), (6, _), (7, _), (8, _)]) 23 31 8 rfl
    · intro g3_2
      try simp only [decide_eq_true_eq, decide_eq_false_iff_not, beq_iff_eq, bne_iff_ne, beq_eq_false_iff_ne, bne_eq_false_iff_eq, Bool.not_eq_true', Bool.not_eq_false', Bool.not_eq_eq_eq_not, Bool.not_true, Bool.not_false, ne_eq, Decidable.not_not, Int.not_lt, Int.not_le, gt_iff_lt, ge_iff_le] at g3_2
      refine L_no rfl rfl rfl rfl ?_
      refine L_no rfl rfl rfl rfl ?_
      refine L_no rfl rfl rfl rfl ?_
      refine L_no rfl rfl rfl rfl ?_
      refine L_no rfl rfl rfl rfl ?_
      refine L_no rfl rfl rfl rfl ?_
      refine L_no rfl rfl rfl rfl ?_
      refine stp ?_
      first | exact WPL.jn rfl rfl sbb | exact WPL.jnI rfl rfl sbb Imp.pk
    · intro g3_2
      try simp only [decide_eq_true_eq, decide_eq_false_iff_not, beq_iff_eq, bne_iff_ne, beq_eq_false_iff_ne, bne_eq_false_iff_eq, Bool.not_eq_true', Bool.not_eq_false', Bool.not_eq_eq_eq_not, Bool.not_true, Bool.not_false, ne_eq, Decidable.not_not, Int.not_lt, Int.not_le, gt_iff_lt, ge_iff_le] at g3_2
      iterate 2 refine stpY rfl rfl ?_
      refine L_eyes rfl rfl rfl (C1.call (c_call Tryd.func39 rfl rfl rfl) c_DLenD pkk rfl ?_)
      rintro _ _ ⟨rfl, rfl⟩
      refine WPL.putS ?_
      iterate 4 refine stpY rfl rfl ?_
      refine stp ?_
      first | exact WPL.jn rfl rfl sbb | exact WPL.jnI rfl rfl sbb Imp.pk
    refine stp ?_
    refine WPL.nil ?_
    refine WPC.cond rfl (fun h1 => ?_) (fun h1 => ?_)
    · skip
      refine WPC.seqR ?_
      iterate 3 refine stp ?_
      refine WPL.nil ?_
      refine WPC.ret ?_
      refine blockQ_r ?_
      refine thenQ_r ?_
      exact endR_r rfl (.tmp rfl (.tmp rfl (.tmp rfl .nil))) Imp.pk ⟨rfl, rfl⟩
    · try simp only [decide_eq_true_eq, decide_eq_false_iff_not, beq_iff_eq, bne_iff_ne, beq_eq_false_iff_ne, bne_eq_false_iff_eq, Bool.not_eq_true', Bool.not_eq_false', Bool.not_eq_eq_eq_not, Bool.not_true, Bool.not_false, ne_eq, Decidable.not_not, Int.not_lt, Int.not_le, gt_iff_lt, ge_iff_le] at h1
      simp only [Bool.or_eq_false_iff, decide_eq_false_iff_not] at h1
      omega

theorem c_ROpenBad {db : Nat} {d : DK} {x n : Int} (hok : d.ok) (hbad : n < 1 ∨ 100 < n ∨ x < 0 ∨ (d.seen.length : Int) - 2 - n < x) : Trip Tryd.prog 21 #[.pointer (some ⟨db, 0, none⟩), .int .i64 x, .int .i64 n] [rdisk db d] fun r Δ => r = .tuple #[.pointer none, .int .i64 (if n < 1 ∨ 100 < n then 1 else 40)] ∧ Δ = [rdisk db d] := by
  have hdn := hok.n
  refine Trip.start 205 [.tmp 6, .tmp 7] [(0, .pointer (some ⟨db, 0, none⟩)), (1, .int .i64 x), (2, .int .i64 n)] Tryd.func21 rfl Tryd.ntmps21 rfl ⟨rfl, rfl, rfl, trivial⟩ rfl ?_
  refine WPC.seqR ?_
  iterate 2 refine stp ?_
  refine WPL.nil ?_
  refine WPC.seq ?_
  refine WPC.seqR ?_
  iterate 3 refine stp ?_
  apply WPL.joinO (e' := [(0, _), (1, _), (2, _), (6, _), (7, _)]) 20 23 3 rfl
  · intro g1_2
    try simp only [decide_eq_true_eq, decide_eq_false_iff_not, beq_iff_eq, bne_iff_ne, beq_eq_false_iff_ne, bne_eq_false_iff_eq, Bool.not_eq_true', Bool.not_eq_false', Bool.not_eq_eq_eq_not, Bool.not_true, Bool.not_false, ne_eq, Decidable.not_not, Int.not_lt, Int.not_le, gt_iff_lt, ge_iff_le] at g1_2
    refine L_no rfl rfl rfl rfl ?_
    refine L_no rfl rfl rfl rfl ?_
    refine stp ?_
    first | exact WPL.jn rfl rfl sbb | exact WPL.jnI rfl rfl sbb Imp.pk
  · intro g1_2
    try simp only [decide_eq_true_eq, decide_eq_false_iff_not, beq_iff_eq, bne_iff_ne, beq_eq_false_iff_ne, bne_eq_false_iff_eq, Bool.not_eq_true', Bool.not_eq_false', Bool.not_eq_eq_eq_not, Bool.not_true, Bool.not_false, ne_eq, Decidable.not_not, Int.not_lt, Int.not_le, gt_iff_lt, ge_iff_le] at g1_2
    iterate 2 refine stpY rfl rfl ?_
    refine stp ?_
    first | exact WPL.jn rfl rfl sbb | exact WPL.jnI rfl rfl sbb Imp.pk
  refine WPL.nil ?_
  refine WPC.cond rfl (fun h0 => ?_) (fun h0 => ?_)
  · rw [if_pos (by simp only [Bool.or_eq_true, decide_eq_true_eq] at h0; omega)]
    refine WPC.seqR ?_
    iterate 2 refine stp ?_
    refine WPL.nil ?_
    refine WPC.ret ?_
    refine thenQ_r ?_
    exact endR_r rfl (.tmp rfl (.tmp rfl .nil)) Imp.pk ⟨rfl, rfl⟩
  · have hn : ¬ (n < 1 ∨ 100 < n) := by simp only [Bool.or_eq_false_iff, decide_eq_false_iff_not] at h0; omega
    rw [if_neg hn]
    refine WPC.skip ?_
    refine thenQ_n ?_
    refine WPC.seq ?_
    refine WPC.seqR ?_
    iterate 3 refine stp ?_
    apply WPL.joinO (e' := [(0, _), (1, _), (2, _), (6, _), (7, _)]) 26 31 5 rfl
    · intro g3_2
      try simp only [decide_eq_true_eq, decide_eq_false_iff_not, beq_iff_eq, bne_iff_ne, beq_eq_false_iff_ne, bne_eq_false_iff_eq, Bool.not_eq_true', Bool.not_eq_false', Bool.not_eq_eq_eq_not, Bool.not_true, Bool.not_false, ne_eq, Decidable.not_not, Int.not_lt, Int.not_le, gt_iff_lt, ge_iff_le] at g3_2
      refine L_no rfl rfl rfl rfl ?_
      refine L_no rfl rfl rfl rfl ?_
      refine L_no rfl rfl rfl rfl ?_
      refine L_no rfl rfl rfl rfl ?_
      refine stp ?_
      first | exact WPL.jn rfl rfl sbb | exact WPL.jnI rfl rfl sbb Imp.pk
    · intro g3_2
      try simp only [decide_eq_true_eq, decide_eq_false_iff_not, beq_iff_eq, bne_iff_ne, beq_eq_false_iff_ne, bne_eq_false_iff_eq, Bool.not_eq_true', Bool.not_eq_false', Bool.not_eq_eq_eq_not, Bool.not_true, Bool.not_false, ne_eq, Decidable.not_not, Int.not_lt, Int.not_le, gt_iff_lt, ge_iff_le] at g3_2
      iterate 2 refine stpY rfl rfl ?_
      refine L_eyes rfl rfl rfl (C1.call (c_call Tryd.func46 rfl rfl rfl) (c_RLenD hok) pkk rfl ?_)
      rintro _ _ ⟨rfl, rfl⟩
      refine WPL.putS ?_
      refine stpY rfl rfl ?_
      refine stp ?_
      first | exact WPL.jn rfl rfl sbb | exact WPL.jnI rfl rfl sbb Imp.pk
    refine stp ?_
    apply WPL.joinO (e' := [(0, _), (1, _), (2, _), (6, _), (7, _)]) 32 40 8 rfl
    · intro g3_8
      try simp only [decide_eq_true_eq, decide_eq_false_iff_not, beq_iff_eq, bne_iff_ne, beq_eq_false_iff_ne, bne_eq_false_iff_eq, Bool.not_eq_true', Bool.not_eq_false', Bool.not_eq_eq_eq_not, Bool.not_true, Bool.not_false, ne_eq, Decidable.not_not, Int.not_lt, Int.not_le, gt_iff_lt, ge_iff_le] at g3_8
      refine L_no rfl rfl rfl rfl ?_
      refine L_no rfl rfl rfl rfl ?_
      refine L_no rfl rfl rfl rfl ?_
      refine L_no rfl rfl rfl rfl ?_
      refine L_no rfl rfl rfl rfl ?_
      refine L_no rfl rfl rfl rfl ?_
      refine L_no rfl rfl rfl rfl ?_
      refine stp ?_
      first | exact WPL.jn rfl rfl sbb | exact WPL.jnI rfl rfl sbb Imp.pk
    · intro g3_8
      have hx8 : 0 ≤ x ∧ x ≤ (d.seen.length : Int) := by simp only [Bool.or_eq_false_iff, decide_eq_false_iff_not] at g3_8; omega
      iterate 5 refine stpY rfl rfl ?_
      refine L_eyes rfl rfl rfl (C1.call (c_call Tryd.func46 rfl rfl rfl) (c_RLenD hok) pkk rfl ?_)
      rintro _ _ ⟨rfl, rfl⟩
      refine WPL.putS ?_
      refine stpY rfl rfl ?_
      refine stp ?_
      first | exact WPL.jn rfl rfl sbb | exact WPL.jnI rfl rfl sbb Imp.pk
    refine WPL.nil ?_
    refine WPC.cond rfl (fun h1 => ?_) (fun h1 => ?_)
    · skip
      refine WPC.seqR ?_
      iterate 2 refine stp ?_
      refine WPL.nil ?_
      refine WPC.ret ?_
      refine thenQ_r ?_
      exact endR_r rfl (.tmp rfl (.tmp rfl .nil)) Imp.pk ⟨rfl, rfl⟩
    · try simp only [decide_eq_true_eq, decide_eq_false_iff_not, beq_iff_eq, bne_iff_ne, beq_eq_false_iff_ne, bne_eq_false_iff_eq, Bool.not_eq_true', Bool.not_eq_false', Bool.not_eq_eq_eq_not, Bool.not_true, Bool.not_false, ne_eq, Decidable.not_not, Int.not_lt, Int.not_le, gt_iff_lt, ge_iff_le] at h1
      simp only [Bool.or_eq_false_iff, decide_eq_false_iff_not] at h1
      omega

theorem c_PlaysLong {D : A} (hD : Pers D) {x n : Int} {a : Option Addr} {c : Nat} {ops : List OpV} (hs : Sok 4 a ops.length c (ops.flatMap encO)) (hlen : 30 < ops.length) : Trip Tryd.prog 7 #[.int .i64 x, .int .i64 n, .slice a ops.length c] [sl false a (ops.flatMap encO), tblA, D] fun r Δ => r = .bool true ∧ Δ = [] := by
  refine Trip.start 242 [.tmp 6] [(0, .int .i64 x), (1, .int .i64 n), (2, .slice a ops.length c)] Tryd.func7 rfl Tryd.ntmps7 rfl ⟨rfl, rfl, rfl, trivial⟩ rfl ?_
  refine WPC.seqR ?_
  refine stp ?_
  refine WPL.nil ?_
  refine WPC.seqR ?_
  refine kall rfl c_awake ?_
  rintro _ _ ⟨rfl, rfl⟩
  refine stp ?_
  refine WPL.nil ?_
  refine WPC.seqR ?_
  refine kall rfl (c_DNew (k := 20) (by omega)) ?_
  rintro _ _ ⟨db, rfl, rfl⟩
  iterate 5 refine stp ?_
  refine WPL.nil ?_
  refine WPC.seqR ?_
  refine kall rfl (c_RNew (k := 20) (by omega)) ?_
  rintro _ _ ⟨rb, rfl, rfl⟩
  iterate 5 refine stp ?_
  refine WPL.nil ?_
  refine WPC.seq ?_
  refine WPC.seqR ?_
  iterate 3 refine stp ?_
  iterate 2 refine stpY rfl rfl ?_
  iterate 2 refine stp ?_
  iterate 3 refine stpY rfl rfl ?_
  refine stp ?_
  refine WPL.nil ?_
  refine WPC.prune [(0, _), (1, _), (2, _), (6, _), (7, _), (8, _), (10, _), (42, _)] sbb ?_
  refine WPC.cond rfl (fun h0 => ?_) (fun h0 => ?_)
  · skip
    refine WPC.seqR ?_
    iterate 2 refine stp ?_
    iterate 2 refine stpY rfl rfl ?_
    iterate 2 refine stp ?_
    refine WPL.nil ?_
    refine WPC.ret ?_
    refine thenQ_r ?_
    exact endR_r rfl (.tmp rfl .nil) Imp.pk ⟨rfl, rfl⟩
  · try simp only [decide_eq_true_eq, decide_eq_false_iff_not, beq_iff_eq, bne_iff_ne, beq_eq_false_iff_ne, bne_eq_false_iff_eq, Bool.not_eq_true', Bool.not_eq_false', Bool.not_eq_eq_eq_not, Bool.not_true, Bool.not_false, ne_eq, Decidable.not_not, Int.not_lt, Int.not_le, gt_iff_lt, ge_iff_le] at h0
    omega

theorem c_PlaysBad {D : A} (hD : Pers D) {x n : Int} {a : Option Addr} {c : Nat} {ops : List OpV} (hs : Sok 4 a ops.length c (ops.flatMap encO)) (hlen : ops.length ≤ 30) (hbad : n < 1 ∨ 100 < n ∨ x < 0 ∨ 20 - 2 - n < x) : Trip Tryd.prog 7 #[.int .i64 x, .int .i64 n, .slice a ops.length c] [sl false a (ops.flatMap encO), tblA, D] fun r Δ => r = .bool true ∧ Δ = [] := by
  refine Trip.start 242 [.tmp 6] [(0, .int .i64 x), (1, .int .i64 n), (2, .slice a ops.length c)] Tryd.func7 rfl Tryd.ntmps7 rfl ⟨rfl, rfl, rfl, trivial⟩ rfl ?_
  refine WPC.seqR ?_
  refine stp ?_
  refine WPL.nil ?_
  refine WPC.seqR ?_
  refine kall rfl c_awake ?_
  rintro _ _ ⟨rfl, rfl⟩
  refine stp ?_
  refine WPL.nil ?_
  refine WPC.seqR ?_
  refine kall rfl (c_DNew (k := 20) (by omega)) ?_
  rintro _ _ ⟨db, rfl, rfl⟩
  iterate 5 refine stp ?_
  refine WPL.nil ?_
  refine WPC.seqR ?_
  refine kall rfl (c_RNew (k := 20) (by omega)) ?_
  rintro _ _ ⟨rb, rfl, rfl⟩
  iterate 5 refine stp ?_
  refine WPL.nil ?_
  refine WPC.seq ?_
  refine WPC.seqR ?_
  iterate 3 refine stp ?_
  iterate 2 refine stpY rfl rfl ?_
  iterate 2 refine stp ?_
  iterate 3 refine stpY rfl rfl ?_
  refine stp ?_
  refine WPL.nil ?_
  refine WPC.prune [(0, _), (1, _), (2, _), (6, _), (7, _), (8, _), (10, _), (42, _)] sbb ?_
  refine WPC.cond rfl (fun h0 => ?_) (fun h0 => ?_)
  · try simp only [decide_eq_true_eq, decide_eq_false_iff_not, beq_iff_eq, bne_iff_ne, beq_eq_false_iff_ne, bne_eq_false_iff_eq, Bool.not_eq_true', Bool.not_eq_false', Bool.not_eq_eq_eq_not, Bool.not_true, Bool.not_false, ne_eq, Decidable.not_not, Int.not_lt, Int.not_le, gt_iff_lt, ge_iff_le] at h0
    omega
  · skip
    refine WPC.skip ?_
    refine thenQ_n ?_
    refine WPC.seqR ?_
    iterate 3 refine stp ?_
    refine kall rfl (c_OpenBad (d := DK.new 20) (G.new_ok (by omega)) (by simpa [DK.new] using hbad)) ?_
    rintro _ _ ⟨rfl, rfl⟩
    iterate 7 refine stp ?_
    refine WPL.nil ?_
    refine WPC.seqR ?_
    iterate 3 refine stp ?_
    refine kall rfl (c_ROpenBad (d := DK.new 20) (G.new_ok (by omega)) (by simpa [DK.new] using hbad)) ?_
    rintro _ _ ⟨rfl, rfl⟩
    iterate 5 refine stp ?_
    refine WPL.nil ?_
    refine WPC.prune [(0, _), (1, _), (2, _), (6, _), (7, _), (8, _), (10, _), (12, _), (14, _), (15, _), (16, _)] sbb ?_
    refine WPC.seq ?_
    refine WPC.seqR ?_
    iterate 3 refine stp ?_
    refine L_no rfl rfl rfl rfl ?_
    refine L_no rfl rfl rfl rfl ?_
    refine stp ?_
    refine WPL.nil ?_
    refine WPC.cond rfl (fun h1 => ?_) (fun h1 => ?_)
    · skip
      refine WPC.seqR ?_
      iterate 2 refine stp ?_
      iterate 2 refine stpY rfl rfl ?_
      iterate 2 refine stp ?_
      iterate 2 refine stpY rfl rfl ?_
      iterate 2 refine stp ?_
      iterate 3 refine stpY rfl rfl ?_
      iterate 2 refine stp ?_
      refine WPL.nil ?_
      refine WPC.prune [(0, _), (1, _), (2, _), (6, _), (7, _), (8, _), (10, _), (12, _), (14, _), (15, _), (16, _)] sbb ?_
      refine WPC.ret ?_
      refine thenQ_r ?_
      exact endR_r rfl (.tmp rfl .nil) Imp.pk ⟨by simp [packV], rfl⟩
    · try simp only [decide_eq_true_eq, decide_eq_false_iff_not, beq_iff_eq, bne_iff_ne, beq_eq_false_iff_ne, bne_eq_false_iff_eq, Bool.not_eq_true', Bool.not_eq_false', Bool.not_eq_eq_eq_not, Bool.not_true, Bool.not_false, ne_eq, Decidable.not_not, Int.not_lt, Int.not_le, gt_iff_lt, ge_iff_le] at h1
      simp at h1

end Go.Sl
/- Walks: JournalAgain. -/
namespace Go.Sl
open Go Go.RowKit Go.Proofs
set_option linter.unusedSimpArgs false
set_option linter.unusedVariables false
attribute [local irreducible] faB szB ldB zB zL slB mkB arB plB intB cells objc star stars buf slv grp whole Sat WPC WPL WPA WPO WPQ Trip Q1 E1 S1 C1

theorem c_OpenR {db : Nat} {d d2 : DK} {j2 : JN} {n : Nat} (hn : 1 ≤ n ∧ n ≤ 17) (hl : d.seen.length = 20) (hd : d.ok) (hpl : d.pend.length < 600000) (h : jopen0 d 1 n = (d2, some j2, 0)) : Trip Tryd.prog 14 #[.pointer (some ⟨db, 0, none⟩), .int .i64 1, .int .i64 (n : Int)] [disk db d, tblA]
    (fun r Δ => ∃ (b : Nat) (a : Option Addr) (c : Nat) (ys : List BS), r = .tuple #[.pointer (some ⟨b, 0, none⟩), .slice a ys.length c, .int .i64 0] ∧ Sok 1 a ys.length c (ys.map bsV) ∧ ys.map BS.bs = j2.held.map (·.2) ∧ (∀ y ∈ ys, y.ok) ∧ Δ = [jour b db j2, disk db d2, sl false a (ys.map bsV), bytes ys]) := by
  refine (c_OpenJ (db := db) hn hl hd hpl h).post ?_
  rintro v _ ⟨b, a, c, ys, rfl, h1, h2, h3, rfl⟩
  refine ⟨_, ⟨b, a, c, ys, rfl, h1, h2, h3, rfl⟩, ?_⟩
  exact ((Imp.pk (Δ := [buf 1 a ys.length c (ys.map bsV), jour b db j2, disk db d2, bytes ys])).trans Imp.bufRo).trans ((Imp.drop _ _).trans Imp.pk)
theorem bs_bound {ys : List BS} {l : List (Nat × List By)} (h : ys.map BS.bs = l.map (·.2)) (hb : ∀ x ∈ l, x.2.length ≤ 43) (ho : ∀ y ∈ ys, y.ok) : ∀ y ∈ ys, y.ok ∧ y.bs.length ≤ 9223372036854775807 := fun y hy => by
  have h1 : y.bs ∈ l.map (·.2) := by rw [← h]; exact List.mem_map_of_mem hy
  obtain ⟨x, hx, e⟩ := List.mem_map.1 h1
  have := hb x hx
  rw [e] at this
  exact ⟨ho y hy, by omega⟩
theorem bs_len {ys : List BS} {l : List (Nat × List By)} (h : ys.map BS.bs = l.map (·.2)) : ys.length = l.length := by have := congrArg List.length h; simpa using this

theorem c_AgainNil {D : A} (hD : Pers D) {n : Int} {a : Option Addr} {c : Nat} {ops : List OpV} (hs : Sok 4 a ops.length c (ops.flatMap encO)) {ba : Option Addr} {bc : Nat} {bs : List By} (hb : Sok 1 ba bs.length bc (bs.map u8)) (hg : ¬ (1 ≤ n ∧ n ≤ 17 ∧ ops.length ≤ 30)) : Trip Tryd.prog 5 #[.int .i64 n, .slice a ops.length c, .slice ba bs.length bc] [sl false a (ops.flatMap encO), tblA, D, sl false ba (bs.map u8)] fun r Δ => r = .bool true ∧ Δ = [] := by
  refine Trip.start 120 [.tmp 6] [(0, .int .i64 n), (1, .slice a ops.length c), (2, .slice ba bs.length bc)] Tryd.func5 rfl Tryd.ntmps5 rfl ⟨rfl, rfl, rfl, trivial⟩ rfl ?_
  refine WPC.seqR ?_
  refine stp ?_
  refine WPL.nil ?_
  refine WPC.seqR ?_
  refine kall rfl c_awake ?_
  rintro _ _ ⟨rfl, rfl⟩
  refine stp ?_
  refine WPL.nil ?_
  refine WPC.seqR ?_
  iterate 2 refine stp ?_
  refine kall rfl (c_madeNil hD hs hg) ?_
  rintro _ _ ⟨rfl, rfl⟩
  iterate 5 refine stp ?_
  refine WPL.nil ?_
  refine WPC.seq ?_
  refine WPC.seqR ?_
  iterate 3 refine stp ?_
  apply WPL.joinO (e' := [(0, _), (2, _), (6, _), (7, _), (8, _), (9, _)]) 30 33 3 rfl
  · intro g3_2
    try simp only [decide_eq_true_eq, decide_eq_false_iff_not, beq_iff_eq, bne_iff_ne, beq_eq_false_iff_ne, bne_eq_false_iff_eq, Bool.not_eq_true', Bool.not_eq_false', Bool.not_eq_eq_eq_not, Bool.not_true, Bool.not_false, ne_eq, Decidable.not_not, Int.not_lt, Int.not_le, gt_iff_lt, ge_iff_le] at g3_2
    refine L_no rfl rfl rfl rfl ?_
    refine L_no rfl rfl rfl rfl ?_
    refine stp ?_
    first | exact WPL.jn rfl rfl sbb | exact WPL.jnI rfl rfl sbb Imp.pk
  · intro g3_2
    try simp only [decide_eq_true_eq, decide_eq_false_iff_not, beq_iff_eq, bne_iff_ne, beq_eq_false_iff_ne, bne_eq_false_iff_eq, Bool.not_eq_true', Bool.not_eq_false', Bool.not_eq_eq_eq_not, Bool.not_true, Bool.not_false, ne_eq, Decidable.not_not, Int.not_lt, Int.not_le, gt_iff_lt, ge_iff_le] at g3_2
    iterate 2 refine stpY rfl rfl ?_
    refine stp ?_
    first | exact WPL.jn rfl rfl sbb | exact WPL.jnI rfl rfl sbb Imp.pk
  refine WPL.nil ?_
  refine WPC.cond rfl (fun h0 => ?_) (fun h0 => ?_)
  · skip
    refine WPC.seqR ?_
    iterate 2 refine stp ?_
    refine WPL.nil ?_
    refine WPC.ret ?_
    refine thenQ_r ?_
    exact endR_r rfl (.tmp rfl .nil) Imp.pk ⟨rfl, rfl⟩
  · try simp only [decide_eq_true_eq, decide_eq_false_iff_not, beq_iff_eq, bne_iff_ne, beq_eq_false_iff_ne, bne_eq_false_iff_eq, Bool.not_eq_true', Bool.not_eq_false', Bool.not_eq_eq_eq_not, Bool.not_true, Bool.not_false, ne_eq, Decidable.not_not, Int.not_lt, Int.not_le, gt_iff_lt, ge_iff_le] at h0
    simp at h0

theorem c_Again {D : A} (hD : Pers D) {n : Nat} {a : Option Addr} {c : Nat} {ops : List OpV} (hs : Sok 4 a ops.length c (ops.flatMap encO)) {ba : Option Addr} {bc : Nat} {bs : List By} (hb : Sok 1 ba bs.length bc (bs.map u8)) (hn : 1 ≤ n ∧ n ≤ 17) (hlen : ops.length ≤ 30) (hops : OpsD D ops) : Trip Tryd.prog 5 #[.int .i64 (n : Int), .slice a ops.length c, .slice ba bs.length bc] [sl false a (ops.flatMap encO), tblA, D, sl false ba (bs.map u8)] fun r Δ => r = .bool true ∧ Δ = [] := by
  refine Trip.start 120 [.tmp 6] [(0, .int .i64 (n : Int)), (1, .slice a ops.length c), (2, .slice ba bs.length bc)] Tryd.func5 rfl Tryd.ntmps5 rfl ⟨rfl, rfl, rfl, trivial⟩ rfl ?_
  refine WPC.seqR ?_
  refine stp ?_
  refine WPL.nil ?_
  refine WPC.seqR ?_
  refine kall rfl c_awake ?_
  rintro _ _ ⟨rfl, rfl⟩
  refine stp ?_
  refine WPL.nil ?_
  refine WPC.seqR ?_
  iterate 2 refine stp ?_
  refine kall rfl (c_made hD hs hn hlen hops) ?_
  rintro _ _ ⟨db, b, d, j, T, hT, rfl, ⟨old, fr, hJ⟩, rfl⟩
  have hb0 := hJ.hb
  have hhl := hJ.hlen
  have hn1 := hJ.n1
  have hhn := hJ.hl
  have hpl := hJ.pl
  iterate 5 refine stp ?_
  refine WPL.nil ?_
  refine WPC.seq ?_
  refine WPC.seqR ?_
  iterate 3 refine stp ?_
  apply WPL.joinO (e' := [(0, _), (2, _), (6, _), (7, _), (8, _), (9, _)]) 30 33 3 rfl
  · intro g3_2
    try simp only [decide_eq_true_eq, decide_eq_false_iff_not, beq_iff_eq, bne_iff_ne, beq_eq_false_iff_ne, bne_eq_false_iff_eq, Bool.not_eq_true', Bool.not_eq_false', Bool.not_eq_eq_eq_not, Bool.not_true, Bool.not_false, ne_eq, Decidable.not_not, Int.not_lt, Int.not_le, gt_iff_lt, ge_iff_le] at g3_2
    refine L_no rfl rfl rfl rfl ?_
    refine L_no rfl rfl rfl rfl ?_
    refine stp ?_
    first | exact WPL.jn rfl rfl sbb | exact WPL.jnI rfl rfl sbb Imp.pk
  · intro g3_2
    try simp only [decide_eq_true_eq, decide_eq_false_iff_not, beq_iff_eq, bne_iff_ne, beq_eq_false_iff_ne, bne_eq_false_iff_eq, Bool.not_eq_true', Bool.not_eq_false', Bool.not_eq_eq_eq_not, Bool.not_true, Bool.not_false, ne_eq, Decidable.not_not, Int.not_lt, Int.not_le, gt_iff_lt, ge_iff_le] at g3_2
    iterate 2 refine stpY rfl rfl ?_
    refine stp ?_
    first | exact WPL.jn rfl rfl sbb | exact WPL.jnI rfl rfl sbb Imp.pk
  refine WPL.nil ?_
  refine WPC.cond rfl (fun h0 => ?_) (fun h0 => ?_)
  · try simp only [decide_eq_true_eq, decide_eq_false_iff_not, beq_iff_eq, bne_iff_ne, beq_eq_false_iff_ne, bne_eq_false_iff_eq, Bool.not_eq_true', Bool.not_eq_false', Bool.not_eq_eq_eq_not, Bool.not_true, Bool.not_false, ne_eq, Decidable.not_not, Int.not_lt, Int.not_le, gt_iff_lt, ge_iff_le] at h0
    simp at h0
  · skip
    refine WPC.skip ?_
    refine thenQ_n ?_
    refine WPC.seqR ?_
    refine stp ?_
    refine kall rfl (c_JSync hJ.ok (by omega)) ?_
    rintro _ _ ⟨rfl, rfl⟩
    have hS := sync_sure hJ
    obtain ⟨d1, j1, ho1, hJ1, hh1⟩ := only_sure hS (by omega)
    obtain ⟨d2, j2, ho2, hJ2, hh2⟩ := only_sure hJ1 (by omega)
    obtain ⟨d3, j3, g, hap, hcase⟩ := append_inv hJ2 (by omega) bs
    have hpl1 := hS.pl
    have hpl2 := hJ1.pl
    have hpl3 := hJ2.pl
    refine WPL.nil ?_
    refine WPC.seqR ?_
    refine stp ?_
    refine kall rfl (c_All (by intro x hx; have := hb0 x hx; omega) (by omega)) ?_
    rintro _ _ ⟨a1, c1, ys, rfl, hys, hye, hyo, rfl⟩
    have hyl := bs_len hye
    refine WPL.imp (Imp.pk (Δ := [buf 1 a1 ys.length c1 (ys.map bsV), bytes ys, jour b db j, disk db d.sync, sl false ba (bs.map u8), tblA])) ?_
    refine WPL.bufOpen fun sp hsk hsp => ?_
    refine stp ?_
    refine WPL.nil ?_
    refine WPC.seqR ?_
    iterate 2 refine stp ?_
    refine kall rfl (c_OpenR hn hS.len hS.ok (by omega) ho1) ?_
    rintro _ _ ⟨b1, a2, c2, zs, rfl, hzs, hze, hzo, rfl⟩
    rw [hh1] at hze
    have hzb := bs_bound hze hb0 hzo
    have hzl := bs_len hze
    have e1 : decide (zs.map BS.bs = ys.map BS.bs) = true := by rw [hze, hye]; exact decide_eq_true rfl
    iterate 7 refine stp ?_
    refine WPL.nil ?_
    refine WPC.seqR ?_
    iterate 2 refine stp ?_
    refine kall rfl (c_OpenR hn hJ1.len hJ1.ok (by omega) ho2) ?_
    rintro _ _ ⟨b2, a3, c3, vs, rfl, hvs, hve, hvo, rfl⟩
    rw [hh2] at hve
    have hvb := bs_bound hve hb0 hvo
    have hvl := bs_len hve
    have e2 : decide (vs.map BS.bs = ys.map BS.bs) = true := by rw [hve, hye]; exact decide_eq_true rfl
    iterate 7 refine stp ?_
    refine WPL.nil ?_
    refine WPC.prune [(0, _), (2, _), (6, _), (7, _), (8, _), (10, _), (12, _), (13, _), (14, _), (15, _), (16, _)] sbb ?_
    refine WPC.seq ?_
    refine WPC.seqR ?_
    iterate 3 refine stp ?_
    apply WPL.joinO (e' := [(0, _), (2, _), (6, _), (7, _), (8, _), (10, _), (12, _), (14, _), (15, _), (16, _)]) 55 58 3 rfl
    · intro g9_2
      try simp only [decide_eq_true_eq, decide_eq_false_iff_not, beq_iff_eq, bne_iff_ne, beq_eq_false_iff_ne, bne_eq_false_iff_eq, Bool.not_eq_true', Bool.not_eq_false', Bool.not_eq_eq_eq_not, Bool.not_true, Bool.not_false, ne_eq, Decidable.not_not, Int.not_lt, Int.not_le, gt_iff_lt, ge_iff_le] at g9_2
      refine L_no rfl rfl rfl rfl ?_
      refine L_no rfl rfl rfl rfl ?_
      refine stp ?_
      first | exact WPL.jn rfl rfl sbb | exact WPL.jnI rfl rfl sbb Imp.pk
    · intro g9_2
      try simp only [decide_eq_true_eq, decide_eq_false_iff_not, beq_iff_eq, bne_iff_ne, beq_eq_false_iff_ne, bne_eq_false_iff_eq, Bool.not_eq_true', Bool.not_eq_false', Bool.not_eq_eq_eq_not, Bool.not_true, Bool.not_false, ne_eq, Decidable.not_not, Int.not_lt, Int.not_le, gt_iff_lt, ge_iff_le] at g9_2
      iterate 2 refine stpY rfl rfl ?_
      refine stp ?_
      first | exact WPL.jn rfl rfl sbb | exact WPL.jnI rfl rfl sbb Imp.pk
    refine stp ?_
    apply WPL.joinO (e' := [(0, _), (2, _), (6, _), (7, _), (8, _), (10, _), (12, _), (14, _), (15, _)]) 59 62 3 rfl
    · intro g9_6
      try simp only [decide_eq_true_eq, decide_eq_false_iff_not, beq_iff_eq, bne_iff_ne, beq_eq_false_iff_ne, bne_eq_false_iff_eq, Bool.not_eq_true', Bool.not_eq_false', Bool.not_eq_eq_eq_not, Bool.not_true, Bool.not_false, ne_eq, Decidable.not_not, Int.not_lt, Int.not_le, gt_iff_lt, ge_iff_le] at g9_6
      refine L_no rfl rfl rfl rfl ?_
      refine L_no rfl rfl rfl rfl ?_
      refine stp ?_
      first | exact WPL.jn rfl rfl sbb | exact WPL.jnI rfl rfl sbb Imp.pk
    · intro g9_6
      try simp only [decide_eq_true_eq, decide_eq_false_iff_not, beq_iff_eq, bne_iff_ne, beq_eq_false_iff_ne, bne_eq_false_iff_eq, Bool.not_eq_true', Bool.not_eq_false', Bool.not_eq_eq_eq_not, Bool.not_true, Bool.not_false, ne_eq, Decidable.not_not, Int.not_lt, Int.not_le, gt_iff_lt, ge_iff_le] at g9_6
      iterate 2 refine stpY rfl rfl ?_
      refine stp ?_
      first | exact WPL.jn rfl rfl sbb | exact WPL.jnI rfl rfl sbb Imp.pk
    refine stp ?_
    apply WPL.joinO (e' := [(0, _), (2, _), (6, _), (7, _), (8, _), (10, _), (14, _), (15, _)]) 63 68 5 rfl
    · intro g9_10
      try simp only [decide_eq_true_eq, decide_eq_false_iff_not, beq_iff_eq, bne_iff_ne, beq_eq_false_iff_ne, bne_eq_false_iff_eq, Bool.not_eq_true', Bool.not_eq_false', Bool.not_eq_eq_eq_not, Bool.not_true, Bool.not_false, ne_eq, Decidable.not_not, Int.not_lt, Int.not_le, gt_iff_lt, ge_iff_le] at g9_10
      refine L_no rfl rfl rfl rfl ?_
      refine L_no rfl rfl rfl rfl ?_
      refine L_no rfl rfl rfl rfl ?_
      refine L_no rfl rfl rfl rfl ?_
      refine stp ?_
      first | exact WPL.jn rfl rfl sbb | exact WPL.jnI rfl rfl sbb Imp.pk
    · intro g9_10
      try simp only [decide_eq_true_eq, decide_eq_false_iff_not, beq_iff_eq, bne_iff_ne, beq_eq_false_iff_ne, bne_eq_false_iff_eq, Bool.not_eq_true', Bool.not_eq_false', Bool.not_eq_eq_eq_not, Bool.not_true, Bool.not_false, ne_eq, Decidable.not_not, Int.not_lt, Int.not_le, gt_iff_lt, ge_iff_le] at g9_10
      iterate 2 refine stpY rfl rfl ?_
      refine L_eyes rfl rfl rfl (C1.call (c_call Tryd.func15 rfl rfl rfl) (c_Same06 (p := false) (q := true) hzs hys (by omega) hzb hyo) pkk rfl ?_)
      rintro _ _ ⟨rfl, rfl⟩
      rw [e1]
      refine WPL.putS ?_
      refine stpY rfl rfl ?_
      refine stp ?_
      first | exact WPL.jn rfl rfl sbb | exact WPL.jnI rfl rfl sbb Imp.pk
    refine stp ?_
    apply WPL.joinO (e' := [(0, _), (2, _), (6, _), (7, _), (8, _), (10, _), (14, _)]) 69 74 5 rfl
    · intro g9_16
      try simp only [decide_eq_true_eq, decide_eq_false_iff_not, beq_iff_eq, bne_iff_ne, beq_eq_false_iff_ne, bne_eq_false_iff_eq, Bool.not_eq_true', Bool.not_eq_false', Bool.not_eq_eq_eq_not, Bool.not_true, Bool.not_false, ne_eq, Decidable.not_not, Int.not_lt, Int.not_le, gt_iff_lt, ge_iff_le] at g9_16
      refine L_no rfl rfl rfl rfl ?_
      refine L_no rfl rfl rfl rfl ?_
      refine L_no rfl rfl rfl rfl ?_
      refine L_no rfl rfl rfl rfl ?_
      refine stp ?_
      first | exact WPL.jn rfl rfl sbb | exact WPL.jnI rfl rfl sbb Imp.pk
    · intro g9_16
      try simp only [decide_eq_true_eq, decide_eq_false_iff_not, beq_iff_eq, bne_iff_ne, beq_eq_false_iff_ne, bne_eq_false_iff_eq, Bool.not_eq_true', Bool.not_eq_false', Bool.not_eq_eq_eq_not, Bool.not_true, Bool.not_false, ne_eq, Decidable.not_not, Int.not_lt, Int.not_le, gt_iff_lt, ge_iff_le] at g9_16
      iterate 2 refine stpY rfl rfl ?_
      refine L_eyes rfl rfl rfl (C1.call (c_call Tryd.func15 rfl rfl rfl) (c_Same06 (p := false) (q := true) hvs hys (by omega) hvb hyo) pkk rfl ?_)
      rintro _ _ ⟨rfl, rfl⟩
      rw [e2]
      refine WPL.putS ?_
      refine stpY rfl rfl ?_
      refine stp ?_
      first | exact WPL.jn rfl rfl sbb | exact WPL.jnI rfl rfl sbb Imp.pk
    refine WPL.nil ?_
    refine WPC.cond rfl (fun h1 => ?_) (fun h1 => ?_)
    · try simp only [decide_eq_true_eq, decide_eq_false_iff_not, beq_iff_eq, bne_iff_ne, beq_eq_false_iff_ne, bne_eq_false_iff_eq, Bool.not_eq_true', Bool.not_eq_false', Bool.not_eq_eq_eq_not, Bool.not_true, Bool.not_false, ne_eq, Decidable.not_not, Int.not_lt, Int.not_le, gt_iff_lt, ge_iff_le] at h1
      simp at h1
    · skip
      refine WPC.skip ?_
      refine thenQ_n ?_
      refine WPC.seqR ?_
      iterate 2 refine stp ?_
      refine kall rfl (c_JAppend hJ2.jok hJ2.ok (by omega) hb) ?_
      rintro _ _ ⟨rfl, rfl⟩
      rw [hap]
      refine stp ?_
      refine WPL.nil ?_
      refine WPC.seq ?_
      refine WPC.seqR ?_
      iterate 2 refine stp ?_
      refine WPL.nil ?_
      refine WPC.midS (fun e Γ => ∃ (a4 : Option Addr) (c4 : Nat) (qs : List BS), Inv n (T + 3) d3 j3 ∧ qs.map BS.bs = j3.held.map (·.2) ∧ (∀ q ∈ qs, q.ok) ∧ Sok 1 a4 qs.length c4 (qs.map bsV) ∧ (g = 0 ∨ 43 < bs.length ∨ qs.length = n) ∧ e = [(0, .int .i64 (n : Int)), (2, .slice ba bs.length bc), (7, .bool true), (8, .pointer (some ⟨db, 0, none⟩)), (10, .slice a4 qs.length c4), (14, .pointer (some ⟨b2, 0, none⟩)), (17, .int .i64 g)] ∧ Γ = [jour b2 db j3, disk db d3, sl false a4 (qs.map bsV), bytes qs, tblA]) ?_ ?_
      · refine WPC.cond rfl (fun h2 => ?_) (fun h2 => ?_)
        · have hg0 : g = 0 := by simpa using h2
          obtain ⟨hg1, hb43, hh3, hep3, hJ3⟩ : g = 0 ∧ bs.length ≤ 43 ∧ j3.held = j2.held ++ [(j2.epoch, bs)] ∧ j3.epoch = j2.epoch ∧ JInv n (T + 1 + 1 + 1) d3 j3 j.held ([] ++ [bs]) := by
            rcases hcase with h | h
            · exact absurd hg0 h.1
            · exact h
          refine WPC.region ?_
          iterate 2 refine stp ?_
          refine nwb [_] fun bE => ?_
          refine WPL.imp ((Imp.pk (Δ := [sl true a1 (ys.map bsV), cells true (blk a1) (off a1 + (ys.map bsV).length) sp, cells true bE 0 [.slice ba bs.length bc], jour b2 db j3, disk db d3, bytes ys, sl false ba (bs.map u8), tblA])).trans (Imp.bufClose hsk hsp)) ?_
          refine WPL.cons rfl (E1.wpo (e_append (m := 1) (news := [bsV ⟨bs, ba, bs.length, bc⟩]) mk_sl_sl_uint8 (by decide) rfl rfl pk1 (Rd.part (i := 0) (b := bE) (o := 0) (vs := [bsV ⟨bs, ba, bs.length, bc⟩]) mm rfl rfl rfl) (by simp [Value.oneCell']) (by omega) (by omega)) rfl ?_)
          rintro _ _ ⟨a4, c4, rfl, -, rfl⟩
          rw [show ys.map bsV ++ [bsV ⟨bs, ba, bs.length, bc⟩] = (ys ++ [(⟨bs, ba, bs.length, bc⟩ : BS)]).map bsV by simp, show ys.length + 1 = (ys ++ [(⟨bs, ba, bs.length, bc⟩ : BS)]).length by simp]
          refine WPL.putS ?_
          refine WPL.imp ((Imp.pk (Δ := [BS.at_ ⟨bs, ba, bs.length, bc⟩, bytes ys, jour b2 db j3, disk db d3, buf 1 a4 (ys ++ [(⟨bs, ba, bs.length, bc⟩ : BS)]).length c4 ((ys ++ [(⟨bs, ba, bs.length, bc⟩ : BS)]).map bsV), tblA])).trans bytes_snoc) ?_
          refine WPL.imp ((Imp.pk (Δ := [buf 1 a4 (ys ++ [(⟨bs, ba, bs.length, bc⟩ : BS)]).length c4 ((ys ++ [(⟨bs, ba, bs.length, bc⟩ : BS)]).map bsV), jour b2 db j3, disk db d3, bytes (ys ++ [(⟨bs, ba, bs.length, bc⟩ : BS)]), tblA])).trans Imp.bufRo) ?_
          refine WPL.pure fun hsk2 => ?_
          refine stp ?_
          refine WPL.nil ?_
          skip
          refine thenQ_n ?_
          exact ⟨rfl, _, _, ⟨_, _, (ys ++ [(⟨bs, ba, bs.length, bc⟩ : BS)]), ⟨_, _, hJ3⟩, by rw [hh3, hh2]; simp [hye], fun q hq => (List.mem_append.1 hq).elim (hyo q) (fun h => by rw [List.mem_singleton.1 h]; exact hb), hsk2, .inl hg0, rfl, rfl⟩, sbb, Imp.pk⟩
        · have hg0 : g ≠ 0 := by simpa using h2
          obtain ⟨-, hd3, hj3, hwhy⟩ : g ≠ 0 ∧ d3 = d2 ∧ j3 = j2 ∧ (43 < bs.length ∨ j2.held.length = n) := by
            rcases hcase with h | h
            · exact h
            · exact absurd h.1 hg0
          subst hd3 hj3
          refine WPC.imp ((Imp.pk (Δ := [sl true a1 (ys.map bsV), jour b2 db j3, disk db d3, bytes ys, tblA])).trans (Imp.freeze _ _ _ _)) ?_
          refine WPC.skip ?_
          refine thenQ_n ?_
          exact ⟨rfl, _, _, ⟨_, _, ys, ⟨_, _, hJ2.mono (by omega) (by omega)⟩, by rw [hh2]; exact hye, hyo, hsk, .inr (hwhy.imp id fun h => by rw [hyl, ← hh2]; exact h), rfl, rfl⟩, sbb, Imp.pk⟩
      · clear hys hye hyo hsp hsk
        rintro e Γ ⟨a4, c4, qs, ⟨old3, fr3, hJ3⟩, hqe, hqo, hqs, hg, rfl, rfl⟩
        have hpl4 := hJ3.pl
        have hql := bs_len hqe
        refine WPC.seqR ?_
        refine stp ?_
        refine kall rfl (c_JSync hJ3.ok (by omega)) ?_
        rintro _ _ ⟨rfl, rfl⟩
        have hS3 := sync_sure hJ3
        have hT3 := hS3.pl
        obtain ⟨d5, j5, ho5, hJ5, hh5⟩ := crash_sure hS3 (by omega) []
        refine WPL.nil ?_
        refine WPC.seqR ?_
        refine stp ?_
        refine WPL.imp (Imp.slEmpty (p := false) (a := none)) ?_
        refine kall rfl (c_Crash (ps := []) (a := none) (c := 0) (q := false) hS3.ok (by omega) ⟨rfl, Nat.le_refl _, .inl rfl⟩) ?_
        rintro _ _ ⟨rfl, rfl⟩
        refine WPL.nil ?_
        refine WPC.seqR ?_
        iterate 2 refine stp ?_
        refine kall rfl (c_OpenR hn ((Inv.clen ⟨_, _, hS3⟩) _) (hS3.ok.crash _) (by rw [crash_pl]; omega) ho5) ?_
        rintro _ _ ⟨b5, a5, c5, us, rfl, hus, hue, huo, rfl⟩
        rw [hh5] at hue
        have hub := bs_bound hue hJ3.hb huo
        have hul := bs_len hue
        have hh3l := Inv.hlen ⟨_, _, hJ3⟩
        have e5 : decide (us.map BS.bs = qs.map BS.bs) = true := by rw [hue, hqe]; exact decide_eq_true rfl
        iterate 7 refine stp ?_
        refine WPL.nil ?_
        refine WPC.seqR ?_
        iterate 2 refine stp ?_
        apply WPL.joinA (e' := [(0, _), (2, _), (10, _), (17, _), (19, _)]) 96 99 3 rfl
        · intro g17_1
          try simp only [decide_eq_true_eq, decide_eq_false_iff_not, beq_iff_eq, bne_iff_ne, beq_eq_false_iff_ne, bne_eq_false_iff_eq, Bool.not_eq_true', Bool.not_eq_false', Bool.not_eq_eq_eq_not, Bool.not_true, Bool.not_false, ne_eq, Decidable.not_not, Int.not_lt, Int.not_le, gt_iff_lt, ge_iff_le] at g17_1
          iterate 2 refine stpY rfl rfl ?_
          refine stp ?_
          first | exact WPL.jn rfl rfl sbb | exact WPL.jnI rfl rfl sbb Imp.pk
        · intro g17_1
          try simp only [decide_eq_true_eq, decide_eq_false_iff_not, beq_iff_eq, bne_iff_ne, beq_eq_false_iff_ne, bne_eq_false_iff_eq, Bool.not_eq_true', Bool.not_eq_false', Bool.not_eq_eq_eq_not, Bool.not_true, Bool.not_false, ne_eq, Decidable.not_not, Int.not_lt, Int.not_le, gt_iff_lt, ge_iff_le] at g17_1
          refine L_no rfl rfl rfl rfl ?_
          refine L_no rfl rfl rfl rfl ?_
          refine stp ?_
          first | exact WPL.jn rfl rfl sbb | exact WPL.jnI rfl rfl sbb Imp.pk
        refine stp ?_
        apply WPL.joinA (e' := [(0, _), (2, _), (10, _), (17, _)]) 100 104 4 rfl
        · intro g17_5
          try simp only [decide_eq_true_eq, decide_eq_false_iff_not, beq_iff_eq, bne_iff_ne, beq_eq_false_iff_ne, bne_eq_false_iff_eq, Bool.not_eq_true', Bool.not_eq_false', Bool.not_eq_eq_eq_not, Bool.not_true, Bool.not_false, ne_eq, Decidable.not_not, Int.not_lt, Int.not_le, gt_iff_lt, ge_iff_le] at g17_5
          iterate 2 refine stpY rfl rfl ?_
          refine L_eyes rfl rfl rfl (C1.call (c_call Tryd.func15 rfl rfl rfl) (c_Same06 (p := false) (q := false) hus hqs (by omega) hub hqo) pkk rfl ?_)
          rintro _ _ ⟨rfl, rfl⟩
          rw [e5]
          refine WPL.putS ?_
          refine stp ?_
          first | exact WPL.jn rfl rfl sbb | exact WPL.jnI rfl rfl sbb Imp.pk
        · intro g17_5
          try simp only [decide_eq_true_eq, decide_eq_false_iff_not, beq_iff_eq, bne_iff_ne, beq_eq_false_iff_ne, bne_eq_false_iff_eq, Bool.not_eq_true', Bool.not_eq_false', Bool.not_eq_eq_eq_not, Bool.not_true, Bool.not_false, ne_eq, Decidable.not_not, Int.not_lt, Int.not_le, gt_iff_lt, ge_iff_le] at g17_5
          refine L_no rfl rfl rfl rfl ?_
          refine L_no rfl rfl rfl rfl ?_
          refine L_no rfl rfl rfl rfl ?_
          refine stp ?_
          first | exact WPL.jn rfl rfl sbb | exact WPL.jnI rfl rfl sbb Imp.pk
        refine stp ?_
        apply WPL.joinA (e' := []) 105 119 14 rfl
        · intro g17_10
          try simp only [decide_eq_true_eq, decide_eq_false_iff_not, beq_iff_eq, bne_iff_ne, beq_eq_false_iff_ne, bne_eq_false_iff_eq, Bool.not_eq_true', Bool.not_eq_false', Bool.not_eq_eq_eq_not, Bool.not_true, Bool.not_false, ne_eq, Decidable.not_not, Int.not_lt, Int.not_le, gt_iff_lt, ge_iff_le] at g17_10
          iterate 3 refine stpY rfl rfl ?_
          apply WPL.joinO (e' := [(0, _), (10, _), (105, _)]) 108 112 4 rfl
          · intro g17_13
            try simp only [decide_eq_true_eq, decide_eq_false_iff_not, beq_iff_eq, bne_iff_ne, beq_eq_false_iff_ne, bne_eq_false_iff_eq, Bool.not_eq_true', Bool.not_eq_false', Bool.not_eq_eq_eq_not, Bool.not_true, Bool.not_false, ne_eq, Decidable.not_not, Int.not_lt, Int.not_le, gt_iff_lt, ge_iff_le] at g17_13
            refine L_no rfl rfl rfl rfl ?_
            refine L_no rfl rfl rfl rfl ?_
            refine L_no rfl rfl rfl rfl ?_
            refine stpY rfl rfl ?_
            first | exact WPL.jn rfl rfl sbb | exact WPL.jnI rfl rfl sbb Imp.pk
          · intro g17_13
            try simp only [decide_eq_true_eq, decide_eq_false_iff_not, beq_iff_eq, bne_iff_ne, beq_eq_false_iff_ne, bne_eq_false_iff_eq, Bool.not_eq_true', Bool.not_eq_false', Bool.not_eq_eq_eq_not, Bool.not_true, Bool.not_false, ne_eq, Decidable.not_not, Int.not_lt, Int.not_le, gt_iff_lt, ge_iff_le] at g17_13
            iterate 4 refine stpY rfl rfl ?_
            first | exact WPL.jn rfl rfl sbb | exact WPL.jnI rfl rfl sbb Imp.pk
          refine stpY rfl rfl ?_
          apply WPL.joinO (e' := [(105, _)]) 113 118 5 rfl
          · intro g17_18
            try simp only [decide_eq_true_eq, decide_eq_false_iff_not, beq_iff_eq, bne_iff_ne, beq_eq_false_iff_ne, bne_eq_false_iff_eq, Bool.not_eq_true', Bool.not_eq_false', Bool.not_eq_eq_eq_not, Bool.not_true, Bool.not_false, ne_eq, Decidable.not_not, Int.not_lt, Int.not_le, gt_iff_lt, ge_iff_le] at g17_18
            refine L_no rfl rfl rfl rfl ?_
            refine L_no rfl rfl rfl rfl ?_
            refine L_no rfl rfl rfl rfl ?_
            refine L_no rfl rfl rfl rfl ?_
            refine stpY rfl rfl ?_
            first | exact WPL.jn rfl rfl sbb | exact WPL.jnI rfl rfl sbb Imp.pk
          · intro g17_18
            try simp only [decide_eq_true_eq, decide_eq_false_iff_not, beq_iff_eq, bne_iff_ne, beq_eq_false_iff_ne, bne_eq_false_iff_eq, Bool.not_eq_true', Bool.not_eq_false', Bool.not_eq_eq_eq_not, Bool.not_true, Bool.not_false, ne_eq, Decidable.not_not, Int.not_lt, Int.not_le, gt_iff_lt, ge_iff_le] at g17_18
            iterate 5 refine stpY rfl rfl ?_
            first | exact WPL.jn rfl rfl sbb | exact WPL.jnI rfl rfl sbb Imp.pk
          refine stp ?_
          first | exact WPL.jn rfl rfl sbb | exact WPL.jnI rfl rfl sbb Imp.pk
        · intro g17_10
          try simp only [decide_eq_true_eq, decide_eq_false_iff_not, beq_iff_eq, bne_iff_ne, beq_eq_false_iff_ne, bne_eq_false_iff_eq, Bool.not_eq_true', Bool.not_eq_false', Bool.not_eq_eq_eq_not, Bool.not_true, Bool.not_false, ne_eq, Decidable.not_not, Int.not_lt, Int.not_le, gt_iff_lt, ge_iff_le] at g17_10
          refine L_no rfl rfl rfl rfl ?_
          refine L_no rfl rfl rfl rfl ?_
          refine L_no rfl rfl rfl rfl ?_
          refine L_off rfl rfl rfl ?_
          refine L_off rfl rfl rfl ?_
          refine L_off rfl rfl rfl ?_
          refine L_no rfl rfl rfl rfl ?_
          refine L_no rfl rfl rfl rfl ?_
          refine L_off rfl rfl rfl ?_
          refine L_off rfl rfl rfl ?_
          refine L_off rfl rfl rfl ?_
          refine L_off rfl rfl rfl ?_
          refine L_no rfl rfl rfl rfl ?_
          refine stp ?_
          first | exact WPL.jn rfl rfl sbb | exact WPL.jnI rfl rfl sbb Imp.pk
        refine stp ?_
        refine WPL.nil ?_
        refine WPC.ret ?_
        exact endR_r rfl (.tmp rfl .nil) Imp.pk ⟨by simp only [packV]; congr 1; simp; omega, rfl⟩

end Go.Sl
/- Walks: JournalGaps. -/
namespace Go.Sl
open Go Go.RowKit Go.Proofs
set_option linter.unusedSimpArgs false
set_option linter.unusedVariables false
attribute [local irreducible] faB szB ldB zB zL slB mkB arB plB intB cells objc star stars buf slv grp whole Sat WPC WPL WPA WPO WPQ Trip Q1 E1 S1 C1

theorem Inv.hln {n T : Nat} {d : DK} {j : JN} (h : Inv n T d j) : j.held.length ≤ n := by
  obtain ⟨_, _, h⟩ := h
  have h2 := h.hl; have h3 := h.hlen
  omega
theorem c_AllR {b db : Nat} {j : JN} (hb : ∀ x ∈ j.held, x.2.length ≤ 43) (hn : j.held.length ≤ 1000) : Trip Tryd.prog 11 #[.pointer (some ⟨b, 0, none⟩)] [jour b db j] (fun r Δ => ∃ (a : Option Addr) (c : Nat) (ys : List BS), r = .slice a ys.length c ∧ Sok 1 a ys.length c (ys.map bsV) ∧ ys.map BS.bs = j.held.map (·.2) ∧ (∀ y ∈ ys, y.ok) ∧ Δ = [jour b db j, sl false a (ys.map bsV), bytes ys]) := by
  refine (c_All (b := b) (db := db) (fun x hx => by have := hb x hx; omega) hn).post ?_
  rintro v _ ⟨a, c, ys, rfl, h1, h2, h3, rfl⟩
  refine ⟨_, ⟨a, c, ys, rfl, h1, h2, h3, rfl⟩, ?_⟩
  exact ((Imp.pk (Δ := [buf 1 a ys.length c (ys.map bsV), jour b db j, bytes ys])).trans Imp.bufRo).trans ((Imp.drop _ _).trans Imp.pk)
theorem c_Same06g {a a2 : Option Addr} {c c2 n1 n2 : Nat} {p q : Bool} {ys zs : List BS} (h1 : ys.length = n1) (h2 : zs.length = n2) (hs : Sok 1 a n1 c (ys.map bsV)) (ht : Sok 1 a2 n2 c2 (zs.map bsV)) (hx : ys.length ≤ 9223372036854775807) (hy : ∀ y ∈ ys, y.ok ∧ y.bs.length ≤ 9223372036854775807) (hz : ∀ z ∈ zs, z.ok) :
    Trip Tryd.prog 15 #[.slice a n1 c, .slice a2 n2 c2] [sl p a (ys.map bsV), bytes ys, sl q a2 (zs.map bsV), bytes zs] (fun r Δ => r = .bool (decide (ys.map BS.bs = zs.map BS.bs)) ∧ Δ = [sl p a (ys.map bsV), sl q a2 (zs.map bsV)]) := by
  subst h1 h2
  exact c_Same06 hs ht hx hy hz
theorem c_apI {b db bA n T : Nat} {d : DK} {j : JN} (xs : List By) {vs : List Value} (hv : vs = xs.map u8) (hI : Inv n T d j) : Trip Tryd.prog 12 #[.pointer (some ⟨b, 0, none⟩), .slice (some ⟨bA, 0, none⟩) xs.length xs.length] [jour b db j, disk db d, tblA, cells true bA 0 vs] (fun r Δ => r = .int .i64 (jappend d j xs).2.2 ∧ Δ = [jour b db (jappend d j xs).2.1, disk db (jappend d j xs).1]) := by
  subst hv
  have hpl := hI.pl
  refine Trip.imp ((Imp.pk (Δ := [cells true bA 0 (xs.map u8), jour b db j, disk db d, tblA])).trans ((Imp.freeze _ _ _ _).trans Imp.pk)) (c_JAppend (a := some ⟨bA, 0, none⟩) (c := xs.length) hI.jok hI.ok (by omega) ⟨by simp, Nat.le_refl _, .inr (Pl.mk _ _)⟩)
/-- What a crash leaves is the beginning of what there was. -/
theorem gaps_take {H : List (Nat × List By)} {E i : Nat} {fr : List (List By)} (hi : i ≤ fr.length) : (H ++ frE E (fr.take i)).map (·.2) = ((H ++ frE E fr).map (·.2)).take (H.length + i) := by
  have e : ∀ l : List (List By), (frE E l).map (·.2) = l := fun l => by unfold frE; rw [List.map_map]; exact List.map_id l
  rw [List.map_append, List.map_append, e, e, show H.length + i = (H.map (·.2)).length + i by rw [List.length_map], List.take_length_add_append]
theorem map_take_bs {zs : List BS} (m : Nat) : (zs.take m).map BS.bs = (zs.map BS.bs).take m := by rw [List.map_take]
theorem map_drop_bs {zs : List BS} (m : Nat) : (zs.drop m).map BS.bs = (zs.map BS.bs).drop m := by rw [List.map_drop]
def MoreD (D : A) (l : List BS) : Prop := ∀ x ∈ l, x.ok ∧ ∀ Γ, Imp (D :: Γ) (x.at_ :: D :: Γ)

theorem c_GapsNil {D : A} (hD : Pers D) {n : Int} {a : Option Addr} {c : Nat} {ops : List OpV} (hs : Sok 4 a ops.length c (ops.flatMap encO)) {ma pa : Option Addr} {mc pc : Nat} {more : List BS} {ps : List Int} (hm : Sok 1 ma more.length mc (more.map bsV)) (hp : Sok 1 pa ps.length pc (ps.map (.int .i64))) (hg : ¬ (1 ≤ n ∧ n ≤ 17 ∧ ops.length ≤ 30)) : Trip Tryd.prog 3 #[.int .i64 n, .slice a ops.length c, .slice ma more.length mc, .slice pa ps.length pc] [sl false a (ops.flatMap encO), tblA, D, sl false ma (more.map bsV), sl false pa (ps.map (.int .i64))] fun r Δ => r = .bool true ∧ Δ = [] := by
  refine Trip.start 100 [.tmp 8] [(0, .int .i64 n), (1, .slice a ops.length c), (2, .slice ma more.length mc), (3, .slice pa ps.length pc)] Tryd.func3 rfl Tryd.ntmps3 rfl ⟨rfl, rfl, rfl, rfl, trivial⟩ rfl ?_
  refine WPC.seqR ?_
  refine stp ?_
  refine WPL.nil ?_
  refine WPC.seqR ?_
  refine kall rfl c_awake ?_
  rintro _ _ ⟨rfl, rfl⟩
  refine stp ?_
  refine WPL.nil ?_
  refine WPC.seqR ?_
  iterate 2 refine stp ?_
  refine kall rfl (c_madeNil hD hs hg) ?_
  rintro _ _ ⟨rfl, rfl⟩
  iterate 5 refine stp ?_
  refine WPL.nil ?_
  refine WPC.seq ?_
  refine WPC.seqR ?_
  iterate 3 refine stp ?_
  apply WPL.joinO (e' := [(0, _), (2, _), (3, _), (8, _), (9, _), (10, _), (11, _)]) 28 31 3 rfl
  · intro g3_2
    try simp only [decide_eq_true_eq, decide_eq_false_iff_not, beq_iff_eq, bne_iff_ne, beq_eq_false_iff_ne, bne_eq_false_iff_eq, Bool.not_eq_true', Bool.not_eq_false', Bool.not_eq_eq_eq_not, Bool.not_true, Bool.not_false, ne_eq, Decidable.not_not, Int.not_lt, Int.not_le, gt_iff_lt, ge_iff_le] at g3_2
    refine L_no rfl rfl rfl rfl ?_
    refine L_no rfl rfl rfl rfl ?_
    refine stp ?_
    first | exact WPL.jn rfl rfl sbb | exact WPL.jnI rfl rfl sbb Imp.pk
  · intro g3_2
    try simp only [decide_eq_true_eq, decide_eq_false_iff_not, beq_iff_eq, bne_iff_ne, beq_eq_false_iff_ne, bne_eq_false_iff_eq, Bool.not_eq_true', Bool.not_eq_false', Bool.not_eq_eq_eq_not, Bool.not_true, Bool.not_false, ne_eq, Decidable.not_not, Int.not_lt, Int.not_le, gt_iff_lt, ge_iff_le] at g3_2
    iterate 2 refine stpY rfl rfl ?_
    refine stp ?_
    first | exact WPL.jn rfl rfl sbb | exact WPL.jnI rfl rfl sbb Imp.pk
  refine stp ?_
  apply WPL.joinO (e' := [(0, _), (2, _), (3, _), (8, _), (9, _), (10, _), (11, _)]) 32 36 4 rfl
  · intro g3_6
    try simp only [decide_eq_true_eq, decide_eq_false_iff_not, beq_iff_eq, bne_iff_ne, beq_eq_false_iff_ne, bne_eq_false_iff_eq, Bool.not_eq_true', Bool.not_eq_false', Bool.not_eq_eq_eq_not, Bool.not_true, Bool.not_false, ne_eq, Decidable.not_not, Int.not_lt, Int.not_le, gt_iff_lt, ge_iff_le] at g3_6
    refine L_no rfl rfl rfl rfl ?_
    refine L_no rfl rfl rfl rfl ?_
    refine L_no rfl rfl rfl rfl ?_
    refine stp ?_
    first | exact WPL.jn rfl rfl sbb | exact WPL.jnI rfl rfl sbb Imp.pk
  · intro g3_6
    try simp only [decide_eq_true_eq, decide_eq_false_iff_not, beq_iff_eq, bne_iff_ne, beq_eq_false_iff_ne, bne_eq_false_iff_eq, Bool.not_eq_true', Bool.not_eq_false', Bool.not_eq_eq_eq_not, Bool.not_true, Bool.not_false, ne_eq, Decidable.not_not, Int.not_lt, Int.not_le, gt_iff_lt, ge_iff_le] at g3_6
    iterate 3 refine stpY rfl rfl ?_
    refine stp ?_
    first | exact WPL.jn rfl rfl sbb | exact WPL.jnI rfl rfl sbb Imp.pk
  refine WPL.nil ?_
  refine WPC.cond rfl (fun h0 => ?_) (fun h0 => ?_)
  · skip
    refine WPC.seqR ?_
    iterate 2 refine stp ?_
    refine WPL.nil ?_
    refine WPC.ret ?_
    refine thenQ_r ?_
    exact endR_r rfl (.tmp rfl .nil) Imp.pk ⟨rfl, rfl⟩
  · try simp only [decide_eq_true_eq, decide_eq_false_iff_not, beq_iff_eq, bne_iff_ne, beq_eq_false_iff_ne, bne_eq_false_iff_eq, Bool.not_eq_true', Bool.not_eq_false', Bool.not_eq_eq_eq_not, Bool.not_true, Bool.not_false, ne_eq, Decidable.not_not, Int.not_lt, Int.not_le, gt_iff_lt, ge_iff_le] at h0
    simp at h0

theorem c_Gaps {D : A} (hD : Pers D) {n : Nat} {a : Option Addr} {c : Nat} {ops : List OpV} (hs : Sok 4 a ops.length c (ops.flatMap encO)) {ma pa : Option Addr} {mc pc : Nat} {more : List BS} {ps : List Int} (hm : Sok 1 ma more.length mc (more.map bsV)) (hp : Sok 1 pa ps.length pc (ps.map (.int .i64))) (hn : 1 ≤ n ∧ n ≤ 17) (hlen : ops.length ≤ 30) (hops : OpsD D ops) (hmore : MoreD D more) : Trip Tryd.prog 3 #[.int .i64 (n : Int), .slice a ops.length c, .slice ma more.length mc, .slice pa ps.length pc] [sl false a (ops.flatMap encO), tblA, D, sl false ma (more.map bsV), sl false pa (ps.map (.int .i64))] fun r Δ => r = .bool true ∧ Δ = [] := by
  refine Trip.start 100 [.tmp 8] [(0, .int .i64 (n : Int)), (1, .slice a ops.length c), (2, .slice ma more.length mc), (3, .slice pa ps.length pc)] Tryd.func3 rfl Tryd.ntmps3 rfl ⟨rfl, rfl, rfl, rfl, trivial⟩ rfl ?_
  refine WPC.seqR ?_
  refine stp ?_
  refine WPL.nil ?_
  refine WPC.seqR ?_
  refine kall rfl c_awake ?_
  rintro _ _ ⟨rfl, rfl⟩
  refine stp ?_
  refine WPL.nil ?_
  refine WPC.seqR ?_
  iterate 2 refine stp ?_
  refine kall rfl (c_made hD hs hn hlen hops) ?_
  rintro _ _ ⟨db, b, d, j, T, hT, rfl, ⟨old, fr0, hJ⟩, rfl⟩
  have hb0 := hJ.hb
  have hhl := hJ.hlen
  have hn1 := hJ.n1
  have hhn := hJ.hl
  have hpl := hJ.pl
  iterate 5 refine stp ?_
  refine WPL.nil ?_
  refine WPC.seq ?_
  refine WPC.seqR ?_
  iterate 3 refine stp ?_
  apply WPL.joinO (e' := [(0, _), (2, _), (3, _), (8, _), (9, _), (10, _), (11, _)]) 28 31 3 rfl
  · intro g3_2
    try simp only [decide_eq_true_eq, decide_eq_false_iff_not, beq_iff_eq, bne_iff_ne, beq_eq_false_iff_ne, bne_eq_false_iff_eq, Bool.not_eq_true', Bool.not_eq_false', Bool.not_eq_eq_eq_not, Bool.not_true, Bool.not_false, ne_eq, Decidable.not_not, Int.not_lt, Int.not_le, gt_iff_lt, ge_iff_le] at g3_2
    refine L_no rfl rfl rfl rfl ?_
    refine L_no rfl rfl rfl rfl ?_
    refine stp ?_
    first | exact WPL.jn rfl rfl sbb | exact WPL.jnI rfl rfl sbb Imp.pk
  · intro g3_2
    try simp only [decide_eq_true_eq, decide_eq_false_iff_not, beq_iff_eq, bne_iff_ne, beq_eq_false_iff_ne, bne_eq_false_iff_eq, Bool.not_eq_true', Bool.not_eq_false', Bool.not_eq_eq_eq_not, Bool.not_true, Bool.not_false, ne_eq, Decidable.not_not, Int.not_lt, Int.not_le, gt_iff_lt, ge_iff_le] at g3_2
    iterate 2 refine stpY rfl rfl ?_
    refine stp ?_
    first | exact WPL.jn rfl rfl sbb | exact WPL.jnI rfl rfl sbb Imp.pk
  refine stp ?_
  apply WPL.joinO (e' := [(0, _), (2, _), (3, _), (8, _), (9, _), (10, _), (11, _)]) 32 36 4 rfl
  · intro g3_6
    try simp only [decide_eq_true_eq, decide_eq_false_iff_not, beq_iff_eq, bne_iff_ne, beq_eq_false_iff_ne, bne_eq_false_iff_eq, Bool.not_eq_true', Bool.not_eq_false', Bool.not_eq_eq_eq_not, Bool.not_true, Bool.not_false, ne_eq, Decidable.not_not, Int.not_lt, Int.not_le, gt_iff_lt, ge_iff_le] at g3_6
    refine L_no rfl rfl rfl rfl ?_
    refine L_no rfl rfl rfl rfl ?_
    refine L_no rfl rfl rfl rfl ?_
    refine stp ?_
    first | exact WPL.jn rfl rfl sbb | exact WPL.jnI rfl rfl sbb Imp.pk
  · intro g3_6
    try simp only [decide_eq_true_eq, decide_eq_false_iff_not, beq_iff_eq, bne_iff_ne, beq_eq_false_iff_ne, bne_eq_false_iff_eq, Bool.not_eq_true', Bool.not_eq_false', Bool.not_eq_eq_eq_not, Bool.not_true, Bool.not_false, ne_eq, Decidable.not_not, Int.not_lt, Int.not_le, gt_iff_lt, ge_iff_le] at g3_6
    iterate 3 refine stpY rfl rfl ?_
    refine stp ?_
    first | exact WPL.jn rfl rfl sbb | exact WPL.jnI rfl rfl sbb Imp.pk
  refine WPL.nil ?_
  refine WPC.cond rfl (fun h0 => ?_) (fun h0 => ?_)
  · skip
    refine WPC.seqR ?_
    iterate 2 refine stp ?_
    refine WPL.nil ?_
    refine WPC.ret ?_
    refine thenQ_r ?_
    exact endR_r rfl (.tmp rfl .nil) Imp.pk ⟨rfl, rfl⟩
  · have hml : more.length ≤ 10 := by simp at h0; omega
    refine WPC.skip ?_
    refine thenQ_n ?_
    refine WPC.seqR ?_
    refine stp ?_
    refine kall rfl (c_JSync hJ.ok (by omega)) ?_
    rintro _ _ ⟨rfl, rfl⟩
    have hS := sync_sure hJ
    refine WPL.nil ?_
    refine WPC.seqR ?_
    refine stp ?_
    refine kall rfl (c_AllR hb0 (by omega)) ?_
    rintro _ _ ⟨a1, c1, ys, rfl, hys, hye, hyo, rfl⟩
    have hyl := bs_len hye
    refine stp ?_
    refine WPL.nil ?_
    refine WPC.seqR ?_
    refine stp ?_
    refine kall rfl (c_All (by intro x hx; have := hb0 x hx; omega) (by omega)) ?_
    rintro _ _ ⟨a2, c2, zs, rfl, hzs, hze, hzo, rfl⟩
    refine stp ?_
    refine WPL.nil ?_
    refine WPC.seq ?_
    refine WPC.seqR ?_
    refine stp ?_
    refine WPL.nil ?_
    refine WPC.block ?_
    refine WPC.loopS (fun m e Γ => ∃ (k : Nat) (d2 : DK) (j2 : JN) (fr : List (List By)) (a2 : Option Addr) (c2 : Nat) (zs : List BS), m = more.length - k ∧ k ≤ more.length ∧ JInv n (T + k) d2 j2 j.held fr ∧ zs.map BS.bs = j2.held.map (·.2) ∧ (∀ z ∈ zs, z.ok) ∧ e = [(0, .int .i64 (n : Int)), (2, .slice ma more.length mc), (3, .slice pa ps.length pc), (9, .bool true), (10, .pointer (some ⟨db, 0, none⟩)), (11, .pointer (some ⟨b, 0, none⟩)), (12, .slice a1 ys.length c1), (13, .slice a2 zs.length c2), (14, .int .i64 (k : Int))] ∧ Γ = [jour b db j2, disk db d2, buf 1 a2 zs.length c2 (zs.map bsV), bytes zs, sl false ma (more.map bsV), sl false pa (ps.map (.int .i64)), tblA, D]) (more.length) ⟨0, d.sync, j, [], a2, c2, zs, rfl, by omega, hS, hze, hzo, rfl, rfl⟩ sbb Imp.pk ?_
    clear hze hzo hzs
    rintro m e Γ ⟨k, d2, j2, fr, a2, c2, zs, rfl, hk, hJ2, hze, hzo, rfl, rfl⟩
    have hzl := bs_len hze
    have hj2l := Inv.hlen ⟨_, _, hJ2⟩
    have hpl2 := hJ2.pl
    refine WPC.seq ?_
    refine WPC.seqR ?_
    iterate 4 refine stp ?_
    refine WPL.nil ?_
    refine WPC.cond rfl (fun h1 => ?_) (fun h1 => ?_)
    · simp only [decide_eq_true_eq, Int.ofNat_lt] at h1
      have hpm : Pl ma := hm.at (by omega) (by omega)
      obtain ⟨x, hx1⟩ : ∃ x, more[k]? = some x := ⟨more[k], by simp [h1]⟩
      have hxD := hmore x (List.mem_of_getElem? hx1)
      have hxn := hxD.1.n
      have hxo := hxD.1
      unfold BS.ok at hxo
      rw [hxn] at hxo
      obtain ⟨d3, j3, g, hap, hcase⟩ := append_inv hJ2 (by omega) x.bs
      have exV : bsV x = .slice x.a x.bs.length x.c := by simp only [bsV, hxn]
      refine WPC.skip ?_
      refine thenQ_n ?_
      refine WPC.seq ?_
      refine WPC.block ?_
      refine WPC.seqR ?_
      iterate 3 refine stp ?_
      refine L_s (q_idxN (i := k) sl_sl_sl_uint8 rfl rfl h1 hpm) rfl ?_
      refine L_s (show Q1 _ _ _ _ (bsV x) from q_ldMap (f := bsV) ld_sl_uint8 rfl mm hx1) rfl ?_
      rw [exV]
      refine WPL.imp ((Imp.pk (Δ := [D, jour b db j2, disk db d2, buf 1 a2 zs.length c2 (zs.map bsV), bytes zs, sl false ma (more.map bsV), sl false pa (ps.map (.int .i64)), tblA])).trans (hxD.2 _)) ?_
      refine kall rfl (c_JAppend hJ2.jok hJ2.ok (by omega) hxo) ?_
      rintro _ _ ⟨rfl, rfl⟩
      rw [hap]
      refine stp ?_
      refine WPL.nil ?_
      refine WPC.seqR ?_
      iterate 2 refine stp ?_
      refine WPL.nil ?_
      refine WPC.cond rfl (fun h2 => ?_) (fun h2 => ?_)
      · have hg0 : g = 0 := by simpa using h2
        obtain ⟨hg1, hb43, hh3, hep3, hJ3⟩ : g = 0 ∧ x.bs.length ≤ 43 ∧ j3.held = j2.held ++ [(j2.epoch, x.bs)] ∧ j3.epoch = j2.epoch ∧ JInv n (T + k + 1) d3 j3 j.held (fr ++ [x.bs]) := by
          rcases hcase with h | h
          · exact absurd hg0 h.1
          · exact h
        refine WPC.region ?_
        iterate 3 refine stp ?_
        refine L_s (q_idxN (i := k) sl_sl_sl_uint8 rfl rfl h1 hpm) rfl ?_
        refine L_s (show Q1 _ _ _ _ (bsV x) from q_ldMap (f := bsV) ld_sl_uint8 rfl mm hx1) rfl ?_
        refine nwb [_] fun bE => ?_
        refine WPL.cons rfl (E1.wpo (e_append (m := 1) (news := [bsV x]) mk_sl_sl_uint8 (by decide) rfl rfl pk1 (Rd.part (i := 0) (b := bE) (o := 0) (vs := [bsV x]) mm rfl rfl rfl) (by simp [Value.oneCell']) (by omega) (by omega)) rfl ?_)
        rintro _ _ ⟨a4, c4, rfl, -, rfl⟩
        rw [show zs.map bsV ++ [bsV x] = (zs ++ [x]).map bsV by simp, show zs.length + 1 = (zs ++ [x]).length by simp]
        refine WPL.putS ?_
        refine WPL.imp ((Imp.pk (Δ := [BS.at_ x, bytes zs, jour b db j3, disk db d3, buf 1 a4 (zs ++ [x]).length c4 ((zs ++ [x]).map bsV), sl false ma (more.map bsV), sl false pa (ps.map (.int .i64)), tblA, D])).trans bytes_snoc) ?_
        refine stp ?_
        refine WPL.nil ?_
        refine blockQ_n ?_
        refine thenQ_n ?_
        refine WPC.region ?_
        iterate 3 refine stp ?_
        refine WPL.nil ?_
        refine thenQ_n ?_
        exact ⟨rfl, _, _, _, by omega, ⟨k + 1, _, _, _, _, _, zs ++ [x], rfl, by omega, hJ3, by rw [hh3]; simp [hze], fun z hz => (List.mem_append.1 hz).elim (hzo z) (fun h => by rw [List.mem_singleton.1 h]; exact hxD.1), rfl, rfl⟩, sbb, Imp.pk⟩
      · have hg0 : g ≠ 0 := by simpa using h2
        obtain ⟨-, hd3, hj3, -⟩ : g ≠ 0 ∧ d3 = d2 ∧ j3 = j2 ∧ (43 < x.bs.length ∨ j2.held.length = n) := by
          rcases hcase with h | h
          · exact h
          · exact absurd h.1 hg0
        subst hd3 hj3
        refine WPC.skip ?_
        refine blockQ_n ?_
        refine thenQ_n ?_
        refine WPC.region ?_
        iterate 3 refine stp ?_
        refine WPL.nil ?_
        refine thenQ_n ?_
        exact ⟨rfl, _, _, _, by omega, ⟨k + 1, _, _, _, _, _, zs, rfl, by omega, hJ2.mono (by omega) (by omega), hze, hzo, rfl, rfl⟩, sbb, Imp.pk⟩
    · simp only [decide_eq_false_iff_not, Int.ofNat_lt] at h1
      refine WPC.exit ?_
      refine thenQ_e ?_
      refine thenQ_e ?_
      refine blockQ_here ?_
      refine thenQ_n ?_
      refine WPC.seqR ?_
      iterate 2 refine stp ?_
      refine WPL.imp ((Imp.pk (Δ := [buf 1 a2 zs.length c2 (zs.map bsV), disk db d2, bytes zs, sl false pa (ps.map (.int .i64)), tblA])).trans Imp.bufRo) ?_
      refine WPL.pure fun hzs => ?_
      obtain ⟨i, d5, j5, hi, ho5, hJ5, hh5⟩ := crash_open hJ2 (by omega) ps
      have hh2 := hJ2.heldE
      refine kall rfl (c_Crash (q := false) hJ2.ok (by omega) hp) ?_
      rintro _ _ ⟨rfl, rfl⟩
      refine WPL.nil ?_
      refine WPC.seqR ?_
      iterate 2 refine stp ?_
      refine kall rfl (c_OpenR hn ((Inv.clen ⟨_, _, hJ2⟩) _) (hJ2.ok.crash _) (by rw [crash_pl]; omega) ho5) ?_
      rintro _ _ ⟨b5, a5, c5, us, rfl, hus, hue, huo, rfl⟩
      have hub := bs_bound hue hJ5.hb huo
      have hul := bs_len hue
      have hj5 : j5.held.length = j.held.length + i := by rw [hh5, List.length_append, frE_len, List.length_take]; omega
      have hj2 : j2.held.length = j.held.length + fr.length := by rw [hh2, List.length_append, frE_len]
      have hucap := hzs.cap
      have htl : (zs.take us.length).length = us.length := by rw [List.length_take]; omega
      have e5 : decide (us.map BS.bs = (zs.take us.length).map BS.bs) = true := by
        rw [map_take_bs, hue, hze, hh5, hh2, gaps_take hi, hul, hj5]; exact decide_eq_true rfl
      iterate 7 refine stp ?_
      refine WPL.nil ?_
      refine WPC.prune [(9, _), (12, _), (13, _), (17, _), (18, _)] sbb ?_
      refine WPC.seq ?_
      refine WPC.seqR ?_
      iterate 3 refine stp ?_
      apply WPL.joinO (e' := [(9, _), (13, _), (17, _)]) 77 83 6 rfl
      · intro g16_2
        try simp only [decide_eq_true_eq, decide_eq_false_iff_not, beq_iff_eq, bne_iff_ne, beq_eq_false_iff_ne, bne_eq_false_iff_eq, Bool.not_eq_true', Bool.not_eq_false', Bool.not_eq_eq_eq_not, Bool.not_true, Bool.not_false, ne_eq, Decidable.not_not, Int.not_lt, Int.not_le, gt_iff_lt, ge_iff_le] at g16_2
        refine L_no rfl rfl rfl rfl ?_
        refine L_no rfl rfl rfl rfl ?_
        refine L_no rfl rfl rfl rfl ?_
        refine L_no rfl rfl rfl rfl ?_
        refine L_no rfl rfl rfl rfl ?_
        refine stp ?_
        first | exact WPL.jn rfl rfl sbb | exact WPL.jnI rfl rfl sbb Imp.pk
      · intro g16_2
        try simp only [decide_eq_true_eq, decide_eq_false_iff_not, beq_iff_eq, bne_iff_ne, beq_eq_false_iff_ne, bne_eq_false_iff_eq, Bool.not_eq_true', Bool.not_eq_false', Bool.not_eq_eq_eq_not, Bool.not_true, Bool.not_false, ne_eq, Decidable.not_not, Int.not_lt, Int.not_le, gt_iff_lt, ge_iff_le] at g16_2
        iterate 5 refine stpY rfl rfl ?_
        refine stp ?_
        first | exact WPL.jn rfl rfl sbb | exact WPL.jnI rfl rfl sbb Imp.pk
      refine stp ?_
      apply WPL.joinO (e' := [(9, _), (13, _), (17, _)]) 84 90 6 rfl
      · intro g16_9
        try simp only [decide_eq_true_eq, decide_eq_false_iff_not, beq_iff_eq, bne_iff_ne, beq_eq_false_iff_ne, bne_eq_false_iff_eq, Bool.not_eq_true', Bool.not_eq_false', Bool.not_eq_eq_eq_not, Bool.not_true, Bool.not_false, ne_eq, Decidable.not_not, Int.not_lt, Int.not_le, gt_iff_lt, ge_iff_le] at g16_9
        refine L_no rfl rfl rfl rfl ?_
        refine L_no rfl rfl rfl rfl ?_
        refine L_no rfl rfl rfl rfl ?_
        refine L_no rfl rfl rfl rfl ?_
        refine L_no rfl rfl rfl rfl ?_
        refine stp ?_
        first | exact WPL.jn rfl rfl sbb | exact WPL.jnI rfl rfl sbb Imp.pk
      · intro g16_9
        try simp only [decide_eq_true_eq, decide_eq_false_iff_not, beq_iff_eq, bne_iff_ne, beq_eq_false_iff_ne, bne_eq_false_iff_eq, Bool.not_eq_true', Bool.not_eq_false', Bool.not_eq_eq_eq_not, Bool.not_true, Bool.not_false, ne_eq, Decidable.not_not, Int.not_lt, Int.not_le, gt_iff_lt, ge_iff_le] at g16_9
        iterate 5 refine stpY rfl rfl ?_
        refine stp ?_
        first | exact WPL.jn rfl rfl sbb | exact WPL.jnI rfl rfl sbb Imp.pk
      refine WPL.nil ?_
      refine WPC.cond rfl (fun h3 => ?_) (fun h3 => ?_)
      · try simp only [decide_eq_true_eq, decide_eq_false_iff_not, beq_iff_eq, bne_iff_ne, beq_eq_false_iff_ne, bne_eq_false_iff_eq, Bool.not_eq_true', Bool.not_eq_false', Bool.not_eq_eq_eq_not, Bool.not_true, Bool.not_false, ne_eq, Decidable.not_not, Int.not_lt, Int.not_le, gt_iff_lt, ge_iff_le] at h3
        simp at h3
        omega
      · skip
        refine WPC.skip ?_
        refine thenQ_n ?_
        refine WPC.seqR ?_
        iterate 2 refine stp ?_
        apply WPL.joinA (e' := []) 92 99 7 rfl
        · intro g18_1
          try simp only [decide_eq_true_eq, decide_eq_false_iff_not, beq_iff_eq, bne_iff_ne, beq_eq_false_iff_ne, bne_eq_false_iff_eq, Bool.not_eq_true', Bool.not_eq_false', Bool.not_eq_eq_eq_not, Bool.not_true, Bool.not_false, ne_eq, Decidable.not_not, Int.not_lt, Int.not_le, gt_iff_lt, ge_iff_le] at g18_1
          iterate 4 refine stpY rfl rfl ?_
          refine L_yes rfl rfl (q_sliceHi (j := us.length) sl_sl_sl_uint8 rfl rfl (by omega)) rfl ?_
          refine WPL.imp (((Imp.pk (Δ := [sl false a2 (zs.map bsV), sl false a2 (zs.map bsV), jour b5 db j5, disk db d5, bytes zs, sl false a5 (us.map bsV), bytes us, tblA, sl false pa (ps.map (.int .i64))])).trans (Imp.bsTake us.length)).trans ((Imp.pk (Δ := [bytes zs, sl false a2 ((zs.take us.length).map bsV), sl false a2 (zs.map bsV), jour b5 db j5, disk db d5, sl false a5 (us.map bsV), bytes us, tblA, sl false pa (ps.map (.int .i64))])).trans (bytes_sub (ys := zs.take us.length) fun y hy => List.mem_of_mem_take hy))) ?_
          refine L_eyes rfl rfl rfl (C1.call (c_call Tryd.func15 rfl rfl rfl) (c_Same06g (p := false) (q := false) rfl htl hus (hzs.bsTake (by omega)) (by omega) hub (fun z hz => hzo z (List.mem_of_mem_take hz))) pkk rfl ?_)
          rintro _ _ ⟨rfl, rfl⟩
          rw [e5]
          refine WPL.putS ?_
          refine stp ?_
          first | exact WPL.jn rfl rfl sbb | exact WPL.jnI rfl rfl sbb Imp.pk
        · intro g18_1
          try simp only [decide_eq_true_eq, decide_eq_false_iff_not, beq_iff_eq, bne_iff_ne, beq_eq_false_iff_ne, bne_eq_false_iff_eq, Bool.not_eq_true', Bool.not_eq_false', Bool.not_eq_eq_eq_not, Bool.not_true, Bool.not_false, ne_eq, Decidable.not_not, Int.not_lt, Int.not_le, gt_iff_lt, ge_iff_le] at g18_1
          refine L_no rfl rfl rfl rfl ?_
          refine L_no rfl rfl rfl rfl ?_
          refine L_no rfl rfl rfl rfl ?_
          refine L_no rfl rfl rfl rfl ?_
          refine L_no rfl rfl rfl rfl ?_
          refine WPL.imp (((Imp.pk (Δ := [sl false a2 (zs.map bsV), sl false a2 (zs.map bsV), jour b5 db j5, disk db d5, bytes zs, sl false a5 (us.map bsV), bytes us, tblA, sl false pa (ps.map (.int .i64))])).trans (Imp.bsTake us.length)).trans ((Imp.pk (Δ := [bytes zs, sl false a2 ((zs.take us.length).map bsV), sl false a2 (zs.map bsV), jour b5 db j5, disk db d5, sl false a5 (us.map bsV), bytes us, tblA, sl false pa (ps.map (.int .i64))])).trans (bytes_sub (ys := zs.take us.length) fun y hy => List.mem_of_mem_take hy))) ?_
          refine L_no rfl rfl rfl rfl ?_
          refine stp ?_
          first | exact WPL.jn rfl rfl sbb | exact WPL.jnI rfl rfl sbb Imp.pk
        refine stp ?_
        refine WPL.nil ?_
        refine WPC.ret ?_
        exact endR_r rfl (.tmp rfl .nil) Imp.pk ⟨rfl, rfl⟩

end Go.Sl
/- Crashes amid a call. -/
namespace Go.Sl
open Go
/-- Zeros that are torn over a stamp. -/
theorem torn_zero {q seq e : Nat} {b : List By} (hq : q ≤ 64) (hb : b.length ≤ 43) (h2 : seq < 4294967296) (h3 : e < 4294967296) : parse (torn q .zero (stampS seq e b)).1 = none ∨ torn q .zero (stampS seq e b) = stampS seq e b := by
  cases hp : parse (torn q .zero (stampS seq e b)).1 with
  | none => exact .inl rfl
  | some t =>
    obtain ⟨s', e', b'⟩ := t
    right
    obtain ⟨t1, -, t3, -, t5⟩ := tk_parse hp
    have hz : num Sec.zero.1 0 4 = 0 := rfl
    rcases Nat.lt_or_ge q 4 with h4 | h4
    · have hst := stamp_parts (seq := seq) (e := e) hb
      have e1 : tkS (torn q .zero (stampS seq e b)) = seq := by
        unfold tkS num
        rw [part_torn' hq (by omega)]
        exact (tk_stamp hb h2 h3).1
      have hh : num (stampS seq e b).1 0 4 = seq := by
        unfold num
        rw [stampS_val hb, hst.1, ofLE_le]
        exact Nat.mod_eq_of_lt h2
      have hl1 : (part (torn q .zero (stampS seq e b)).1 0 4).length = 4 := by have := (torn q .zero (stampS seq e b)).2; simp [part]; omega
      have hl2 : (part (stampS seq e b).1 0 4).length = 4 := by have := (stampS seq e b).2; simp [part]; omega
      have hpart : part (torn q .zero (stampS seq e b)).1 0 4 = part (stampS seq e b).1 0 4 := ofLE_inj (by rw [hl1, hl2]) (by
        show num _ 0 4 = num _ 0 4
        rw [t3, hh, ← t1, e1])
      have hdrop : (torn q .zero (stampS seq e b)).1.drop 4 = (stampS seq e b).1.drop 4 := by
        show (Sec.zero.1.take q ++ (stampS seq e b).1.drop q).drop 4 = _
        have hzl : (Sec.zero.1.take q).length = q := by have := Sec.zero.2; rw [List.length_take]; omega
        rw [List.drop_append, List.drop_eq_nil_of_le (by omega), hzl, List.nil_append, List.drop_drop]
        congr 1
        omega
      apply Subtype.ext
      rw [← List.take_append_drop 4 (torn q .zero (stampS seq e b)).1, ← List.take_append_drop 4 (stampS seq e b).1, hdrop]
      congr 1
    · exfalso
      have : num (torn q .zero (stampS seq e b)).1 0 4 = 0 := by
        unfold num
        rw [part_torn hq (by omega)]
        exact hz
      omega
theorem torn_same (q : Nat) (c : Sec) : torn q c c = c := by
  apply Subtype.ext
  exact List.take_append_drop q c.1
theorem parse_zero : parse Sec.zero.1 = none := by
  cases hp : parse Sec.zero.1 with
  | none => rfl
  | some t =>
    obtain ⟨s, e, b⟩ := t
    have := tk_parse hp
    rw [tk_zero.1] at this
    omega
/-- Opening, where one knows what the scan finds. -/
theorem held_open {n : Nat} {d : DK} {first epoch low : Nat} {l : List (Nat × List By)} (hup : Up d) (hok : d.ok) (hlen : d.seen.length = 20) (hn : 1 ≤ n ∧ n ≤ 17) (hvis : d.seen = flush d.sure d.pend)
    (hb : JN.begun d 1 n = some ⟨1, n, first, epoch, low, []⟩) (hseq : (last d ((1 : Nat) : Int)).seq ≤ 5000) (h1 : 1 ≤ first) (h2 : first + l.length ≤ 5000) (h3 : epoch ≤ 5000)
    (hc : chain d.seen 1 n epoch low first l) (hl : l.length ≤ n) (hs : l.length = n ∨ stops d.seen 1 n epoch (lastE low l) (first + l.length)) : ∃ d' j', jopen0 d 1 n = (d', some j', 0) ∧ j'.held = l := by
  have hscan : scanL d 1 n epoch n low first = l := scan_chain (by omega) (by omega) (by omega) l n low first (by omega) (by omega) hl hc hs
  obtain ⟨j1, hj1⟩ : ∃ j1 : JN, j1 = ⟨1, n, first, epoch, low, l⟩ := ⟨_, rfl⟩
  have hsc : (⟨1, n, first, epoch, low, []⟩ : JN).scanned d = j1 := by rw [hj1]; unfold JN.scanned; simp only; rw [hscan]
  have hnx : j1.next = first + l.length := by rw [hj1]; rfl
  have hpl : j1.place j1.next = 1 + 2 + (first + l.length) % n := by rw [hnx, hj1]; rfl
  have hmod := Nat.mod_lt (first + l.length) (show 0 < n by omega)
  have hD : ∃ d1, openD d j1 n = d1 ∧ Up d1 ∧ d1.ok ∧ d1.seen.length = 20 ∧ d1.seen = flush d1.sure d1.pend ∧ ring d1.seen 1 = ring d.seen 1 ∧ ring d1.seen 2 = ring d.seen 2 := by
    obtain ⟨o1, o2, -⟩ := openD_ok hok j1 n
    refine ⟨openD d j1 n, rfl, ?_, o1, by rw [o2, hlen], ?_, ?_, ?_⟩
    all_goals (unfold openD; rw [show j1.held = l by rw [hj1], hpl])
    · split
      · rw [write_up hup (by omega) (by simp)]; exact hup
      · exact hup
    · split
      · rw [write_up hup (by omega) (by simp)]
        simp only [DK.put]
        rw [flush_snoc, ← hvis]
      · exact hvis
    · split
      · rw [write_up hup (by omega) (by simp)]
        simp only [DK.put]
        rw [ring_set (by omega), if_neg (by omega)]
      · rfl
    · split
      · rw [write_up hup (by omega) (by simp)]
        simp only [DK.put]
        rw [ring_set (by omega), if_neg (by omega)]
      · rfl
  obtain ⟨d1, hd1, u1, ok1, len1, vis1, r1, r2⟩ := hD
  have hlast : last d1 ((1 : Nat) : Int) = last d ((1 : Nat) : Int) := last_cong (by omega) (by omega) r1 r2
  obtain ⟨d', hs', -⟩ := save_up (a := 1) (xs := (openJ j1).metaB) u1 ok1 (by omega) vis1 (by rw [hlast]; omega) (by rw [metaB_len]; omega)
  have hjs : jsave (openD d j1 n) (openJ j1) = (d', 0) := by
    rw [hd1]; unfold jsave
    rw [show (openJ j1).at_ = 1 by rw [hj1]; rfl]
    exact hs'
  have hep : (⟨1, n, first, epoch, low, []⟩ : JN).epoch ≠ 4294967295 := by show epoch ≠ _; omega
  have hJ := jopen0_ok hb hep (by rw [hsc, hjs])
  rw [hsc, hjs] at hJ
  exact ⟨d', openJ j1, hJ, by rw [hj1]; rfl⟩
/-- The first one that is no more. -/
theorem first_bad (P : Nat → Prop) [DecidablePred P] : ∀ L : Nat, ∃ m, m ≤ L ∧ (∀ i, i < m → ¬ P i) ∧ (m < L → P m)
  | 0 => ⟨0, by omega, by omega, by omega⟩
  | L + 1 => by
    obtain ⟨m, h1, h2, h3⟩ := first_bad P L
    by_cases hm : m < L
    · exact ⟨m, by omega, h2, fun _ => h3 hm⟩
    · have : m = L := by omega
      subst this
      by_cases hp : P m
      · exact ⟨m, by omega, h2, fun _ => hp⟩
      · exact ⟨m + 1, by omega, fun i hi => by
          rcases Nat.lt_or_ge i m with h | h
          · exact h2 i h
          · rw [show i = m by omega]; exact hp, by omega⟩
/-- Opening behind a crash amid a call: a beginning is held. -/
theorem amid_open {n : Nat} {dc : DK} {S : List Sec} {first E E' low m0 : Nat} {l : List (Nat × List By)} (hup : Up dc) (hok : dc.ok) (hlen : dc.seen.length = 20) (hn : 1 ≤ n ∧ n ≤ 17) (hvis : dc.seen = flush dc.sure dc.pend)
    (hb : JN.begun dc 1 n = some ⟨1, n, first, E', low, []⟩) (hE : E ≤ E') (hseq : (last dc ((1 : Nat) : Int)).seq ≤ 5000) (h1 : 1 ≤ first) (h2 : first + l.length ≤ 5000) (h3 : E' ≤ 5000)
    (hc : chain S 1 n E low first l) (hl : l.length ≤ n)
    (hr : ∀ i, i < l.length → ring dc.seen (1 + 2 + (first + i) % n) = ring S (1 + 2 + (first + i) % n) ∨ (m0 ≤ i ∧ parse (ring dc.seen (1 + 2 + (first + i) % n)).1 = none))
    (ht : l.length < n → ring dc.seen (1 + 2 + (first + l.length) % n) = ring S (1 + 2 + (first + l.length) % n))
    (hg : tkS (ring S (1 + 2 + (first + l.length) % n)) = first + l.length → tkE (ring S (1 + 2 + (first + l.length) % n)) < lastE low l) (hm0 : m0 ≤ l.length) :
    ∃ m d' j', m0 ≤ m ∧ m ≤ l.length ∧ jopen0 dc 1 n = (d', some j', 0) ∧ j'.held = l.take m := by
  obtain ⟨m, m1, m2, m3⟩ := first_bad (fun i => parse (ring dc.seen (1 + 2 + (first + i) % n)).1 = none) l.length
  have hm : m0 ≤ m := by
    rcases Nat.lt_or_ge m l.length with h | h
    · rcases Nat.lt_or_ge m m0 with h4 | h4
      · rcases hr m h with h5 | h5
        · exfalso
          have := m3 h
          obtain ⟨x, hx⟩ : ∃ x, l[m]? = some x := ⟨l[m], by simp [h]⟩
          have hcm := (chain_append (l.take m) (l.drop m) low first).1 (by rw [List.take_append_drop]; exact hc)
          have hdm : l.drop m = x :: l.drop (m + 1) := by rw [List.drop_eq_getElem_cons h]; congr 1; rw [List.getElem?_eq_getElem h] at hx; exact Option.some.inj hx
          rw [hdm, List.length_take, Nat.min_eq_left (by omega)] at hcm
          obtain ⟨c1, c2, -, c4, -⟩ := hcm.2
          rw [h5, c2, parse_stamp c1 (by omega) (by omega) (by omega)] at this
          cases this
        · omega
      · exact h4
    · omega
  have htl : (l.take m).length = m := by rw [List.length_take]; omega
  have hcm := (chain_append (l.take m) (l.drop m) low first).1 (by rw [List.take_append_drop]; exact hc)
  have hce : chain dc.seen 1 n E' low first (l.take m) := chain_E hE _ _ _ (chain_cong _ _ _ (fun k hk => by
    rw [htl] at hk
    rcases hr k (by omega) with h | h
    · exact h
    · exact absurd h.2 (m2 k hk)) hcm.1)
  obtain ⟨d', j', r1, r2⟩ := held_open (l := l.take m) hup hok hlen hn hvis hb hseq h1 (by rw [htl]; omega) h3 hce (by rw [htl]; omega) (by
    rw [htl]
    rcases Nat.lt_or_ge m l.length with h | h
    · right
      intro e' b' hp
      rw [m3 h] at hp
      cases hp
    · have hme : m = l.length := by omega
      subst hme
      rcases Nat.lt_or_ge l.length n with h4 | h4
      · right
        intro e' b' hp
        obtain ⟨t1, t2, -⟩ := tk_parse hp
        rw [ht h4] at t1 t2
        rw [List.take_length]
        have := hg t1
        rw [t2] at this
        exact .inl this
      · left; omega)
  exact ⟨m, d', j', hm, m1, r1, r2⟩
/-- A slot that a crash has torn: as it was, or anew. -/
theorem slot_torn {d dc : DK} {q : Nat} {xs : List By} (hq : q ≤ 64) (hso : SInv d) (hl : d.seen.length = 20) (hl2 : dc.seen.length = 20) (hs : (last d ((1 : Nat) : Int)).seq < 4294967295) (hx : xs.length ≤ 43)
    (ho : ring dc.seen (otherI d 1) = torn q (stampS ((last d ((1 : Nat) : Int)).seq + 1) 0 xs) (ring d.seen (otherI d 1))) (hc : ring dc.seen (3 - otherI d 1) = ring d.seen (3 - otherI d 1)) :
    last dc ((1 : Nat) : Int) = last d ((1 : Nat) : Int) ∨ ((last dc ((1 : Nat) : Int)).seq = (last d ((1 : Nat) : Int)).seq + 1 ∧ (last dc ((1 : Nat) : Int)).b = xs) := by
  by_cases hnew : torn q (stampS ((last d ((1 : Nat) : Int)).seq + 1) 0 xs) (ring d.seen (otherI d 1)) = stampS ((last d ((1 : Nat) : Int)).seq + 1) 0 xs
  · right
    obtain ⟨dn, hdn⟩ : ∃ dn : DK, dn = { d with seen := d.seen.set (otherI d 1) (stampS ((last d ((1 : Nat) : Int)).seq + 1) 0 xs) } := ⟨_, rfl⟩
    have hsn : dn.seen = d.seen.set (otherI d 1) (stampS ((last d ((1 : Nat) : Int)).seq + 1) 0 xs) := by rw [hdn]
    obtain ⟨e1, e2, -⟩ := last_next (a := 1) (by omega) hs hx hsn
    have hoth : otherI d 1 = 1 ∨ otherI d 1 = 2 := by unfold otherI; split <;> omega
    have hrn : ∀ p, ring dn.seen p = if p = otherI d 1 then stampS ((last d ((1 : Nat) : Int)).seq + 1) 0 xs else ring d.seen p := fun p => by rw [hsn, ring_set (by omega)]
    have hr : ∀ p, p = 1 ∨ p = 2 → ring dc.seen p = ring dn.seen p := by
      intro p hp
      rw [hrn]
      split
      · rename_i he; rw [he, ho, hnew]
      · rename_i he
        have : p = 3 - otherI d 1 := by omega
        rw [this, hc]
    have hle : dn.seen.length = 20 := by rw [hsn, List.length_set]; exact hl
    have : last dc ((1 : Nat) : Int) = last dn ((1 : Nat) : Int) := last_cong (by omega) (by omega) (hr 1 (.inl rfl)) (hr 2 (.inr rfl))
    rw [this]
    exact ⟨e1, e2⟩
  · left
    -- what is torn is none, or has a number below
    have hlow : pOk (ring dc.seen (otherI d 1)).1 = true → pS (ring dc.seen (otherI d 1)).1 < (last d ((1 : Nat) : Int)).seq := by
      intro hp
      rw [← pOk_tk hp]
      unfold pOk at hp
      cases hpp : parse (ring dc.seen (otherI d 1)).1 with
      | none => rw [hpp] at hp; cases hp
      | some t =>
        obtain ⟨s', e', b'⟩ := t
        rw [ho] at hpp
        rcases torn_taken hq hx hpp with h | h
        · exact absurd h hnew
        · have h5 := (tk_parse hpp).1
          rw [ho, h5, ← h.1]
          exact hso
    have hcur := last_cur (d := d) (a := 1) (by omega)
    obtain ⟨r, hr⟩ : ∃ r, last d ((1 : Nat) : Int) = r := ⟨_, rfl⟩
    have hpos : 0 < r.seq := by unfold SInv at hso; rw [hr] at hso; omega
    rw [hr] at hlow hcur ⊢
    have hr2 := hr
    rw [last_ring (by omega), lastStep_ring (by omega)] at hr2
    obtain ⟨o1, ho1⟩ : ∃ o, lastStep d ((1 : Nat) : Int) ⟨((1 + 1 : Nat) : Int), 0, []⟩ = o := ⟨_, rfl⟩
    rw [ho1] at hr2
    rw [lastStep_ring (by omega)] at ho1
    rw [last_ring (by omega), lastStep_ring (d := dc) (by omega), lastStep_ring (d := dc) (by omega)]
    by_cases hat : r.at_ = ((1 : Nat) : Int)
    · have hoI : otherI d 1 = 2 := by unfold otherI; rw [hr, if_pos hat]
      rw [hoI] at hlow hc
      have hro : r = o1 := by
        split at hr2
        · rw [← hr2] at hat; simp at hat
        · exact hr2.symm
      rw [show ring dc.seen 1 = ring d.seen 1 from hc, ho1, ← hro, if_neg]
      intro ⟨q1, q2, q3⟩
      have := hlow q1
      simp only [Nat.reduceAdd] at q3
      omega
    · have hoI : otherI d 1 = 1 := by unfold otherI; rw [hr, if_neg hat]
      rw [hoI] at hlow hc
      have hc2 : ring dc.seen 2 = ring d.seen 2 := hc
      have hr3 : pOk (ring d.seen 2).1 = true ∧ pE (ring d.seen 2).1 = 0 ∧ r = ⟨((1 + 1 : Nat) : Int), pS (ring d.seen 2).1, pB (ring d.seen 2).1⟩ := by
        split at hr2
        · rename_i hc3; exact ⟨hc3.1, hc3.2.1, hr2.symm⟩
        · exfalso
          rw [hr2] at ho1
          split at ho1
          · rw [← ho1] at hat; exact hat rfl
          · rw [← ho1] at hpos; exact Nat.lt_irrefl _ hpos
      have hrs : r.seq = pS (ring d.seen 2).1 := by rw [hr3.2.2]
      rw [hc2, if_pos (c := pOk (ring d.seen 2).1 = true ∧ pE (ring d.seen 2).1 = 0 ∧ _) ⟨hr3.1, hr3.2.1, ?_⟩]
      · exact hr3.2.2.symm
      · split
        · rename_i hc3
          have := hlow hc3.1
          simp only
          omega
        · show 0 < _
          omega
end Go.Sl
/- Walks: JournalPlays. -/
namespace Go.Sl
open Go Go.RowKit Go.Proofs
set_option linter.unusedSimpArgs false
set_option linter.unusedVariables false
attribute [local irreducible] faB szB ldB zB zL slB mkB arB plB intB cells objc star stars buf slv grp whole Sat WPC WPL WPA WPO WPQ Trip Q1 E1 S1 C1

theorem new_seq {a : Nat} : (last (DK.new 20) (a : Int)).seq < 4294967295 := by
  have h : ∀ i, (DK.new 20).read i = none ∨ (DK.new 20).read i = some .zero := fun i => by
    unfold DK.read DK.new
    simp only [List.length_replicate, List.getElem?_replicate]
    split
    · split
      · exact .inr rfl
      · exact .inl rfl
    · exact .inl rfl
  have hz : ∀ (i : Int) (r : SR), lastStep (DK.new 20) i r = r := fun i r => by
    unfold lastStep
    rcases h i with h | h <;> rw [h]
    · rfl
    · rw [Option.bind_some, parse_zero]
  unfold last
  rw [hz, hz]
  show 0 < _
  omega

theorem c_Plays {D : A} (hD : Pers D) {x n : Nat} {a : Option Addr} {c : Nat} {ops : List OpV} (hs : Sok 4 a ops.length c (ops.flatMap encO)) (hlen : ops.length ≤ 30) (hn : 1 ≤ n ∧ n ≤ 100 ∧ n ≤ 100) (hat : x + 2 + n ≤ 20) (hops : OpsD D ops) : Trip Tryd.prog 7 #[.int .i64 (x : Int), .int .i64 (n : Int), .slice a ops.length c] [sl false a (ops.flatMap encO), tblA, D] fun r Δ => r = .bool true ∧ Δ = [] := by
  refine Trip.start 242 [.tmp 6] [(0, .int .i64 (x : Int)), (1, .int .i64 (n : Int)), (2, .slice a ops.length c)] Tryd.func7 rfl Tryd.ntmps7 rfl ⟨rfl, rfl, rfl, trivial⟩ rfl ?_
  refine WPC.seqR ?_
  refine stp ?_
  refine WPL.nil ?_
  refine WPC.seqR ?_
  refine kall rfl c_awake ?_
  rintro _ _ ⟨rfl, rfl⟩
  refine stp ?_
  refine WPL.nil ?_
  refine WPC.seqR ?_
  refine kall rfl (c_DNew (k := 20) (by omega)) ?_
  rintro _ _ ⟨db, rfl, rfl⟩
  iterate 5 refine stp ?_
  refine WPL.nil ?_
  refine WPC.seqR ?_
  refine kall rfl (c_RNew (k := 20) (by omega)) ?_
  rintro _ _ ⟨rb, rfl, rfl⟩
  iterate 5 refine stp ?_
  refine WPL.nil ?_
  refine WPC.seq ?_
  refine WPC.seqR ?_
  iterate 3 refine stp ?_
  iterate 2 refine stpY rfl rfl ?_
  iterate 2 refine stp ?_
  iterate 3 refine stpY rfl rfl ?_
  refine stp ?_
  refine WPL.nil ?_
  refine WPC.prune [(0, _), (1, _), (2, _), (6, _), (7, _), (8, _), (10, _), (42, _)] sbb ?_
  refine WPC.cond rfl (fun h0 => ?_) (fun h0 => ?_)
  · try simp only [decide_eq_true_eq, decide_eq_false_iff_not, beq_iff_eq, bne_iff_ne, beq_eq_false_iff_ne, bne_eq_false_iff_eq, Bool.not_eq_true', Bool.not_eq_false', Bool.not_eq_eq_eq_not, Bool.not_true, Bool.not_false, ne_eq, Decidable.not_not, Int.not_lt, Int.not_le, gt_iff_lt, ge_iff_le] at h0
    omega
  · skip
    refine WPC.skip ?_
    refine thenQ_n ?_
    refine WPC.seqR ?_
    iterate 3 refine stp ?_
    obtain ⟨d, j, hopen, hI⟩ := G.Inv.new (N := 20) (a := x) (n := n) (by omega) ⟨hn.1, hn.2.1, hat⟩
    refine kall rfl (c_OpenG ⟨hn.1, hn.2.1⟩ (by simpa [DK.new] using hat) (G.new_ok (by omega)) (by simp [DK.new]) hopen) ?_
    rintro _ _ ⟨b, _, _, _, rfl, -, -, -, rfl⟩
    iterate 7 refine stp ?_
    refine WPL.nil ?_
    refine WPC.seqR ?_
    iterate 3 refine stp ?_
    refine kall rfl (c_ROpenJ ⟨hn.1, hn.2.1⟩ (by simpa [DK.new] using hat) (by simp [DK.new]) (G.new_ok (by omega)) rfl ⟨rfl, rfl⟩ new_seq hopen) ?_
    rintro _ _ ⟨rj, rfl, rfl⟩
    iterate 5 refine stp ?_
    refine WPL.nil ?_
    refine WPC.prune [(0, _), (1, _), (2, _), (6, _), (7, _), (8, _), (10, _), (12, _), (14, _), (15, _), (16, _)] sbb ?_
    refine WPC.seq ?_
    refine WPC.seqR ?_
    iterate 3 refine stp ?_
    iterate 2 refine stpY rfl rfl ?_
    refine stp ?_
    refine WPL.nil ?_
    refine WPC.cond rfl (fun h1 => ?_) (fun h1 => ?_)
    · try simp only [decide_eq_true_eq, decide_eq_false_iff_not, beq_iff_eq, bne_iff_ne, beq_eq_false_iff_ne, bne_eq_false_iff_eq, Bool.not_eq_true', Bool.not_eq_false', Bool.not_eq_eq_eq_not, Bool.not_true, Bool.not_false, ne_eq, Decidable.not_not, Int.not_lt, Int.not_le, gt_iff_lt, ge_iff_le] at h1
      simp at h1
    · skip
      refine WPC.skip ?_
      refine thenQ_n ?_
      refine WPC.seq ?_
      refine WPC.seqR ?_
      refine stp ?_
      refine WPL.nil ?_
      refine WPC.block ?_
      refine WPC.loopS (fun m e Γ => ∃ (k b rj : Nat) (d : DK) (j : JN), m = ops.length - k ∧ k ≤ ops.length ∧ G.Inv 20 x n (k + 1) d j ∧ e = [(0, .int .i64 (x : Int)), (1, .int .i64 (n : Int)), (2, .slice a ops.length c), (7, .bool true), (8, .pointer (some ⟨db, 0, none⟩)), (10, .pointer (some ⟨rb, 0, none⟩)), (12, .pointer (some ⟨b, 0, none⟩)), (14, .int .i64 0), (15, .pointer (some ⟨rj, 0, none⟩)), (16, .int .i64 0), (17, .int .i64 (k : Int))] ∧ Γ = [jour b db j, disk db d, rjour rj rb j, rdisk rb d, sl false a (ops.flatMap encO), tblA, D]) (ops.length) ⟨0, b, rj, d, j, rfl, by omega, hI, rfl, rfl⟩ sbb Imp.pk ?_
      clear h1 hI hopen
      rintro m e Γ ⟨k, b, rj, d, j, rfl, hk, hI, rfl, rfl⟩
      refine WPC.seq ?_
      refine WPC.seqR ?_
      iterate 4 refine stp ?_
      refine WPL.nil ?_
      refine WPC.cond rfl (fun h2 => ?_) (fun h2 => ?_)
      · simp only [decide_eq_true_eq, Int.ofNat_lt] at h2
        have hp : Pl a := hs.at (by omega) (by omega)
        obtain ⟨o, ho⟩ : ∃ o, ops[k]? = some o := ⟨ops[k], by simp [h2]⟩
        have hDo := hops o (List.mem_of_getElem? ho)
        have hbn := hDo.1.n
        have hbo := hDo.1
        unfold BS.ok at hbo
        rw [hbn] at hbo
        have hpn := hDo.2.1.n
        have hpo := hDo.2.1
        unfold IS.ok at hpo
        rw [hpn] at hpo
        have hT : k + 1 + 1 ≤ 1000000 := by omega
        have hpl := hI.pl
        have hok := hI.ok
        have hjo := hI.jok
        have hnx := hI.next_lt
        have hup := hI.up
        have hvis := hI.vis
        have hln := hI.len
        obtain ⟨hsq, hja, hjn⟩ := hI.seq
        have hsq2 : (last d (j.at_ : Int)).seq < 4294967295 := by rw [hja]; exact hsq
        have hpl6 : d.pend.length < 1000000 := by omega
        have eb : bsV o.b = .slice o.b.a o.b.bs.length o.b.c := by simp only [bsV, hbn]
        refine WPC.skip ?_
        refine thenQ_n ?_
        refine WPC.seq ?_
        refine WPC.block ?_
        refine WPC.seqR ?_
        refine stp ?_
        refine WPL.nil ?_
        refine WPC.seqR ?_
        refine stp ?_
        refine WPL.nil ?_
        refine WPC.seq ?_
        refine WPC.seqR ?_
        iterate 2 refine stp ?_
        refine L_s (q_idxN (i := k) sl_sl_pursuivantlaw06_Op rfl rfl h2 hp) rfl ?_
        refine stp ?_
        refine L_s (show Q1 _ _ _ _ (.int .i64 o.do_) from q_ldFlat1 (k := 4) (i := k) (j := 0) (e := o) (enc := encO) ld_int rfl mm encO_len ho (by omega) rfl) rfl ?_
        refine WPL.nil ?_
        refine WPC.midS (fun e Γ => ∃ (b rj : Nat) (d : DK) (j : JN) (v : Int), G.Inv 20 x n (k + 1 + 1) d j ∧ e = [(0, .int .i64 (x : Int)), (1, .int .i64 (n : Int)), (2, .slice a ops.length c), (7, .bool true), (8, .pointer (some ⟨db, 0, none⟩)), (10, .pointer (some ⟨rb, 0, none⟩)), (12, .pointer (some ⟨b, 0, none⟩)), (14, .int .i64 0), (15, .pointer (some ⟨rj, 0, none⟩)), (16, .int .i64 0), (17, .int .i64 (k : Int)), (18, .int .i64 v), (19, .int .i64 v)] ∧ Γ = [jour b db j, disk db d, rjour rj rb j, rdisk rb d, sl false a (ops.flatMap encO), tblA, D]) ?_ ?_
        · refine WPC.block ?_
          refine WPC.seqR ?_
          iterate 2 refine stp ?_
          refine WPL.nil ?_
          refine WPC.cond rfl (fun h3 => ?_) (fun h3 => ?_)
          · skip
            refine WPC.seqR ?_
            iterate 3 refine stp ?_
            refine L_s (q_idxN (i := k) sl_sl_pursuivantlaw06_Op rfl rfl h2 hp) rfl ?_
            refine stp ?_
            refine L_s (show Q1 _ _ _ _ (bsV o.b) from q_ldFlat1 (k := 4) (i := k) (j := 2) (e := o) (enc := encO) ld_sl_uint8 rfl mm encO_len ho (by omega) rfl) rfl ?_
            rw [eb]
            refine WPL.imp ((Imp.pk (Δ := [D, jour b db j, disk db d, rjour rj rb j, rdisk rb d, sl false a (ops.flatMap encO), tblA])).trans (hDo.2.2.1 _)) ?_
            refine kall rfl (c_JAppend hjo hok (by omega) hbo) ?_
            rintro _ _ ⟨rfl, rfl⟩
            have hI2 := hI.append hT o.b.bs
            obtain ⟨d1, hd1⟩ : ∃ d1, (jappend d j o.b.bs).1 = d1 := ⟨_, rfl⟩
            obtain ⟨j1, hj1⟩ : ∃ j1, (jappend d j o.b.bs).2.1 = j1 := ⟨_, rfl⟩
            rw [hd1, hj1] at hI2 ⊢
            refine stp ?_
            refine WPL.nil ?_
            refine WPC.region ?_
            iterate 3 refine stp ?_
            refine L_s (q_idxN (i := k) sl_sl_pursuivantlaw06_Op rfl rfl h2 hp) rfl ?_
            refine stp ?_
            refine L_s (show Q1 _ _ _ _ (bsV o.b) from q_ldFlat1 (k := 4) (i := k) (j := 2) (e := o) (enc := encO) ld_sl_uint8 rfl mm encO_len ho (by omega) rfl) rfl ?_
            rw [eb]
            refine WPL.imp ((Imp.pk (Δ := [D, jour b db j1, disk db d1, rjour rj rb j, rdisk rb d, sl false a (ops.flatMap encO), tblA])).trans (hDo.2.2.1 _)) ?_
            refine kall rfl (c_RJAppend hjo hok hpl6 hvis hup hnx hbo) ?_
            rintro _ _ ⟨rfl, rfl⟩
            rw [hd1, hj1]
            refine stp ?_
            refine WPL.nil ?_
            refine blockQ_n ?_
            refine thenQ_n ?_
            exact ⟨rfl, _, _, ⟨_, _, _, _, _, hI2, rfl, rfl⟩, sbb, Imp.pk⟩
          · skip
            refine WPC.seqR ?_
            iterate 2 refine stp ?_
            refine WPL.nil ?_
            refine WPC.cond rfl (fun h4 => ?_) (fun h4 => ?_)
            · skip
              refine WPC.seqR ?_
              refine stp ?_
              refine kall rfl (c_JSync hok (by omega)) ?_
              rintro _ _ ⟨rfl, rfl⟩
              have hI2 := hI.sync hT
              refine WPL.nil ?_
              refine WPC.region ?_
              refine stp ?_
              refine kall rfl (c_RSync hok hpl6 hup) ?_
              rintro _ _ ⟨rfl, rfl⟩
              refine WPL.nil ?_
              refine blockQ_n ?_
              refine thenQ_n ?_
              exact ⟨rfl, _, _, ⟨_, _, _, _, _, hI2, rfl, rfl⟩, sbb, Imp.pk⟩
            · skip
              refine WPC.seqR ?_
              iterate 2 refine stp ?_
              refine WPL.nil ?_
              refine WPC.cond rfl (fun h5 => ?_) (fun h5 => ?_)
              · skip
                refine WPC.seqR ?_
                iterate 3 refine stp ?_
                refine L_s (q_idxN (i := k) sl_sl_pursuivantlaw06_Op rfl rfl h2 hp) rfl ?_
                refine stp ?_
                refine L_s (show Q1 _ _ _ _ (.int .i64 o.n) from q_ldFlat1 (k := 4) (i := k) (j := 1) (e := o) (enc := encO) ld_int rfl mm encO_len ho (by omega) rfl) rfl ?_
                refine kall rfl (c_JTrim hjo hok (by omega) hnx) ?_
                rintro _ _ ⟨rfl, rfl⟩
                have hI2 := hI.trim hT o.n
                refine stp ?_
                refine WPL.nil ?_
                refine WPC.region ?_
                iterate 3 refine stp ?_
                refine L_s (q_idxN (i := k) sl_sl_pursuivantlaw06_Op rfl rfl h2 hp) rfl ?_
                refine stp ?_
                refine L_s (show Q1 _ _ _ _ (.int .i64 o.n) from q_ldFlat1 (k := 4) (i := k) (j := 1) (e := o) (enc := encO) ld_int rfl mm encO_len ho (by omega) rfl) rfl ?_
                refine kall rfl (c_RJTrim hjo hok hpl6 hvis hup hnx hsq2) ?_
                rintro _ _ ⟨rfl, rfl⟩
                refine stp ?_
                refine WPL.nil ?_
                refine blockQ_n ?_
                refine thenQ_n ?_
                exact ⟨rfl, _, _, ⟨_, _, _, _, _, hI2, rfl, rfl⟩, sbb, Imp.pk⟩
              · skip
                refine WPC.seqR ?_
                iterate 2 refine stp ?_
                refine WPL.nil ?_
                refine WPC.cond rfl (fun h6 => ?_) (fun h6 => ?_)
                · skip
                  refine WPC.seqR ?_
                  iterate 3 refine stp ?_
                  refine L_s (q_idxN (i := k) sl_sl_pursuivantlaw06_Op rfl rfl h2 hp) rfl ?_
                  refine stp ?_
                  refine L_s (show Q1 _ _ _ _ (.int .i64 o.n) from q_ldFlat1 (k := 4) (i := k) (j := 1) (e := o) (enc := encO) ld_int rfl mm encO_len ho (by omega) rfl) rfl ?_
                  refine kall rfl (c_JCut hjo hok (by omega) hnx) ?_
                  rintro _ _ ⟨rfl, rfl⟩
                  have hI2 := hI.cut hT o.n
                  refine stp ?_
                  refine WPL.nil ?_
                  refine WPC.region ?_
                  iterate 3 refine stp ?_
                  refine L_s (q_idxN (i := k) sl_sl_pursuivantlaw06_Op rfl rfl h2 hp) rfl ?_
                  refine stp ?_
                  refine L_s (show Q1 _ _ _ _ (.int .i64 o.n) from q_ldFlat1 (k := 4) (i := k) (j := 1) (e := o) (enc := encO) ld_int rfl mm encO_len ho (by omega) rfl) rfl ?_
                  refine kall rfl (c_RJCut hjo hok hpl6 hvis hup hnx hsq2) ?_
                  rintro _ _ ⟨rfl, rfl⟩
                  refine stp ?_
                  refine WPL.nil ?_
                  refine blockQ_n ?_
                  refine thenQ_n ?_
                  exact ⟨rfl, _, _, ⟨_, _, _, _, _, hI2, rfl, rfl⟩, sbb, Imp.pk⟩
                · skip
                  refine WPC.seqR ?_
                  iterate 2 refine stp ?_
                  refine WPL.nil ?_
                  refine WPC.cond rfl (fun h7 => ?_) (fun h7 => ?_)
                  · skip
                    refine WPC.seqR ?_
                    iterate 3 refine stp ?_
                    refine L_s (q_idxN (i := k) sl_sl_pursuivantlaw06_Op rfl rfl h2 hp) rfl ?_
                    refine stp ?_
                    refine L_s (show Q1 _ _ _ _ (.slice o.p.a o.p.n o.p.c) from q_ldFlat1 (k := 4) (i := k) (j := 3) (e := o) (enc := encO) ld_sl_int rfl mm encO_len ho (by omega) rfl) rfl ?_
                    rw [show Value.slice o.p.a o.p.n o.p.c = .slice o.p.a o.p.xs.length o.p.c by rw [hpn]]
                    refine WPL.imp ((Imp.pk (Δ := [D, jour b db j, disk db d, rjour rj rb j, rdisk rb d, sl false a (ops.flatMap encO), tblA])).trans (hDo.2.2.2 _)) ?_
                    refine kall rfl (c_Crash hok (by omega) hpo) ?_
                    rintro _ _ ⟨rfl, rfl⟩
                    obtain ⟨d2, j2, ho2, hI2⟩ := hI.crash hT o.p.xs
                    have hlc : (d.crash o.p.xs).seen.length = 20 := hI.clen _
                    have hsc := hI.lastC o.p.xs
                    refine WPL.nil ?_
                    refine WPC.seqR ?_
                    iterate 3 refine stp ?_
                    refine L_s (q_idxN (i := k) sl_sl_pursuivantlaw06_Op rfl rfl h2 hp) rfl ?_
                    refine stp ?_
                    refine L_s (show Q1 _ _ _ _ (.slice o.p.a o.p.n o.p.c) from q_ldFlat1 (k := 4) (i := k) (j := 3) (e := o) (enc := encO) ld_sl_int rfl mm encO_len ho (by omega) rfl) rfl ?_
                    rw [show Value.slice o.p.a o.p.n o.p.c = .slice o.p.a o.p.xs.length o.p.c by rw [hpn]]
                    refine WPL.imp ((Imp.pk (Δ := [D, jour b db j, disk db (d.crash o.p.xs), rjour rj rb j, rdisk rb d, sl false a (ops.flatMap encO), tblA])).trans (hDo.2.2.2 _)) ?_
                    refine kall rfl (c_RCrash hok hpl6 hpo) ?_
                    rintro _ _ ⟨rfl, rfl⟩
                    refine WPL.nil ?_
                    refine WPC.seqR ?_
                    iterate 3 refine stp ?_
                    refine kall rfl (c_OpenG ⟨hn.1, hn.2.1⟩ (by omega) (hok.crash _) (by rw [crash_pl]; omega) ho2) ?_
                    rintro _ _ ⟨b2, _, _, _, rfl, -, -, -, rfl⟩
                    iterate 6 refine stp ?_
                    refine WPL.nil ?_
                    refine WPC.region ?_
                    iterate 3 refine stp ?_
                    refine kall rfl (c_ROpenJ ⟨hn.1, hn.2.1⟩ (by omega) (by rw [crash_pl]; omega) (hok.crash _) rfl ⟨rfl, rfl⟩ (by rw [hsc]; exact hsq) ho2) ?_
                    rintro _ _ ⟨rj2, rfl, rfl⟩
                    iterate 5 refine stp ?_
                    refine WPL.nil ?_
                    refine blockQ_n ?_
                    refine thenQ_n ?_
                    exact ⟨rfl, _, _, ⟨_, _, _, _, _, hI2, rfl, rfl⟩, sbb, Imp.pk⟩
                  · skip
                    refine WPC.seqR ?_
                    iterate 2 refine stp ?_
                    refine WPL.nil ?_
                    refine WPC.cond rfl (fun h8 => ?_) (fun h8 => ?_)
                    · skip
                      refine WPC.seqR ?_
                      iterate 3 refine stp ?_
                      obtain ⟨d2, j2, ho2, hI2⟩ := hI.again hT
                      refine kall rfl (c_OpenG ⟨hn.1, hn.2.1⟩ (by omega) hok (by omega) ho2) ?_
                      rintro _ _ ⟨b2, _, _, _, rfl, -, -, -, rfl⟩
                      iterate 6 refine stp ?_
                      refine WPL.nil ?_
                      refine WPC.region ?_
                      iterate 3 refine stp ?_
                      refine kall rfl (c_ROpenJ ⟨hn.1, hn.2.1⟩ (by omega) (by omega) hok hvis hup hsq ho2) ?_
                      rintro _ _ ⟨rj2, rfl, rfl⟩
                      iterate 5 refine stp ?_
                      refine WPL.nil ?_
                      refine blockQ_n ?_
                      refine thenQ_n ?_
                      exact ⟨rfl, _, _, ⟨_, _, _, _, _, hI2, rfl, rfl⟩, sbb, Imp.pk⟩
                    · have hI2 := hI.mono (Nat.le_succ _) hT
                      refine WPC.skip ?_
                      refine blockQ_n ?_
                      refine thenQ_n ?_
                      exact ⟨rfl, _, _, ⟨_, _, _, _, _, hI2, rfl, rfl⟩, sbb, Imp.pk⟩
        · clear hI hjo hnx hok hpl hpl6 hup hvis hln hsq hsq2 hja hjn
          rintro e Γ ⟨b, rj, d, j, v, hI, rfl, rfl⟩
          have hok := hI.ok
          have hpl := hI.pl
          have hjo := hI.jok
          have hhb := hI.hb
          have hhl := hI.hlen
          refine WPC.seq ?_
          refine WPC.seqR ?_
          iterate 3 refine stp ?_
          rw [show (v != v) = false by simp]
          refine stp ?_
          iterate 2 refine stpY rfl rfl ?_
          iterate 2 refine stp ?_
          iterate 2 refine stpY rfl rfl ?_
          refine stp ?_
          refine WPL.nil ?_
          refine WPC.cond rfl (fun h9 => ?_) (fun h9 => ?_)
          · try simp only [decide_eq_true_eq, decide_eq_false_iff_not, beq_iff_eq, bne_iff_ne, beq_eq_false_iff_ne, bne_eq_false_iff_eq, Bool.not_eq_true', Bool.not_eq_false', Bool.not_eq_eq_eq_not, Bool.not_true, Bool.not_false, ne_eq, Decidable.not_not, Int.not_lt, Int.not_le, gt_iff_lt, ge_iff_le] at h9
            simp at h9
          · skip
            refine WPC.skip ?_
            refine thenQ_n ?_
            refine WPC.seqR ?_
            refine stp ?_
            refine kall rfl (c_All (by intro y hy; have := hhb y hy; omega) (by omega)) ?_
            rintro _ _ ⟨a1, c1, ys, rfl, hys, hye, hyo, rfl⟩
            refine WPL.imp ((Imp.pk (Δ := [buf 1 a1 ys.length c1 (ys.map bsV), bytes ys, jour b db j, disk db d, rjour rj rb j, rdisk rb d, sl false a (ops.flatMap encO), tblA, D])).trans Imp.bufRo) ?_
            refine WPL.pure fun _ => ?_
            refine stp ?_
            refine WPL.nil ?_
            refine WPC.prune [(0, _), (1, _), (2, _), (7, _), (8, _), (10, _), (12, _), (14, _), (15, _), (16, _), (17, _), (18, _), (19, _), (20, _), (196, _), (197, _), (198, _), (199, _), (200, _), (201, _), (202, _), (203, _), (204, _), (205, _), (206, _), (207, _), (208, _)] sbb ?_
            refine WPC.seqR ?_
            refine stp ?_
            refine kall rfl c_JLen ?_
            rintro _ _ ⟨rfl, rfl⟩
            refine stp ?_
            refine WPL.nil ?_
            refine WPC.prune [(0, _), (1, _), (2, _), (7, _), (8, _), (10, _), (12, _), (14, _), (15, _), (16, _), (17, _), (18, _), (19, _), (20, _), (21, _), (196, _), (197, _), (198, _), (199, _), (200, _), (201, _), (202, _), (203, _), (204, _), (205, _), (206, _), (207, _), (208, _), (209, _), (210, _)] sbb ?_
            refine WPC.seqR ?_
            refine stp ?_
            refine kall rfl c_PendD ?_
            rintro _ _ ⟨rfl, rfl⟩
            refine stp ?_
            refine WPL.nil ?_
            refine WPC.prune [(0, _), (1, _), (2, _), (7, _), (8, _), (10, _), (12, _), (14, _), (15, _), (16, _), (17, _), (18, _), (19, _), (20, _), (21, _), (22, _), (196, _), (197, _), (198, _), (199, _), (200, _), (201, _), (202, _), (203, _), (204, _), (205, _), (206, _), (207, _), (208, _), (209, _), (210, _), (211, _), (212, _)] sbb ?_
            refine WPC.seqR ?_
            refine WPL.imp (Imp.pk (Δ := [rjour rj rb j, jour b db j, disk db d, rdisk rb d, sl false a (ops.flatMap encO), tblA, D, sl false a1 (ys.map bsV), bytes ys])) ?_
            refine WPL.exg (L := fun L => rjourL rj rb j L) fun L => WPL.pure fun hL => ?_
            refine WPL.imp (Imp.pk (Δ := [rdisk rb d, jour b db j, disk db d, cells true rj 0 (rjC rb j L), sl false L.a (L.rs.flatMap encRJ), bytes (L.rs.map (·.x)), sl false a (ops.flatMap encO), tblA, D, sl false a1 (ys.map bsV), bytes ys])) ?_
            refine WPL.exg (L := fun L2 => rdiskL rb d L2) fun L2 => WPL.pure fun hL2 => ?_
            have hrl := hL.len
            have hwl := hL2.len
            iterate 8 refine stp ?_
            apply WPL.joinO (e' := [(0, _), (1, _), (2, _), (7, _), (8, _), (10, _), (12, _), (14, _), (15, _), (16, _), (17, _), (18, _), (19, _), (20, _), (21, _), (22, _), (196, _), (197, _), (198, _), (199, _), (200, _), (201, _), (202, _), (203, _), (204, _), (205, _), (206, _), (207, _), (208, _), (209, _), (210, _), (211, _), (212, _), (213, _), (214, _), (215, _), (216, _), (217, _), (218, _), (219, _)]) 220 228 8 rfl
            · intro g41_7
              try simp only [decide_eq_true_eq, decide_eq_false_iff_not, beq_iff_eq, bne_iff_ne, beq_eq_false_iff_ne, bne_eq_false_iff_eq, Bool.not_eq_true', Bool.not_eq_false', Bool.not_eq_eq_eq_not, Bool.not_true, Bool.not_false, ne_eq, Decidable.not_not, Int.not_lt, Int.not_le, gt_iff_lt, ge_iff_le] at g41_7
              refine L_no rfl rfl rfl rfl ?_
              refine L_no rfl rfl rfl rfl ?_
              refine L_no rfl rfl rfl rfl ?_
              refine L_no rfl rfl rfl rfl ?_
              refine L_no rfl rfl rfl rfl ?_
              refine L_no rfl rfl rfl rfl ?_
              refine L_no rfl rfl rfl rfl ?_
              refine stp ?_
              first | exact WPL.jn rfl rfl sbb | exact WPL.jnI rfl rfl sbb Imp.pk
            · intro g41_7
              try simp only [decide_eq_true_eq, decide_eq_false_iff_not, beq_iff_eq, bne_iff_ne, beq_eq_false_iff_ne, bne_eq_false_iff_eq, Bool.not_eq_true', Bool.not_eq_false', Bool.not_eq_eq_eq_not, Bool.not_true, Bool.not_false, ne_eq, Decidable.not_not, Int.not_lt, Int.not_le, gt_iff_lt, ge_iff_le] at g41_7
              iterate 7 refine stpY rfl rfl ?_
              refine stp ?_
              first | exact WPL.jn rfl rfl sbb | exact WPL.jnI rfl rfl sbb Imp.pk
            refine stp ?_
            apply WPL.joinO (e' := [(0, _), (1, _), (2, _), (7, _), (8, _), (10, _), (12, _), (14, _), (15, _), (16, _), (17, _), (18, _), (19, _), (20, _), (21, _), (22, _), (196, _), (197, _), (198, _), (199, _), (200, _), (201, _), (202, _), (203, _), (204, _), (205, _), (206, _), (207, _), (208, _), (209, _), (210, _), (211, _), (212, _), (213, _), (214, _), (215, _), (216, _), (217, _), (218, _), (219, _), (228, _)]) 229 235 6 rfl
            · intro g41_16
              try simp only [decide_eq_true_eq, decide_eq_false_iff_not, beq_iff_eq, bne_iff_ne, beq_eq_false_iff_ne, bne_eq_false_iff_eq, Bool.not_eq_true', Bool.not_eq_false', Bool.not_eq_eq_eq_not, Bool.not_true, Bool.not_false, ne_eq, Decidable.not_not, Int.not_lt, Int.not_le, gt_iff_lt, ge_iff_le] at g41_16
              refine L_no rfl rfl rfl rfl ?_
              refine L_no rfl rfl rfl rfl ?_
              refine L_no rfl rfl rfl rfl ?_
              refine L_no rfl rfl rfl rfl ?_
              refine L_no rfl rfl rfl rfl ?_
              refine stp ?_
              first | exact WPL.jn rfl rfl sbb | exact WPL.jnI rfl rfl sbb Imp.pk
            · intro g41_16
              try simp only [decide_eq_true_eq, decide_eq_false_iff_not, beq_iff_eq, bne_iff_ne, beq_eq_false_iff_ne, bne_eq_false_iff_eq, Bool.not_eq_true', Bool.not_eq_false', Bool.not_eq_eq_eq_not, Bool.not_true, Bool.not_false, ne_eq, Decidable.not_not, Int.not_lt, Int.not_le, gt_iff_lt, ge_iff_le] at g41_16
              iterate 2 refine stpY rfl rfl ?_
              refine L_eyes rfl rfl rfl (C1.call (c_call Tryd.func29 rfl rfl rfl) (c_RAllO hL (by omega)) pkk rfl ?_)
              rintro _ _ ⟨a2, c2, zs, rfl, hzs, hze, hzo, rfl⟩
              have hub := bs_bound hye hhb hyo
              have e5 : decide (ys.map BS.bs = zs.map BS.bs) = true := by rw [hye, hze]; exact decide_eq_true rfl
              have hyl := bs_len hye
              refine WPL.putS ?_
              refine L_eyes rfl rfl rfl (C1.call (c_call Tryd.func15 rfl rfl rfl) (c_Same06g (p := false) (q := false) rfl rfl hys hzs (by omega) hub hzo) pkk rfl ?_)
              rintro _ _ ⟨rfl, rfl⟩
              rw [e5]
              refine WPL.putS ?_
              refine stpY rfl rfl ?_
              refine stp ?_
              first | exact WPL.jn rfl rfl sbb | exact WPL.jnI rfl rfl sbb Imp.pk
            refine WPL.nil ?_
            refine WPC.prune [(0, _), (1, _), (2, _), (7, _), (8, _), (10, _), (12, _), (14, _), (15, _), (16, _), (17, _), (18, _), (19, _), (20, _), (21, _), (22, _), (196, _), (197, _), (198, _), (199, _), (200, _), (201, _), (202, _), (203, _), (204, _), (205, _), (206, _), (207, _), (208, _), (209, _), (210, _), (211, _), (212, _), (213, _), (214, _), (215, _), (216, _), (217, _), (218, _), (219, _), (228, _), (235, _)] sbb ?_
            refine WPC.cond rfl (fun h10 => ?_) (fun h10 => ?_)
            · try simp only [decide_eq_true_eq, decide_eq_false_iff_not, beq_iff_eq, bne_iff_ne, beq_eq_false_iff_ne, bne_eq_false_iff_eq, Bool.not_eq_true', Bool.not_eq_false', Bool.not_eq_eq_eq_not, Bool.not_true, Bool.not_false, ne_eq, Decidable.not_not, Int.not_lt, Int.not_le, gt_iff_lt, ge_iff_le] at h10
              simp [hrl, hwl] at h10
            · skip
              refine WPC.skip ?_
              refine blockQ_n ?_
              refine thenQ_n ?_
              refine WPC.region ?_
              refine WPL.imp (((Imp.pk (Δ := [cells true rj 0 (rjC rb j L), sl false L.a (L.rs.flatMap encRJ), bytes (L.rs.map (·.x)), cells true rb 0 (rdC d.sure.length L2), sl false L2.sa ((flatB d.sure).map u8), sl false L2.pa (L2.ws.flatMap encRW), bytes (L2.ws.map (·.x)), jour b db j, disk db d, sl false a (ops.flatMap encO), tblA, D])).trans (rjour_close L hL)).trans ((Imp.pk (Δ := [cells true rb 0 (rdC d.sure.length L2), sl false L2.sa ((flatB d.sure).map u8), sl false L2.pa (L2.ws.flatMap encRW), bytes (L2.ws.map (·.x)), rjour rj rb j, jour b db j, disk db d, sl false a (ops.flatMap encO), tblA, D])).trans (rdisk_close L2 hL2))) ?_
              iterate 3 refine stp ?_
              refine WPL.nil ?_
              refine thenQ_n ?_
              exact ⟨rfl, _, _, _, by omega, ⟨k + 1, _, _, _, _, rfl, by omega, hI, rfl, rfl⟩, sbb, Imp.pk⟩
      · skip
        refine WPC.exit ?_
        refine thenQ_e ?_
        refine thenQ_e ?_
        refine blockQ_here ?_
        refine thenQ_n ?_
        refine WPC.seqR ?_
        iterate 2 refine stp ?_
        iterate 3 refine stpY rfl rfl ?_
        iterate 2 refine stp ?_
        refine WPL.nil ?_
        refine WPC.ret ?_
        exact endR_r rfl (.tmp rfl .nil) Imp.pk ⟨rfl, rfl⟩

end Go.Sl
