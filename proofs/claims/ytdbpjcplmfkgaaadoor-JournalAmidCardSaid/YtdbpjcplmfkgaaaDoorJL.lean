/- Walks: Open. -/
import Derived.Test.YtdbpjcplmfkgaaaDoorJK
namespace Go.Sl
open Go Go.RowKit Go.Proofs
set_option linter.unusedSimpArgs false
set_option linter.unusedVariables false
attribute [local irreducible] faB szB ldB zB zL slB mkB arB plB intB cells objc star stars buf slv grp whole Sat WPC WPL WPA WPO Trip

theorem c_DLenD {b : Nat} {d : DK} : Trip Tryd.prog 39 #[.pointer (some ⟨b, 0, none⟩)] [disk b d] fun r Δ => r = .int .i64 (d.seen.length : Int) ∧ Δ = [disk b d] := by
  refine disk_open fun L hL => ?_
  refine Trip.start 8 [.tmp 2] [(0, .pointer (some ⟨b, 0, none⟩))] Tryd.func39 rfl Tryd.ntmps39 rfl ⟨rfl, trivial⟩ rfl ?_
  refine WPC.seqR ?_
  refine L_s (q_assign rfl) rfl ?_
  refine WPL.nil ?_
  refine WPC.seqR ?_
  refine L_s (q_move rfl) rfl ?_
  first | refine L_s (q_nilP rfl) rfl ?_ | refine L_s (q_nilF rfl) rfl ?_
  first | refine L_s (q_faK fa_disk_Disk_seen rfl) rfl ?_ | refine L_s (q_fa fa_disk_Disk_seen rfl) rfl ?_
  first | refine L_s (q_load1z ld_sl_disk_sector rfl (by repeat (first | exact List.Mem.head _ | apply List.Mem.tail)) (by rfl)) rfl ?_ | refine L_s (q_load1 ld_sl_disk_sector rfl (by repeat (first | exact List.Mem.head _ | apply List.Mem.tail)) rfl (by rfl)) rfl ?_
  refine L_s (q_len rfl un_sl_disk_sector rfl) rfl ?_
  refine L_s (q_assign rfl) rfl ?_
  refine WPL.nil ?_
  refine WPC.ret ?_
  exact endR_r rfl (.tmp rfl .nil) ((Imp.pick (by repeat (first | exact Pick.nil | apply Pick.keep (by repeat (first | exact List.Mem.head _ | apply List.Mem.tail)) (by first | exact Pers.cells _ _ _ | exact Pers.slv _ _ _ | exact Pers.bytes _) | apply Pick.cons (by repeat (first | exact Pick1.here | apply Pick1.there))))).trans (disk_close L hL (Γ := []))) ⟨rfl, rfl⟩

theorem c_Open {db : Nat} {d : DK} {at_ n : Nat} (hn : 1 ≤ n ∧ n ≤ 100) (hat : at_ + 2 + n ≤ d.seen.length) (hd : d.ok) (hpl : d.pend.length < 600000) : Trip Tryd.prog 14 #[.pointer (some ⟨db, 0, none⟩), .int .i64 (at_ : Int), .int .i64 (n : Int)] [disk db d, tblA] fun r Δ => match (jopen0 d at_ n).2.1 with | some j => (∃ (b : Nat) (a : Option Addr) (c : Nat) (ys : List BS), r = .tuple #[.pointer (some ⟨b, 0, none⟩), .slice a ys.length c, .int .i64 0] ∧ Sok 1 a ys.length c (ys.map bsV) ∧ ys.map BS.bs = j.held.map (·.2) ∧ (∀ y ∈ ys, y.ok) ∧ Δ = [jour b db j, disk db (jopen0 d at_ n).1, buf 1 a ys.length c (ys.map bsV), bytes ys]) | none => r = .tuple #[.pointer none, .slice none 0 0, .int .i64 (jopen0 d at_ n).2.2] ∧ Δ = [disk db (jopen0 d at_ n).1] := by
  have hdn := hd.n
  have hlt := last_lt d at_
  refine Trip.start 98 [.tmp 6, .tmp 7, .tmp 8] [(0, .pointer (some ⟨db, 0, none⟩)), (1, .int .i64 (at_ : Int)), (2, .int .i64 (n : Int))] Tryd.func14 rfl Tryd.ntmps14 rfl ⟨rfl, rfl, rfl, trivial⟩ rfl ?_
  refine WPC.seqR ?_
  refine L_s (q_assign rfl) rfl ?_
  refine L_s (q_assign rfl) rfl ?_
  refine L_s (q_assign rfl) rfl ?_
  refine WPL.nil ?_
  refine WPC.seq ?_
  refine WPC.block ?_
  refine WPC.seqR ?_
  refine L_s (q_move rfl) rfl ?_
  refine L_s (q_int rfl rfl rfl) rfl ?_
  refine L_s (q_move rfl) rfl ?_
  apply WPL.joinO (e' := [(0, _), (1, _), (2, _), (6, _), (7, _), (8, _)]) 16 19 3 rfl
  · intro g1_2
    try simp only [decide_eq_true_eq, decide_eq_false_iff_not, beq_iff_eq, bne_iff_ne, beq_eq_false_iff_ne, bne_eq_false_iff_eq, Bool.not_eq_true', Bool.not_eq_false', Bool.not_eq_eq_eq_not, Bool.not_true, Bool.not_false, ne_eq, Decidable.not_not, Int.not_lt, Int.not_le, gt_iff_lt, ge_iff_le] at g1_2
    refine L_no rfl rfl rfl rfl ?_
    refine L_no rfl rfl rfl rfl ?_
    first | refine L_s (q_pickT rfl rfl) rfl ?_ | refine L_s (q_pickF rfl rfl) rfl ?_
    first | exact WPL.jn rfl rfl (by repeat (first | exact trivial | refine ⟨rfl, ?_⟩)) | exact WPL.jnI rfl rfl (by repeat (first | exact trivial | refine ⟨rfl, ?_⟩)) (Imp.pick (by repeat (first | exact Pick.nil | apply Pick.keep (by repeat (first | exact List.Mem.head _ | apply List.Mem.tail)) (by first | exact Pers.cells _ _ _ | exact Pers.slv _ _ _ | exact Pers.bytes _) | apply Pick.cons (by repeat (first | exact Pick1.here | apply Pick1.there)))))
  · intro g1_2
    try simp only [decide_eq_true_eq, decide_eq_false_iff_not, beq_iff_eq, bne_iff_ne, beq_eq_false_iff_ne, bne_eq_false_iff_eq, Bool.not_eq_true', Bool.not_eq_false', Bool.not_eq_eq_eq_not, Bool.not_true, Bool.not_false, ne_eq, Decidable.not_not, Int.not_lt, Int.not_le, gt_iff_lt, ge_iff_le] at g1_2
    refine L_yes rfl rfl (q_move rfl) rfl ?_
    refine L_yes rfl rfl (q_int rfl rfl rfl) rfl ?_
    first | refine L_s (q_pickT rfl rfl) rfl ?_ | refine L_s (q_pickF rfl rfl) rfl ?_
    first | exact WPL.jn rfl rfl (by repeat (first | exact trivial | refine ⟨rfl, ?_⟩)) | exact WPL.jnI rfl rfl (by repeat (first | exact trivial | refine ⟨rfl, ?_⟩)) (Imp.pick (by repeat (first | exact Pick.nil | apply Pick.keep (by repeat (first | exact List.Mem.head _ | apply List.Mem.tail)) (by first | exact Pers.cells _ _ _ | exact Pers.slv _ _ _ | exact Pers.bytes _) | apply Pick.cons (by repeat (first | exact Pick1.here | apply Pick1.there)))))
  refine L_s (q_assign rfl) rfl ?_
  refine WPL.nil ?_
  refine WPC.cond rfl (fun h0 => ?_) (fun h0 => ?_)
  · try simp only [decide_eq_true_eq, decide_eq_false_iff_not, beq_iff_eq, bne_iff_ne, beq_eq_false_iff_ne, bne_eq_false_iff_eq, Bool.not_eq_true', Bool.not_eq_false', Bool.not_eq_eq_eq_not, Bool.not_true, Bool.not_false, ne_eq, Decidable.not_not, Int.not_lt, Int.not_le, gt_iff_lt, ge_iff_le] at h0
    simp at h0; omega
  · skip
    refine WPC.seqR ?_
    refine L_s (q_move rfl) rfl ?_
    refine L_s (q_int rfl rfl rfl) rfl ?_
    refine L_s (q_move rfl) rfl ?_
    apply WPL.joinO (e' := [(0, _), (1, _), (2, _), (6, _), (7, _), (8, _)]) 23 31 8 rfl
    · intro g3_2
      try simp only [decide_eq_true_eq, decide_eq_false_iff_not, beq_iff_eq, bne_iff_ne, beq_eq_false_iff_ne, bne_eq_false_iff_eq, Bool.not_eq_true', Bool.not_eq_false', Bool.not_eq_eq_eq_not, Bool.not_true, Bool.not_false, ne_eq, Decidable.not_not, Int.not_lt, Int.not_le, gt_iff_lt, ge_iff_le] at g3_2
      refine L_no rfl rfl rfl rfl ?_
      refine L_no rfl rfl rfl rfl ?_
      refine L_no rfl rfl rfl rfl ?_
      refine L_no rfl rfl rfl rfl ?_
      refine L_no rfl rfl rfl rfl ?_
      refine L_no rfl rfl rfl rfl ?_
      refine L_no rfl rfl rfl rfl ?_
      first | refine L_s (q_pickT rfl rfl) rfl ?_ | refine L_s (q_pickF rfl rfl) rfl ?_
      first | exact WPL.jn rfl rfl (by repeat (first | exact trivial | refine ⟨rfl, ?_⟩)) | exact WPL.jnI rfl rfl (by repeat (first | exact trivial | refine ⟨rfl, ?_⟩)) (Imp.pick (by repeat (first | exact Pick.nil | apply Pick.keep (by repeat (first | exact List.Mem.head _ | apply List.Mem.tail)) (by first | exact Pers.cells _ _ _ | exact Pers.slv _ _ _ | exact Pers.bytes _) | apply Pick.cons (by repeat (first | exact Pick1.here | apply Pick1.there)))))
    · intro g3_2
      try simp only [decide_eq_true_eq, decide_eq_false_iff_not, beq_iff_eq, bne_iff_ne, beq_eq_false_iff_ne, bne_eq_false_iff_eq, Bool.not_eq_true', Bool.not_eq_false', Bool.not_eq_eq_eq_not, Bool.not_true, Bool.not_false, ne_eq, Decidable.not_not, Int.not_lt, Int.not_le, gt_iff_lt, ge_iff_le] at g3_2
      refine L_yes rfl rfl (q_move rfl) rfl ?_
      refine L_yes rfl rfl (q_move rfl) rfl ?_
      refine L_eyes rfl rfl rfl (C1.call (c_call Tryd.func39 rfl rfl rfl) c_DLenD (by repeat (first | exact Pick.nil | apply Pick.keep (by repeat (first | exact List.Mem.head _ | apply List.Mem.tail)) (by first | exact Pers.cells _ _ _ | exact Pers.slv _ _ _ | exact Pers.bytes _) | apply Pick.cons (by repeat (first | exact Pick1.here | apply Pick1.there)))) rfl ?_)
      rintro _ _ ⟨rfl, rfl⟩
      refine WPL.putS ?_
      first | refine L_yes rfl rfl (q_subI rfl rfl (by omega)) rfl ?_ | refine L_yes rfl rfl (q_int rfl rfl rfl) rfl ?_
      refine L_yes rfl rfl (q_move rfl) rfl ?_
      first | refine L_yes rfl rfl (q_subI rfl rfl (by omega)) rfl ?_ | refine L_yes rfl rfl (q_int rfl rfl rfl) rfl ?_
      refine L_yes rfl rfl (q_int rfl rfl rfl) rfl ?_
      first | refine L_s (q_pickT rfl rfl) rfl ?_ | refine L_s (q_pickF rfl rfl) rfl ?_
      first | exact WPL.jn rfl rfl (by repeat (first | exact trivial | refine ⟨rfl, ?_⟩)) | exact WPL.jnI rfl rfl (by repeat (first | exact trivial | refine ⟨rfl, ?_⟩)) (Imp.pick (by repeat (first | exact Pick.nil | apply Pick.keep (by repeat (first | exact List.Mem.head _ | apply List.Mem.tail)) (by first | exact Pers.cells _ _ _ | exact Pers.slv _ _ _ | exact Pers.bytes _) | apply Pick.cons (by repeat (first | exact Pick1.here | apply Pick1.there)))))
    refine L_s (q_assign rfl) rfl ?_
    refine WPL.nil ?_
    refine WPC.cond rfl (fun h1 => ?_) (fun h1 => ?_)
    · try simp only [decide_eq_true_eq, decide_eq_false_iff_not, beq_iff_eq, bne_iff_ne, beq_eq_false_iff_ne, bne_eq_false_iff_eq, Bool.not_eq_true', Bool.not_eq_false', Bool.not_eq_eq_eq_not, Bool.not_true, Bool.not_false, ne_eq, Decidable.not_not, Int.not_lt, Int.not_le, gt_iff_lt, ge_iff_le] at h1
      simp at h1; omega
    · skip
      refine WPC.skip ?_
      refine blockQ_n ?_
      refine thenQ_n ?_
      refine WPC.seqR ?_
      refine L_s (q_move rfl) rfl ?_
      refine L_s (q_move rfl) rfl ?_
      refine L_s (q_move rfl) rfl ?_
      refine L_s (q_build (cs := [_, _, _, _, _, _, _]) pl_journal_Journal rfl rfl) rfl ?_
      first | refine WPL.cons rfl (E1.wpo (e_boxN rfl) rfl ?_) | refine WPL.cons rfl (E1.wpo (e_box1 rfl rfl) rfl ?_)
      rintro _ _ ⟨bj, rfl, rfl⟩
      refine WPL.putS ?_
      refine L_s (q_assign rfl) rfl ?_
      refine WPL.nil ?_
      refine WPC.seq ?_
      refine WPC.seqR ?_
      refine L_s (q_move rfl) rfl ?_
      refine L_s (q_move rfl) rfl ?_
      refine WPL.cons rfl (C1.call (c_call Tryd.func40 rfl rfl rfl) (c_Load (i := (at_ : Int)) (by omega) hd) (by repeat (first | exact Pick.nil | apply Pick.keep (by repeat (first | exact List.Mem.head _ | apply List.Mem.tail)) (by first | exact Pers.cells _ _ _ | exact Pers.slv _ _ _ | exact Pers.bytes _) | apply Pick.cons (by repeat (first | exact Pick1.here | apply Pick1.there)))) rfl ?_)
      rintro _ _ ⟨a, c, rfl, hb, rfl⟩
      refine WPL.putS ?_
      refine L_s (q_move rfl) rfl ?_
      refine L_s (q_extract rfl rfl) rfl ?_
      refine L_s (q_extract rfl rfl) rfl ?_
      refine L_s (q_extract rfl rfl) rfl ?_
      refine L_s (q_assign rfl) rfl ?_
      refine L_s (q_assign rfl) rfl ?_
      refine L_s (q_assign rfl) rfl ?_
      refine WPL.nil ?_
      refine WPC.seqR ?_
      refine L_s (q_move rfl) rfl ?_
      refine L_s (q_int rfl rfl rfl) rfl ?_
      refine L_s (q_move rfl) rfl ?_
      refine L_split 46 _ rfl (fun g7_2 => ?_) (fun g7_2 => ?_)
      · have hseq : (last d at_).seq ≠ 0 := by intro h; rw [h] at g7_2; simp at g7_2
        simp only [if_neg hseq] at hb ⊢
        refine L_yes rfl rfl (q_move rfl) rfl ?_
        refine L_yes rfl rfl (q_move rfl) rfl ?_
        refine L_eyes rfl rfl rfl (C1.call (c_call Tryd.func41 rfl rfl rfl) (c_meta (b := bj) (db := db) (j := JN.fresh at_ n) (L := ⟨[], none, 0⟩) hb (by omega)) (by repeat (first | exact Pick.nil | apply Pick.keep (by repeat (first | exact List.Mem.head _ | apply List.Mem.tail)) (by first | exact Pers.cells _ _ _ | exact Pers.slv _ _ _ | exact Pers.bytes _) | apply Pick.cons (by repeat (first | exact Pick1.here | apply Pick1.there)))) rfl ?_)
        rintro _ _ ⟨v, rfl, hv, rfl⟩
        refine WPL.putS ?_
        refine L_yes rfl rfl (q_not rfl) rfl ?_
        first | refine L_s (q_pickT rfl rfl) rfl ?_ | refine L_s (q_pickF rfl rfl) rfl ?_
        refine WPL.nil ?_
        refine WPC.prune [(2, _), (6, _), (7, _), (8, _), (51, _)] (by repeat (first | exact trivial | refine ⟨rfl, ?_⟩)) ?_
        refine WPC.cond rfl (fun h2 => ?_) (fun h2 => ?_)
        · have hv0 : v = false := by simpa using h2
          have hbad : ¬ ((last d at_).b.length = 12 ∧ 0 < num (last d at_).b 0 4 ∧ num (last d at_).b 8 4 ≤ num (last d at_).b 4 4) := fun h => by rw [hv.2 h] at hv0; cases hv0
          have hJ := jopen0_none (n := n) (begun_bad hseq hbad)
          refine WPC.seqR ?_
          refine L_s (q_assign rfl) rfl ?_
          refine L_s (q_assign rfl) rfl ?_
          refine L_s (q_assign rfl) rfl ?_
          refine WPL.nil ?_
          refine WPC.ret ?_
          refine thenQ_r ?_
          rw [hJ]
          exact endR_r rfl (.tmp rfl (.tmp rfl (.tmp rfl .nil))) (Imp.pick (by repeat (first | exact Pick.nil | apply Pick.keep (by repeat (first | exact List.Mem.head _ | apply List.Mem.tail)) (by first | exact Pers.cells _ _ _ | exact Pers.slv _ _ _ | exact Pers.bytes _) | apply Pick.cons (by repeat (first | exact Pick1.here | apply Pick1.there))))) ⟨rfl, rfl⟩
        · have hv1 : v = true := by simpa using h2
          have hgood := hv.1 hv1
          refine WPC.imp (Imp.pick (Δ := [cells true bj 0 (jourC db ((JN.fresh at_ n).withMeta (last d at_).b) ⟨[], none, 0⟩), disk db d, tblA]) (by repeat (first | exact Pick.nil | apply Pick.keep (by repeat (first | exact List.Mem.head _ | apply List.Mem.tail)) (by first | exact Pers.cells _ _ _ | exact Pers.slv _ _ _ | exact Pers.bytes _) | apply Pick.cons (by repeat (first | exact Pick1.here | apply Pick1.there))))) ?_
          obtain ⟨j0, hj0⟩ : ∃ j0, ((JN.fresh at_ n).withMeta (last d at_).b) = j0 := ⟨_, rfl⟩
          have hbg : JN.begun d at_ n = some j0 := by rw [← hj0]; exact begun_meta hseq hgood
          have hok0 : j0.ok d := by rw [← hj0]; exact meta_ok hn hat _
          have hh0 : j0.held = [] := by rw [← hj0]; rfl
          have hjn : j0.n = n := by rw [← hj0]; rfl
          have hja : j0.at_ = at_ := by rw [← hj0]; rfl
          rw [hj0]
          clear hj0
          refine WPC.skip ?_
          refine thenQ_n ?_
          refine WPC.seq ?_
          refine WPC.seqR ?_
          refine L_s (q_move rfl) rfl ?_
          first | refine L_s (q_nilP rfl) rfl ?_ | refine L_s (q_nilF rfl) rfl ?_
          first | refine L_s (q_faK fa_journal_Journal_epoch rfl) rfl ?_ | refine L_s (q_fa fa_journal_Journal_epoch rfl) rfl ?_
          first | refine L_s (q_load1z ld_uint32 rfl (by repeat (first | exact List.Mem.head _ | apply List.Mem.tail)) (by rfl)) rfl ?_ | refine L_s (q_load1 ld_uint32 rfl (by repeat (first | exact List.Mem.head _ | apply List.Mem.tail)) rfl (by rfl)) rfl ?_
          refine L_s (q_int rfl rfl rfl) rfl ?_
          refine WPL.nil ?_
          refine WPC.cond rfl (fun h3 => ?_) (fun h3 => ?_)
          · have he : j0.epoch = 4294967295 := by simp at h3; omega
            have hJ := jopen0_full hbg he
            refine WPC.seqR ?_
            refine L_s (q_assign rfl) rfl ?_
            refine L_s (q_assign rfl) rfl ?_
            refine L_s (q_assign rfl) rfl ?_
            refine WPL.nil ?_
            refine WPC.ret ?_
            refine thenQ_r ?_
            rw [hJ]
            exact endR_r rfl (.tmp rfl (.tmp rfl (.tmp rfl .nil))) (Imp.pick (by repeat (first | exact Pick.nil | apply Pick.keep (by repeat (first | exact List.Mem.head _ | apply List.Mem.tail)) (by first | exact Pers.cells _ _ _ | exact Pers.slv _ _ _ | exact Pers.bytes _) | apply Pick.cons (by repeat (first | exact Pick1.here | apply Pick1.there))))) ⟨rfl, rfl⟩
          · have he : j0.epoch ≠ 4294967295 := by simp at h3; omega
            have hel := hok0.epoch
            refine WPC.skip ?_
            refine thenQ_n ?_
            refine WPC.seqR ?_
            refine L_s (q_move rfl) rfl ?_
            refine WPL.imp ((Imp.bufNil (sz := 2)).trans (bytes_nil.trans ((Imp.pick (Δ := [cells true bj 0 (jourC db j0 ⟨[], none, 0⟩), buf 2 none 0 0 (([] : List JR).flatMap encR), bytes (([] : List JR).map (·.x)), disk db d, tblA]) (by repeat (first | exact Pick.nil | apply Pick.keep (by repeat (first | exact List.Mem.head _ | apply List.Mem.tail)) (by first | exact Pers.cells _ _ _ | exact Pers.slv _ _ _ | exact Pers.bytes _) | apply Pick.cons (by repeat (first | exact Pick1.here | apply Pick1.there))))).trans (jour_close (b := bj) (db := db) (j := j0) ⟨[], none, 0⟩ ⟨by rw [hh0]; rfl, by simp⟩ (Γ := [disk db d, tblA]))))) ?_
            refine WPL.cons rfl (C1.call (c_call Tryd.func42 rfl rfl rfl) (c_scan hok0 hd (by omega) hh0) (by repeat (first | exact Pick.nil | apply Pick.keep (by repeat (first | exact List.Mem.head _ | apply List.Mem.tail)) (by first | exact Pers.cells _ _ _ | exact Pers.slv _ _ _ | exact Pers.bytes _) | apply Pick.cons (by repeat (first | exact Pick1.here | apply Pick1.there)))) rfl ?_)
            rintro _ _ ⟨rfl, rfl⟩
            have hall := scanL_all (d := d) (at_ := j0.at_) (n := j0.n) (epoch := j0.epoch) j0.n j0.low j0.first
            refine WPL.putS ?_
            refine WPL.nil ?_
            refine WPC.seq ?_
            refine WPC.seqR ?_
            have hok1 : (j0.scanned d).ok d := hok0.scanned
            have hall1 : ∀ x ∈ (j0.scanned d).held, x.1 < 4294967296 ∧ x.2.length ≤ 43 := hall.2
            have he1 : (j0.scanned d).epoch = j0.epoch := rfl
            have hn1 : (j0.scanned d).n = n := hjn
            have ha1 : (j0.scanned d).at_ = at_ := hja
            have hJerr := jopen0_err (n := n) hbg he
            have hJok := jopen0_ok (n := n) hbg he
            obtain ⟨j1, hj1⟩ : ∃ j1, j0.scanned d = j1 := ⟨_, rfl⟩
            rw [hj1] at hok1 hall1 he1 hn1 ha1 hJerr hJok ⊢
            refine WPL.imp (Imp.pick (Δ := [jour bj db j1, disk db d, tblA]) (by repeat (first | exact Pick.nil | apply Pick.keep (by repeat (first | exact List.Mem.head _ | apply List.Mem.tail)) (by first | exact Pers.cells _ _ _ | exact Pers.slv _ _ _ | exact Pers.bytes _) | apply Pick.cons (by repeat (first | exact Pick1.here | apply Pick1.there))))) ?_
            refine WPL.exg (L := fun L => jourL bj db j1 L) fun L => WPL.pure fun hL => ?_
            obtain ⟨rs, la, lc⟩ := L
            obtain ⟨hheld, hrok⟩ := hL
            dsimp only at hheld hrok
            have hlen : rs.length = j1.held.length := by rw [← hheld, List.length_map]
            have hmx := hok1.held
            have hfx := hok1.first
            have hmod := Nat.mod_lt j1.next (show 0 < n by omega)
            obtain ⟨hd1, hdl, hdp⟩ := openD_ok hd j1 n
            obtain ⟨d1, hd1e⟩ : ∃ d1, openD d j1 n = d1 := ⟨_, rfl⟩
            rw [hd1e] at hd1 hdl hdp hJerr hJok
            refine L_s (q_move rfl) rfl ?_
            first | refine L_s (q_nilP rfl) rfl ?_ | refine L_s (q_nilF rfl) rfl ?_
            first | refine L_s (q_faK fa_journal_Journal_held rfl) rfl ?_ | refine L_s (q_fa fa_journal_Journal_held rfl) rfl ?_
            first | refine L_s (q_load1z ld_sl_journal_record rfl (by repeat (first | exact List.Mem.head _ | apply List.Mem.tail)) (by rfl)) rfl ?_ | refine L_s (q_load1 ld_sl_journal_record rfl (by repeat (first | exact List.Mem.head _ | apply List.Mem.tail)) rfl (by rfl)) rfl ?_
            refine L_s (q_len rfl un_sl_journal_record rfl) rfl ?_
            refine L_s (q_move rfl) rfl ?_
            refine L_s (q_int rfl rfl rfl) rfl ?_
            refine WPL.nil ?_
            refine WPC.midS (fun e Γ => e = [(6, .pointer (some ⟨bj, 0, none⟩))] ∧ Γ = [cells true bj 0 (jourC db j1 ⟨rs, la, lc⟩), buf 2 la rs.length lc (rs.flatMap encR), bytes (rs.map (·.x)), disk db d1, tblA]) ?_ ?_
            · refine WPC.cond rfl (fun h4 => ?_) (fun h4 => ?_)
              · have hl4 : j1.held.length < n := by simp at h4; omega
                have hd1t : (d.write ((j1.place j1.next : Nat) : Int) []).1 = d1 := by rw [← hd1e]; unfold openD; rw [if_pos hl4]
                refine WPC.draw mixed ?_
                refine WPA.takeP 0 rfl (q_move rfl) (by kernel_rfl) (by kernel_rfl) (by kernel_rfl) rfl rfl (.nil _) ?_
                refine WPA.putS ?_
                first | refine WPA.takeP 1 rfl (q_nilP rfl) (by kernel_rfl) (by kernel_rfl) (by kernel_rfl) rfl rfl (.nil _) ?_ | refine WPA.takeP 1 rfl (q_nilF rfl) (by kernel_rfl) (by kernel_rfl) (by kernel_rfl) rfl rfl (.nil _) ?_
                refine WPA.putS ?_
                first | refine WPA.takeP 2 rfl (q_faK fa_journal_Journal_d rfl) (by kernel_rfl) (by kernel_rfl) (by kernel_rfl) rfl rfl (.nil _) ?_ | refine WPA.takeP 2 rfl (q_fa fa_journal_Journal_d rfl) (by kernel_rfl) (by kernel_rfl) (by kernel_rfl) rfl rfl (.nil _) ?_
                refine WPA.putS ?_
                first | refine WPA.takeL 3 rfl (Ent.mem (by repeat (first | exact List.Mem.head _ | apply List.Mem.tail))) (q_load1z ld_ptr_disk_Disk rfl (.head _) (by rfl)) (by kernel_rfl) (by kernel_rfl) (by kernel_rfl) rfl rfl (.nil _) ?_ | refine WPA.takeL 3 rfl (Ent.mem (by repeat (first | exact List.Mem.head _ | apply List.Mem.tail))) (q_load1 ld_ptr_disk_Disk rfl (.head _) rfl (by rfl)) (by kernel_rfl) (by kernel_rfl) (by kernel_rfl) rfl rfl (.nil _) ?_
                refine WPA.putS ?_
                refine WPA.takeP 4 rfl (q_move rfl) (by kernel_rfl) (by kernel_rfl) (by kernel_rfl) rfl rfl (.cons (Ent.mem (by repeat (first | exact List.Mem.head _ | apply List.Mem.tail))) (.nil _)) ?_
                refine WPA.putS ?_
                first | refine WPA.takeP 5 rfl (q_nilP rfl) (by kernel_rfl) (by kernel_rfl) (by kernel_rfl) rfl rfl (.cons (Ent.mem (by repeat (first | exact List.Mem.head _ | apply List.Mem.tail))) (.nil _)) ?_ | refine WPA.takeP 5 rfl (q_nilF rfl) (by kernel_rfl) (by kernel_rfl) (by kernel_rfl) rfl rfl (.cons (Ent.mem (by repeat (first | exact List.Mem.head _ | apply List.Mem.tail))) (.nil _)) ?_
                refine WPA.putS ?_
                first | refine WPA.takeP 6 rfl (q_faK fa_journal_Journal_at rfl) (by kernel_rfl) (by kernel_rfl) (by kernel_rfl) rfl rfl (.cons (Ent.mem (by repeat (first | exact List.Mem.head _ | apply List.Mem.tail))) (.nil _)) ?_ | refine WPA.takeP 6 rfl (q_fa fa_journal_Journal_at rfl) (by kernel_rfl) (by kernel_rfl) (by kernel_rfl) rfl rfl (.cons (Ent.mem (by repeat (first | exact List.Mem.head _ | apply List.Mem.tail))) (.nil _)) ?_
                refine WPA.putS ?_
                first | refine WPA.takeL 7 rfl (Ent.mem (by repeat (first | exact List.Mem.head _ | apply List.Mem.tail))) (q_load1z ld_int rfl (.head _) (by rfl)) (by kernel_rfl) (by kernel_rfl) (by kernel_rfl) rfl rfl (.cons (Ent.mem (by repeat (first | exact List.Mem.head _ | apply List.Mem.tail))) (.nil _)) ?_ | refine WPA.takeL 7 rfl (Ent.mem (by repeat (first | exact List.Mem.head _ | apply List.Mem.tail))) (q_load1 ld_int rfl (.head _) rfl (by rfl)) (by kernel_rfl) (by kernel_rfl) (by kernel_rfl) rfl rfl (.cons (Ent.mem (by repeat (first | exact List.Mem.head _ | apply List.Mem.tail))) (.nil _)) ?_
                refine WPA.putS ?_
                first | refine WPA.takeP 8 rfl (q_inc rfl rfl (by omega)) (by kernel_rfl) (by kernel_rfl) (by kernel_rfl) rfl rfl (.cons (Ent.mem (by repeat (first | exact List.Mem.head _ | apply List.Mem.tail))) (.cons (Ent.mem (by repeat (first | exact List.Mem.head _ | apply List.Mem.tail))) (.nil _))) ?_ | refine WPA.takeP 8 rfl (q_addI rfl rfl (by omega)) (by kernel_rfl) (by kernel_rfl) (by kernel_rfl) rfl rfl (.cons (Ent.mem (by repeat (first | exact List.Mem.head _ | apply List.Mem.tail))) (.cons (Ent.mem (by repeat (first | exact List.Mem.head _ | apply List.Mem.tail))) (.nil _))) ?_ | refine WPA.takeP 8 rfl (q_int rfl rfl rfl) (by kernel_rfl) (by kernel_rfl) (by kernel_rfl) rfl rfl (.cons (Ent.mem (by repeat (first | exact List.Mem.head _ | apply List.Mem.tail))) (.cons (Ent.mem (by repeat (first | exact List.Mem.head _ | apply List.Mem.tail))) (.nil _))) ?_
                refine WPA.putS ?_
                refine WPA.takeP 9 rfl (q_move rfl) (by kernel_rfl) (by kernel_rfl) (by kernel_rfl) rfl rfl (.cons (Ent.mem (by repeat (first | exact List.Mem.head _ | apply List.Mem.tail))) (.cons (Ent.mem (by repeat (first | exact List.Mem.head _ | apply List.Mem.tail))) (.nil _))) ?_
                refine WPA.putS ?_
                refine WPA.takeP 11 rfl (q_move rfl) (by kernel_rfl) (by kernel_rfl) (by kernel_rfl) rfl rfl (.cons (Ent.mem (by repeat (first | exact List.Mem.head _ | apply List.Mem.tail))) (.cons (Ent.mem (by repeat (first | exact List.Mem.head _ | apply List.Mem.tail))) (.nil _))) ?_
                refine WPA.putS ?_
                first | refine WPA.takeP 12 rfl (q_convU in_int in_uint64 rfl (by omega)) (by kernel_rfl) (by kernel_rfl) (by kernel_rfl) rfl rfl (.cons (Ent.mem (by repeat (first | exact List.Mem.head _ | apply List.Mem.tail))) (.cons (Ent.mem (by repeat (first | exact List.Mem.head _ | apply List.Mem.tail))) (.nil _))) ?_ | refine WPA.takeP 12 rfl (q_conv in_int in_uint64 rfl) (by kernel_rfl) (by kernel_rfl) (by kernel_rfl) rfl rfl (.cons (Ent.mem (by repeat (first | exact List.Mem.head _ | apply List.Mem.tail))) (.cons (Ent.mem (by repeat (first | exact List.Mem.head _ | apply List.Mem.tail))) (.nil _))) ?_
                refine WPA.putS ?_
                refine WPA.oneE 10 [(7, [_]), (3, [_])] (by kernel_rfl) rfl rfl (by repeat (first | exact .nil | refine .anc rfl ?_ | refine .keep (by repeat (first | exact List.Mem.head _ | apply List.Mem.tail)) ?_)) (C1.call (c_call Tryd.func34 rfl rfl rfl) (c_next (b := bj) (db := db) (j := j1) (L := ⟨rs, la, lc⟩) hlen hfx (by omega)) (by repeat (first | exact Pick.nil | apply Pick.keep (by repeat (first | exact List.Mem.head _ | apply List.Mem.tail)) (by first | exact Pers.cells _ _ _ | exact Pers.slv _ _ _ | exact Pers.bytes _) | apply Pick.cons (by repeat (first | exact Pick1.here | apply Pick1.there)))) rfl ?_)
                rintro _ _ ⟨rfl, rfl⟩
                refine ⟨(.cons (Ent.mem (by repeat (first | exact List.Mem.head _ | apply List.Mem.tail))) (.cons (Ent.mem (by repeat (first | exact List.Mem.head _ | apply List.Mem.tail))) (.nil _))), ?_⟩
                refine WPA.putS ?_
                refine WPA.takeP 13 rfl (q_remNN (a := j1.next) (b := n) rfl rfl (by omega)) (by kernel_rfl) (by kernel_rfl) (by kernel_rfl) rfl rfl (.cons (Ent.mem (by repeat (first | exact List.Mem.head _ | apply List.Mem.tail))) (.cons (Ent.mem (by repeat (first | exact List.Mem.head _ | apply List.Mem.tail))) (.nil _))) ?_
                refine WPA.putS ?_
                first | refine WPA.takeP 14 rfl (q_convI in_uint64 in_int rfl (by omega)) (by kernel_rfl) (by kernel_rfl) (by kernel_rfl) rfl rfl (.cons (Ent.mem (by repeat (first | exact List.Mem.head _ | apply List.Mem.tail))) (.cons (Ent.mem (by repeat (first | exact List.Mem.head _ | apply List.Mem.tail))) (.nil _))) ?_ | refine WPA.takeP 14 rfl (q_conv in_uint64 in_int rfl) (by kernel_rfl) (by kernel_rfl) (by kernel_rfl) rfl rfl (.cons (Ent.mem (by repeat (first | exact List.Mem.head _ | apply List.Mem.tail))) (.cons (Ent.mem (by repeat (first | exact List.Mem.head _ | apply List.Mem.tail))) (.nil _))) ?_
                refine WPA.putS ?_
                first | refine WPA.takeP 15 rfl (q_inc rfl rfl (by omega)) (by kernel_rfl) (by kernel_rfl) (by kernel_rfl) rfl rfl (.cons (Ent.mem (by repeat (first | exact List.Mem.head _ | apply List.Mem.tail))) (.cons (Ent.mem (by repeat (first | exact List.Mem.head _ | apply List.Mem.tail))) (.nil _))) ?_ | refine WPA.takeP 15 rfl (q_addI rfl rfl (by omega)) (by kernel_rfl) (by kernel_rfl) (by kernel_rfl) rfl rfl (.cons (Ent.mem (by repeat (first | exact List.Mem.head _ | apply List.Mem.tail))) (.cons (Ent.mem (by repeat (first | exact List.Mem.head _ | apply List.Mem.tail))) (.nil _))) ?_ | refine WPA.takeP 15 rfl (q_int rfl rfl rfl) (by kernel_rfl) (by kernel_rfl) (by kernel_rfl) rfl rfl (.cons (Ent.mem (by repeat (first | exact List.Mem.head _ | apply List.Mem.tail))) (.cons (Ent.mem (by repeat (first | exact List.Mem.head _ | apply List.Mem.tail))) (.nil _))) ?_
                refine WPA.putS ?_
                rw [show (j1.at_ : Int) + 2 + ((j1.next % n : Nat) : Int) = ((j1.place j1.next : Nat) : Int) by simp [JN.place, hn1]]
                refine WPA.oneE 16 [] (by kernel_rfl) rfl rfl (by repeat (first | exact .nil | refine .anc rfl ?_ | refine .keep (by repeat (first | exact List.Mem.head _ | apply List.Mem.tail)) ?_)) (C1.call (c_call Tryd.func36 rfl rfl rfl) (c_WriteNil hd (by omega)) (by repeat (first | exact Pick.nil | apply Pick.keep (by repeat (first | exact List.Mem.head _ | apply List.Mem.tail)) (by first | exact Pers.cells _ _ _ | exact Pers.slv _ _ _ | exact Pers.bytes _) | apply Pick.cons (by repeat (first | exact Pick1.here | apply Pick1.there)))) rfl ?_)
                rintro _ _ ⟨rfl, rfl⟩
                rw [hd1t]
                refine ⟨(.nil _), ?_⟩
                refine WPA.putS ?_
                refine WPA.done (by kernel_rfl) ?_
                refine thenQ_n ?_
                exact ⟨rfl, _, _, ⟨rfl, rfl⟩, (by repeat (first | exact trivial | refine ⟨rfl, ?_⟩)), Imp.pick (by repeat (first | exact Pick.nil | apply Pick.keep (by repeat (first | exact List.Mem.head _ | apply List.Mem.tail)) (by first | exact Pers.cells _ _ _ | exact Pers.slv _ _ _ | exact Pers.bytes _) | apply Pick.cons (by repeat (first | exact Pick1.here | apply Pick1.there))))⟩
              · have hd1t : d = d1 := by rw [← hd1e]; unfold openD; rw [if_neg (by simp at h4; omega)]
                refine WPC.imp (show Imp _ [cells true bj 0 (jourC db j1 ⟨rs, la, lc⟩), buf 2 la rs.length lc (rs.flatMap encR), bytes (rs.map (·.x)), disk db d1, tblA] from hd1t ▸ (Imp.pick (by repeat (first | exact Pick.nil | apply Pick.keep (by repeat (first | exact List.Mem.head _ | apply List.Mem.tail)) (by first | exact Pers.cells _ _ _ | exact Pers.slv _ _ _ | exact Pers.bytes _) | apply Pick.cons (by repeat (first | exact Pick1.here | apply Pick1.there)))))) ?_
                refine WPC.skip ?_
                refine thenQ_n ?_
                exact ⟨rfl, _, _, ⟨rfl, rfl⟩, (by repeat (first | exact trivial | refine ⟨rfl, ?_⟩)), Imp.pick (by repeat (first | exact Pick.nil | apply Pick.keep (by repeat (first | exact List.Mem.head _ | apply List.Mem.tail)) (by first | exact Pers.cells _ _ _ | exact Pers.slv _ _ _ | exact Pers.bytes _) | apply Pick.cons (by repeat (first | exact Pick1.here | apply Pick1.there))))⟩
            · rintro e Γ ⟨rfl, rfl⟩
              refine WPC.seqR ?_
              refine L_s (q_move rfl) rfl ?_
              first | refine L_s (q_nilP rfl) rfl ?_ | refine L_s (q_nilF rfl) rfl ?_
              first | refine L_s (q_faK fa_journal_Journal_epoch rfl) rfl ?_ | refine L_s (q_fa fa_journal_Journal_epoch rfl) rfl ?_
              first | refine L_s (q_load1z ld_uint32 rfl (by repeat (first | exact List.Mem.head _ | apply List.Mem.tail)) (by rfl)) rfl ?_ | refine L_s (q_load1 ld_uint32 rfl (by repeat (first | exact List.Mem.head _ | apply List.Mem.tail)) rfl (by rfl)) rfl ?_
              refine L_s (q_add32 (a := j1.epoch) (b := 1) rfl rfl) rfl ?_
              rw [Nat.mod_eq_of_lt (show j1.epoch + 1 < 4294967296 by omega)]
              first | refine L_s (q_nilP rfl) rfl ?_ | refine L_s (q_nilF rfl) rfl ?_
              first | refine L_s (q_faK fa_journal_Journal_epoch rfl) rfl ?_ | refine L_s (q_fa fa_journal_Journal_epoch rfl) rfl ?_
              refine WPL.cons rfl (S1.wpo (s_store1k sz_uint32 rfl rfl rfl rfl (by repeat (first | exact Upd.here | apply Upd.there)) (by repeat constructor)) rfl ?_)
              refine WPL.putN ?_
              refine WPL.nil ?_
              refine WPC.seq ?_
              refine WPC.seqR ?_
              refine L_s (q_move rfl) rfl ?_
              refine WPL.cons rfl (C1.call (c_call Tryd.func43 rfl rfl rfl) (c_jsave (b := bj) (db := db) (j := openJ j1) (L := ⟨rs, la, lc⟩) (d := d1) ⟨by rw [show (openJ j1).n = n from hn1]; exact hn, by show j1.at_ + 2 + j1.n ≤ _; rw [hdl]; omega, hfx, by show j1.epoch + 1 < _; omega, hok1.low, hmx, hok1.eps⟩ hd1 (by omega)) (by repeat (first | exact Pick.nil | apply Pick.keep (by repeat (first | exact List.Mem.head _ | apply List.Mem.tail)) (by first | exact Pers.cells _ _ _ | exact Pers.slv _ _ _ | exact Pers.bytes _) | apply Pick.cons (by repeat (first | exact Pick1.here | apply Pick1.there)))) rfl ?_)
              rintro _ _ ⟨rfl, rfl⟩
              refine WPL.putS ?_
              refine L_s (q_assign rfl) rfl ?_
              refine WPL.nil ?_
              refine WPC.seqR ?_
              refine L_s (q_move rfl) rfl ?_
              refine L_s (q_int rfl rfl rfl) rfl ?_
              refine WPL.nil ?_
              refine WPC.cond rfl (fun h5 => ?_) (fun h5 => ?_)
              · have hne : (jsave d1 (openJ j1)).2 ≠ 0 := by simpa using h5
                have hJ := hJerr hne
                refine WPC.seqR ?_
                refine L_s (q_move rfl) rfl ?_
                refine L_s (q_assign rfl) rfl ?_
                refine L_s (q_assign rfl) rfl ?_
                refine L_s (q_assign rfl) rfl ?_
                refine WPL.nil ?_
                refine WPC.ret ?_
                refine thenQ_r ?_
                rw [hJ]
                exact endR_r rfl (.tmp rfl (.tmp rfl (.tmp rfl .nil))) (Imp.pick (by repeat (first | exact Pick.nil | apply Pick.keep (by repeat (first | exact List.Mem.head _ | apply List.Mem.tail)) (by first | exact Pers.cells _ _ _ | exact Pers.slv _ _ _ | exact Pers.bytes _) | apply Pick.cons (by repeat (first | exact Pick1.here | apply Pick1.there))))) ⟨rfl, rfl⟩
              · have hz : (jsave d1 (openJ j1)).2 = 0 := by simpa using h5
                have hJ := hJok hz
                refine WPC.skip ?_
                refine thenQ_n ?_
                refine WPC.seqR ?_
                refine L_s (q_move rfl) rfl ?_
                refine L_s (q_move rfl) rfl ?_
                refine WPL.imp (Imp.pick (Δ := [buf 2 la rs.length lc (rs.flatMap encR), cells true bj 0 (jourC db (openJ j1) ⟨rs, la, lc⟩), bytes (rs.map (·.x)), disk db (jsave d1 (openJ j1)).1]) (by repeat (first | exact Pick.nil | apply Pick.keep (by repeat (first | exact List.Mem.head _ | apply List.Mem.tail)) (by first | exact Pers.cells _ _ _ | exact Pers.slv _ _ _ | exact Pers.bytes _) | apply Pick.cons (by repeat (first | exact Pick1.here | apply Pick1.there))))) ?_
                refine WPL.bufOpen fun sp hsb hsp => ?_
                refine WPL.cons rfl (C1.call (c_call Tryd.func11 rfl rfl rfl) (c_All_ (b := bj) (db := db) (j := openJ j1) (L := ⟨rs, la, lc⟩) ⟨hheld, hrok⟩ (by show rs.length ≤ _; omega) (fun r hr => Nat.le_trans (hall1 (jrP r) (by rw [← hheld]; exact List.mem_map.2 ⟨r, hr, rfl⟩)).2 (by omega)) hsb) (by repeat (first | exact Pick.nil | apply Pick.keep (by repeat (first | exact List.Mem.head _ | apply List.Mem.tail)) (by first | exact Pers.cells _ _ _ | exact Pers.slv _ _ _ | exact Pers.bytes _) | apply Pick.cons (by repeat (first | exact Pick1.here | apply Pick1.there)))) rfl ?_)
                rintro _ _ ⟨a2, c2, ys, rfl, hsy, hye, hyo, rfl⟩
                refine WPL.putS ?_
                refine L_s (q_assign rfl) rfl ?_
                refine L_s (q_assign rfl) rfl ?_
                refine L_s (q_assign rfl) rfl ?_
                refine WPL.nil ?_
                refine WPC.ret ?_
                rw [hJ]
                exact endR_r rfl (.tmp rfl (.tmp rfl (.tmp rfl .nil))) ((Imp.pick (Δ := [sl true la (rs.flatMap encR), cells true (blk la) (off la + (rs.flatMap encR).length) sp, cells true bj 0 (jourC db (openJ j1) ⟨rs, la, lc⟩), bytes (rs.map (·.x)), disk db (jsave d1 (openJ j1)).1, buf 1 a2 ys.length c2 (ys.map bsV), bytes ys]) (by repeat (first | exact Pick.nil | apply Pick.keep (by repeat (first | exact List.Mem.head _ | apply List.Mem.tail)) (by first | exact Pers.cells _ _ _ | exact Pers.slv _ _ _ | exact Pers.bytes _) | apply Pick.cons (by repeat (first | exact Pick1.here | apply Pick1.there))))).trans ((Imp.bufClose hsb hsp).trans ((Imp.pick (by repeat (first | exact Pick.nil | apply Pick.keep (by repeat (first | exact List.Mem.head _ | apply List.Mem.tail)) (by first | exact Pers.cells _ _ _ | exact Pers.slv _ _ _ | exact Pers.bytes _) | apply Pick.cons (by repeat (first | exact Pick1.here | apply Pick1.there))))).trans (jour_close (b := bj) (db := db) (j := openJ j1) ⟨rs, la, lc⟩ ⟨hheld, hrok⟩ (Γ := [disk db (jsave d1 (openJ j1)).1, buf 1 a2 ys.length c2 (ys.map bsV), bytes ys]))))) ⟨bj, a2, c2, ys, rfl, hsy, hye, hyo, rfl⟩
      · have hseq : (last d at_).seq = 0 := by
          rcases Nat.eq_zero_or_pos (last d at_).seq with h | h
          · exact h
          · rw [if_neg (by omega)] at g7_2; simp at g7_2
        refine L_no rfl rfl rfl rfl ?_
        refine L_no rfl rfl rfl rfl ?_
        refine L_no rfl rfl rfl rfl ?_
        refine L_no rfl rfl rfl rfl ?_
        first | refine L_s (q_pickT rfl rfl) rfl ?_ | refine L_s (q_pickF rfl rfl) rfl ?_
        refine WPL.nil ?_
        refine WPC.prune [(2, _), (6, _), (7, _), (8, _), (51, _)] (by repeat (first | exact trivial | refine ⟨rfl, ?_⟩)) ?_
        refine WPC.cond rfl (fun h2 => ?_) (fun h2 => ?_)
        · skip
          simp at h2
        · refine WPC.imp (Imp.pick (Δ := [cells true bj 0 (jourC db (JN.fresh at_ n) ⟨[], none, 0⟩), disk db d, tblA]) (by repeat (first | exact Pick.nil | apply Pick.keep (by repeat (first | exact List.Mem.head _ | apply List.Mem.tail)) (by first | exact Pers.cells _ _ _ | exact Pers.slv _ _ _ | exact Pers.bytes _) | apply Pick.cons (by repeat (first | exact Pick1.here | apply Pick1.there))))) ?_
          obtain ⟨j0, hj0⟩ : ∃ j0, (JN.fresh at_ n) = j0 := ⟨_, rfl⟩
          have hbg : JN.begun d at_ n = some j0 := by rw [← hj0]; exact begun_zero hseq
          have hok0 : j0.ok d := by rw [← hj0]; exact fresh_ok hn hat
          have hh0 : j0.held = [] := by rw [← hj0]; rfl
          have hjn : j0.n = n := by rw [← hj0]; rfl
          have hja : j0.at_ = at_ := by rw [← hj0]; rfl
          rw [hj0]
          clear hj0
          refine WPC.skip ?_
          refine thenQ_n ?_
          refine WPC.seq ?_
          refine WPC.seqR ?_
          refine L_s (q_move rfl) rfl ?_
          first | refine L_s (q_nilP rfl) rfl ?_ | refine L_s (q_nilF rfl) rfl ?_
          first | refine L_s (q_faK fa_journal_Journal_epoch rfl) rfl ?_ | refine L_s (q_fa fa_journal_Journal_epoch rfl) rfl ?_
          first | refine L_s (q_load1z ld_uint32 rfl (by repeat (first | exact List.Mem.head _ | apply List.Mem.tail)) (by rfl)) rfl ?_ | refine L_s (q_load1 ld_uint32 rfl (by repeat (first | exact List.Mem.head _ | apply List.Mem.tail)) rfl (by rfl)) rfl ?_
          refine L_s (q_int rfl rfl rfl) rfl ?_
          refine WPL.nil ?_
          refine WPC.cond rfl (fun h3 => ?_) (fun h3 => ?_)
          · have he : j0.epoch = 4294967295 := by simp at h3; omega
            have hJ := jopen0_full hbg he
            refine WPC.seqR ?_
            refine L_s (q_assign rfl) rfl ?_
            refine L_s (q_assign rfl) rfl ?_
            refine L_s (q_assign rfl) rfl ?_
            refine WPL.nil ?_
            refine WPC.ret ?_
            refine thenQ_r ?_
            rw [hJ]
            exact endR_r rfl (.tmp rfl (.tmp rfl (.tmp rfl .nil))) (Imp.pick (by repeat (first | exact Pick.nil | apply Pick.keep (by repeat (first | exact List.Mem.head _ | apply List.Mem.tail)) (by first | exact Pers.cells _ _ _ | exact Pers.slv _ _ _ | exact Pers.bytes _) | apply Pick.cons (by repeat (first | exact Pick1.here | apply Pick1.there))))) ⟨rfl, rfl⟩
          · have he : j0.epoch ≠ 4294967295 := by simp at h3; omega
            have hel := hok0.epoch
            refine WPC.skip ?_
            refine thenQ_n ?_
            refine WPC.seqR ?_
            refine L_s (q_move rfl) rfl ?_
            refine WPL.imp ((Imp.bufNil (sz := 2)).trans (bytes_nil.trans ((Imp.pick (Δ := [cells true bj 0 (jourC db j0 ⟨[], none, 0⟩), buf 2 none 0 0 (([] : List JR).flatMap encR), bytes (([] : List JR).map (·.x)), disk db d, tblA]) (by repeat (first | exact Pick.nil | apply Pick.keep (by repeat (first | exact List.Mem.head _ | apply List.Mem.tail)) (by first | exact Pers.cells _ _ _ | exact Pers.slv _ _ _ | exact Pers.bytes _) | apply Pick.cons (by repeat (first | exact Pick1.here | apply Pick1.there))))).trans (jour_close (b := bj) (db := db) (j := j0) ⟨[], none, 0⟩ ⟨by rw [hh0]; rfl, by simp⟩ (Γ := [disk db d, tblA]))))) ?_
            refine WPL.cons rfl (C1.call (c_call Tryd.func42 rfl rfl rfl) (c_scan hok0 hd (by omega) hh0) (by repeat (first | exact Pick.nil | apply Pick.keep (by repeat (first | exact List.Mem.head _ | apply List.Mem.tail)) (by first | exact Pers.cells _ _ _ | exact Pers.slv _ _ _ | exact Pers.bytes _) | apply Pick.cons (by repeat (first | exact Pick1.here | apply Pick1.there)))) rfl ?_)
            rintro _ _ ⟨rfl, rfl⟩
            have hall := scanL_all (d := d) (at_ := j0.at_) (n := j0.n) (epoch := j0.epoch) j0.n j0.low j0.first
            refine WPL.putS ?_
            refine WPL.nil ?_
            refine WPC.seq ?_
            refine WPC.seqR ?_
            have hok1 : (j0.scanned d).ok d := hok0.scanned
            have hall1 : ∀ x ∈ (j0.scanned d).held, x.1 < 4294967296 ∧ x.2.length ≤ 43 := hall.2
            have he1 : (j0.scanned d).epoch = j0.epoch := rfl
            have hn1 : (j0.scanned d).n = n := hjn
            have ha1 : (j0.scanned d).at_ = at_ := hja
            have hJerr := jopen0_err (n := n) hbg he
            have hJok := jopen0_ok (n := n) hbg he
            obtain ⟨j1, hj1⟩ : ∃ j1, j0.scanned d = j1 := ⟨_, rfl⟩
            rw [hj1] at hok1 hall1 he1 hn1 ha1 hJerr hJok ⊢
            refine WPL.imp (Imp.pick (Δ := [jour bj db j1, disk db d, tblA]) (by repeat (first | exact Pick.nil | apply Pick.keep (by repeat (first | exact List.Mem.head _ | apply List.Mem.tail)) (by first | exact Pers.cells _ _ _ | exact Pers.slv _ _ _ | exact Pers.bytes _) | apply Pick.cons (by repeat (first | exact Pick1.here | apply Pick1.there))))) ?_
            refine WPL.exg (L := fun L => jourL bj db j1 L) fun L => WPL.pure fun hL => ?_
            obtain ⟨rs, la, lc⟩ := L
            obtain ⟨hheld, hrok⟩ := hL
            dsimp only at hheld hrok
            have hlen : rs.length = j1.held.length := by rw [← hheld, List.length_map]
            have hmx := hok1.held
            have hfx := hok1.first
            have hmod := Nat.mod_lt j1.next (show 0 < n by omega)
            obtain ⟨hd1, hdl, hdp⟩ := openD_ok hd j1 n
            obtain ⟨d1, hd1e⟩ : ∃ d1, openD d j1 n = d1 := ⟨_, rfl⟩
            rw [hd1e] at hd1 hdl hdp hJerr hJok
            refine L_s (q_move rfl) rfl ?_
            first | refine L_s (q_nilP rfl) rfl ?_ | refine L_s (q_nilF rfl) rfl ?_
            first | refine L_s (q_faK fa_journal_Journal_held rfl) rfl ?_ | refine L_s (q_fa fa_journal_Journal_held rfl) rfl ?_
            first | refine L_s (q_load1z ld_sl_journal_record rfl (by repeat (first | exact List.Mem.head _ | apply List.Mem.tail)) (by rfl)) rfl ?_ | refine L_s (q_load1 ld_sl_journal_record rfl (by repeat (first | exact List.Mem.head _ | apply List.Mem.tail)) rfl (by rfl)) rfl ?_
            refine L_s (q_len rfl un_sl_journal_record rfl) rfl ?_
            refine L_s (q_move rfl) rfl ?_
            refine L_s (q_int rfl rfl rfl) rfl ?_
            refine WPL.nil ?_
            refine WPC.midS (fun e Γ => e = [(6, .pointer (some ⟨bj, 0, none⟩))] ∧ Γ = [cells true bj 0 (jourC db j1 ⟨rs, la, lc⟩), buf 2 la rs.length lc (rs.flatMap encR), bytes (rs.map (·.x)), disk db d1, tblA]) ?_ ?_
            · refine WPC.cond rfl (fun h4 => ?_) (fun h4 => ?_)
              · have hl4 : j1.held.length < n := by simp at h4; omega
                have hd1t : (d.write ((j1.place j1.next : Nat) : Int) []).1 = d1 := by rw [← hd1e]; unfold openD; rw [if_pos hl4]
                refine WPC.draw mixed ?_
                refine WPA.takeP 0 rfl (q_move rfl) (by kernel_rfl) (by kernel_rfl) (by kernel_rfl) rfl rfl (.nil _) ?_
                refine WPA.putS ?_
                first | refine WPA.takeP 1 rfl (q_nilP rfl) (by kernel_rfl) (by kernel_rfl) (by kernel_rfl) rfl rfl (.nil _) ?_ | refine WPA.takeP 1 rfl (q_nilF rfl) (by kernel_rfl) (by kernel_rfl) (by kernel_rfl) rfl rfl (.nil _) ?_
                refine WPA.putS ?_
                first | refine WPA.takeP 2 rfl (q_faK fa_journal_Journal_d rfl) (by kernel_rfl) (by kernel_rfl) (by kernel_rfl) rfl rfl (.nil _) ?_ | refine WPA.takeP 2 rfl (q_fa fa_journal_Journal_d rfl) (by kernel_rfl) (by kernel_rfl) (by kernel_rfl) rfl rfl (.nil _) ?_
                refine WPA.putS ?_
                first | refine WPA.takeL 3 rfl (Ent.mem (by repeat (first | exact List.Mem.head _ | apply List.Mem.tail))) (q_load1z ld_ptr_disk_Disk rfl (.head _) (by rfl)) (by kernel_rfl) (by kernel_rfl) (by kernel_rfl) rfl rfl (.nil _) ?_ | refine WPA.takeL 3 rfl (Ent.mem (by repeat (first | exact List.Mem.head _ | apply List.Mem.tail))) (q_load1 ld_ptr_disk_Disk rfl (.head _) rfl (by rfl)) (by kernel_rfl) (by kernel_rfl) (by kernel_rfl) rfl rfl (.nil _) ?_
                refine WPA.putS ?_
                refine WPA.takeP 4 rfl (q_move rfl) (by kernel_rfl) (by kernel_rfl) (by kernel_rfl) rfl rfl (.cons (Ent.mem (by repeat (first | exact List.Mem.head _ | apply List.Mem.tail))) (.nil _)) ?_
                refine WPA.putS ?_
                first | refine WPA.takeP 5 rfl (q_nilP rfl) (by kernel_rfl) (by kernel_rfl) (by kernel_rfl) rfl rfl (.cons (Ent.mem (by repeat (first | exact List.Mem.head _ | apply List.Mem.tail))) (.nil _)) ?_ | refine WPA.takeP 5 rfl (q_nilF rfl) (by kernel_rfl) (by kernel_rfl) (by kernel_rfl) rfl rfl (.cons (Ent.mem (by repeat (first | exact List.Mem.head _ | apply List.Mem.tail))) (.nil _)) ?_
                refine WPA.putS ?_
                first | refine WPA.takeP 6 rfl (q_faK fa_journal_Journal_at rfl) (by kernel_rfl) (by kernel_rfl) (by kernel_rfl) rfl rfl (.cons (Ent.mem (by repeat (first | exact List.Mem.head _ | apply List.Mem.tail))) (.nil _)) ?_ | refine WPA.takeP 6 rfl (q_fa fa_journal_Journal_at rfl) (by kernel_rfl) (by kernel_rfl) (by kernel_rfl) rfl rfl (.cons (Ent.mem (by repeat (first | exact List.Mem.head _ | apply List.Mem.tail))) (.nil _)) ?_
                refine WPA.putS ?_
                first | refine WPA.takeL 7 rfl (Ent.mem (by repeat (first | exact List.Mem.head _ | apply List.Mem.tail))) (q_load1z ld_int rfl (.head _) (by rfl)) (by kernel_rfl) (by kernel_rfl) (by kernel_rfl) rfl rfl (.cons (Ent.mem (by repeat (first | exact List.Mem.head _ | apply List.Mem.tail))) (.nil _)) ?_ | refine WPA.takeL 7 rfl (Ent.mem (by repeat (first | exact List.Mem.head _ | apply List.Mem.tail))) (q_load1 ld_int rfl (.head _) rfl (by rfl)) (by kernel_rfl) (by kernel_rfl) (by kernel_rfl) rfl rfl (.cons (Ent.mem (by repeat (first | exact List.Mem.head _ | apply List.Mem.tail))) (.nil _)) ?_
                refine WPA.putS ?_
                first | refine WPA.takeP 8 rfl (q_inc rfl rfl (by omega)) (by kernel_rfl) (by kernel_rfl) (by kernel_rfl) rfl rfl (.cons (Ent.mem (by repeat (first | exact List.Mem.head _ | apply List.Mem.tail))) (.cons (Ent.mem (by repeat (first | exact List.Mem.head _ | apply List.Mem.tail))) (.nil _))) ?_ | refine WPA.takeP 8 rfl (q_addI rfl rfl (by omega)) (by kernel_rfl) (by kernel_rfl) (by kernel_rfl) rfl rfl (.cons (Ent.mem (by repeat (first | exact List.Mem.head _ | apply List.Mem.tail))) (.cons (Ent.mem (by repeat (first | exact List.Mem.head _ | apply List.Mem.tail))) (.nil _))) ?_ | refine WPA.takeP 8 rfl (q_int rfl rfl rfl) (by kernel_rfl) (by kernel_rfl) (by kernel_rfl) rfl rfl (.cons (Ent.mem (by repeat (first | exact List.Mem.head _ | apply List.Mem.tail))) (.cons (Ent.mem (by repeat (first | exact List.Mem.head _ | apply List.Mem.tail))) (.nil _))) ?_
                refine WPA.putS ?_
                refine WPA.takeP 9 rfl (q_move rfl) (by kernel_rfl) (by kernel_rfl) (by kernel_rfl) rfl rfl (.cons (Ent.mem (by repeat (first | exact List.Mem.head _ | apply List.Mem.tail))) (.cons (Ent.mem (by repeat (first | exact List.Mem.head _ | apply List.Mem.tail))) (.nil _))) ?_
                refine WPA.putS ?_
                refine WPA.takeP 11 rfl (q_move rfl) (by kernel_rfl) (by kernel_rfl) (by kernel_rfl) rfl rfl (.cons (Ent.mem (by repeat (first | exact List.Mem.head _ | apply List.Mem.tail))) (.cons (Ent.mem (by repeat (first | exact List.Mem.head _ | apply List.Mem.tail))) (.nil _))) ?_
                refine WPA.putS ?_
                first | refine WPA.takeP 12 rfl (q_convU in_int in_uint64 rfl (by omega)) (by kernel_rfl) (by kernel_rfl) (by kernel_rfl) rfl rfl (.cons (Ent.mem (by repeat (first | exact List.Mem.head _ | apply List.Mem.tail))) (.cons (Ent.mem (by repeat (first | exact List.Mem.head _ | apply List.Mem.tail))) (.nil _))) ?_ | refine WPA.takeP 12 rfl (q_conv in_int in_uint64 rfl) (by kernel_rfl) (by kernel_rfl) (by kernel_rfl) rfl rfl (.cons (Ent.mem (by repeat (first | exact List.Mem.head _ | apply List.Mem.tail))) (.cons (Ent.mem (by repeat (first | exact List.Mem.head _ | apply List.Mem.tail))) (.nil _))) ?_
                refine WPA.putS ?_
                refine WPA.oneE 10 [(7, [_]), (3, [_])] (by kernel_rfl) rfl rfl (by repeat (first | exact .nil | refine .anc rfl ?_ | refine .keep (by repeat (first | exact List.Mem.head _ | apply List.Mem.tail)) ?_)) (C1.call (c_call Tryd.func34 rfl rfl rfl) (c_next (b := bj) (db := db) (j := j1) (L := ⟨rs, la, lc⟩) hlen hfx (by omega)) (by repeat (first | exact Pick.nil | apply Pick.keep (by repeat (first | exact List.Mem.head _ | apply List.Mem.tail)) (by first | exact Pers.cells _ _ _ | exact Pers.slv _ _ _ | exact Pers.bytes _) | apply Pick.cons (by repeat (first | exact Pick1.here | apply Pick1.there)))) rfl ?_)
                rintro _ _ ⟨rfl, rfl⟩
                refine ⟨(.cons (Ent.mem (by repeat (first | exact List.Mem.head _ | apply List.Mem.tail))) (.cons (Ent.mem (by repeat (first | exact List.Mem.head _ | apply List.Mem.tail))) (.nil _))), ?_⟩
                refine WPA.putS ?_
                refine WPA.takeP 13 rfl (q_remNN (a := j1.next) (b := n) rfl rfl (by omega)) (by kernel_rfl) (by kernel_rfl) (by kernel_rfl) rfl rfl (.cons (Ent.mem (by repeat (first | exact List.Mem.head _ | apply List.Mem.tail))) (.cons (Ent.mem (by repeat (first | exact List.Mem.head _ | apply List.Mem.tail))) (.nil _))) ?_
                refine WPA.putS ?_
                first | refine WPA.takeP 14 rfl (q_convI in_uint64 in_int rfl (by omega)) (by kernel_rfl) (by kernel_rfl) (by kernel_rfl) rfl rfl (.cons (Ent.mem (by repeat (first | exact List.Mem.head _ | apply List.Mem.tail))) (.cons (Ent.mem (by repeat (first | exact List.Mem.head _ | apply List.Mem.tail))) (.nil _))) ?_ | refine WPA.takeP 14 rfl (q_conv in_uint64 in_int rfl) (by kernel_rfl) (by kernel_rfl) (by kernel_rfl) rfl rfl (.cons (Ent.mem (by repeat (first | exact List.Mem.head _ | apply List.Mem.tail))) (.cons (Ent.mem (by repeat (first | exact List.Mem.head _ | apply List.Mem.tail))) (.nil _))) ?_
                refine WPA.putS ?_
                first | refine WPA.takeP 15 rfl (q_inc rfl rfl (by omega)) (by kernel_rfl) (by kernel_rfl) (by kernel_rfl) rfl rfl (.cons (Ent.mem (by repeat (first | exact List.Mem.head _ | apply List.Mem.tail))) (.cons (Ent.mem (by repeat (first | exact List.Mem.head _ | apply List.Mem.tail))) (.nil _))) ?_ | refine WPA.takeP 15 rfl (q_addI rfl rfl (by omega)) (by kernel_rfl) (by kernel_rfl) (by kernel_rfl) rfl rfl (.cons (Ent.mem (by repeat (first | exact List.Mem.head _ | apply List.Mem.tail))) (.cons (Ent.mem (by repeat (first | exact List.Mem.head _ | apply List.Mem.tail))) (.nil _))) ?_ | refine WPA.takeP 15 rfl (q_int rfl rfl rfl) (by kernel_rfl) (by kernel_rfl) (by kernel_rfl) rfl rfl (.cons (Ent.mem (by repeat (first | exact List.Mem.head _ | apply List.Mem.tail))) (.cons (Ent.mem (by repeat (first | exact List.Mem.head _ | apply List.Mem.tail))) (.nil _))) ?_
                refine WPA.putS ?_
                rw [show (j1.at_ : Int) + 2 + ((j1.next % n : Nat) : Int) = ((j1.place j1.next : Nat) : Int) by simp [JN.place, hn1]]
                refine WPA.oneE 16 [] (by kernel_rfl) rfl rfl (by repeat (first | exact .nil | refine .anc rfl ?_ | refine .keep (by repeat (first | exact List.Mem.head _ | apply List.Mem.tail)) ?_)) (C1.call (c_call Tryd.func36 rfl rfl rfl) (c_WriteNil hd (by omega)) (by repeat (first | exact Pick.nil | apply Pick.keep (by repeat (first | exact List.Mem.head _ | apply List.Mem.tail)) (by first | exact Pers.cells _ _ _ | exact Pers.slv _ _ _ | exact Pers.bytes _) | apply Pick.cons (by repeat (first | exact Pick1.here | apply Pick1.there)))) rfl ?_)
                rintro _ _ ⟨rfl, rfl⟩
                rw [hd1t]
                refine ⟨(.nil _), ?_⟩
                refine WPA.putS ?_
                refine WPA.done (by kernel_rfl) ?_
                refine thenQ_n ?_
                exact ⟨rfl, _, _, ⟨rfl, rfl⟩, (by repeat (first | exact trivial | refine ⟨rfl, ?_⟩)), Imp.pick (by repeat (first | exact Pick.nil | apply Pick.keep (by repeat (first | exact List.Mem.head _ | apply List.Mem.tail)) (by first | exact Pers.cells _ _ _ | exact Pers.slv _ _ _ | exact Pers.bytes _) | apply Pick.cons (by repeat (first | exact Pick1.here | apply Pick1.there))))⟩
              · have hd1t : d = d1 := by rw [← hd1e]; unfold openD; rw [if_neg (by simp at h4; omega)]
                refine WPC.imp (show Imp _ [cells true bj 0 (jourC db j1 ⟨rs, la, lc⟩), buf 2 la rs.length lc (rs.flatMap encR), bytes (rs.map (·.x)), disk db d1, tblA] from hd1t ▸ (Imp.pick (by repeat (first | exact Pick.nil | apply Pick.keep (by repeat (first | exact List.Mem.head _ | apply List.Mem.tail)) (by first | exact Pers.cells _ _ _ | exact Pers.slv _ _ _ | exact Pers.bytes _) | apply Pick.cons (by repeat (first | exact Pick1.here | apply Pick1.there)))))) ?_
                refine WPC.skip ?_
                refine thenQ_n ?_
                exact ⟨rfl, _, _, ⟨rfl, rfl⟩, (by repeat (first | exact trivial | refine ⟨rfl, ?_⟩)), Imp.pick (by repeat (first | exact Pick.nil | apply Pick.keep (by repeat (first | exact List.Mem.head _ | apply List.Mem.tail)) (by first | exact Pers.cells _ _ _ | exact Pers.slv _ _ _ | exact Pers.bytes _) | apply Pick.cons (by repeat (first | exact Pick1.here | apply Pick1.there))))⟩
            · rintro e Γ ⟨rfl, rfl⟩
              refine WPC.seqR ?_
              refine L_s (q_move rfl) rfl ?_
              first | refine L_s (q_nilP rfl) rfl ?_ | refine L_s (q_nilF rfl) rfl ?_
              first | refine L_s (q_faK fa_journal_Journal_epoch rfl) rfl ?_ | refine L_s (q_fa fa_journal_Journal_epoch rfl) rfl ?_
              first | refine L_s (q_load1z ld_uint32 rfl (by repeat (first | exact List.Mem.head _ | apply List.Mem.tail)) (by rfl)) rfl ?_ | refine L_s (q_load1 ld_uint32 rfl (by repeat (first | exact List.Mem.head _ | apply List.Mem.tail)) rfl (by rfl)) rfl ?_
              refine L_s (q_add32 (a := j1.epoch) (b := 1) rfl rfl) rfl ?_
              rw [Nat.mod_eq_of_lt (show j1.epoch + 1 < 4294967296 by omega)]
              first | refine L_s (q_nilP rfl) rfl ?_ | refine L_s (q_nilF rfl) rfl ?_
              first | refine L_s (q_faK fa_journal_Journal_epoch rfl) rfl ?_ | refine L_s (q_fa fa_journal_Journal_epoch rfl) rfl ?_
              refine WPL.cons rfl (S1.wpo (s_store1k sz_uint32 rfl rfl rfl rfl (by repeat (first | exact Upd.here | apply Upd.there)) (by repeat constructor)) rfl ?_)
              refine WPL.putN ?_
              refine WPL.nil ?_
              refine WPC.seq ?_
              refine WPC.seqR ?_
              refine L_s (q_move rfl) rfl ?_
              refine WPL.cons rfl (C1.call (c_call Tryd.func43 rfl rfl rfl) (c_jsave (b := bj) (db := db) (j := openJ j1) (L := ⟨rs, la, lc⟩) (d := d1) ⟨by rw [show (openJ j1).n = n from hn1]; exact hn, by show j1.at_ + 2 + j1.n ≤ _; rw [hdl]; omega, hfx, by show j1.epoch + 1 < _; omega, hok1.low, hmx, hok1.eps⟩ hd1 (by omega)) (by repeat (first | exact Pick.nil | apply Pick.keep (by repeat (first | exact List.Mem.head _ | apply List.Mem.tail)) (by first | exact Pers.cells _ _ _ | exact Pers.slv _ _ _ | exact Pers.bytes _) | apply Pick.cons (by repeat (first | exact Pick1.here | apply Pick1.there)))) rfl ?_)
              rintro _ _ ⟨rfl, rfl⟩
              refine WPL.putS ?_
              refine L_s (q_assign rfl) rfl ?_
              refine WPL.nil ?_
              refine WPC.seqR ?_
              refine L_s (q_move rfl) rfl ?_
              refine L_s (q_int rfl rfl rfl) rfl ?_
              refine WPL.nil ?_
              refine WPC.cond rfl (fun h5 => ?_) (fun h5 => ?_)
              · have hne : (jsave d1 (openJ j1)).2 ≠ 0 := by simpa using h5
                have hJ := hJerr hne
                refine WPC.seqR ?_
                refine L_s (q_move rfl) rfl ?_
                refine L_s (q_assign rfl) rfl ?_
                refine L_s (q_assign rfl) rfl ?_
                refine L_s (q_assign rfl) rfl ?_
                refine WPL.nil ?_
                refine WPC.ret ?_
                refine thenQ_r ?_
                rw [hJ]
                exact endR_r rfl (.tmp rfl (.tmp rfl (.tmp rfl .nil))) (Imp.pick (by repeat (first | exact Pick.nil | apply Pick.keep (by repeat (first | exact List.Mem.head _ | apply List.Mem.tail)) (by first | exact Pers.cells _ _ _ | exact Pers.slv _ _ _ | exact Pers.bytes _) | apply Pick.cons (by repeat (first | exact Pick1.here | apply Pick1.there))))) ⟨rfl, rfl⟩
              · have hz : (jsave d1 (openJ j1)).2 = 0 := by simpa using h5
                have hJ := hJok hz
                refine WPC.skip ?_
                refine thenQ_n ?_
                refine WPC.seqR ?_
                refine L_s (q_move rfl) rfl ?_
                refine L_s (q_move rfl) rfl ?_
                refine WPL.imp (Imp.pick (Δ := [buf 2 la rs.length lc (rs.flatMap encR), cells true bj 0 (jourC db (openJ j1) ⟨rs, la, lc⟩), bytes (rs.map (·.x)), disk db (jsave d1 (openJ j1)).1]) (by repeat (first | exact Pick.nil | apply Pick.keep (by repeat (first | exact List.Mem.head _ | apply List.Mem.tail)) (by first | exact Pers.cells _ _ _ | exact Pers.slv _ _ _ | exact Pers.bytes _) | apply Pick.cons (by repeat (first | exact Pick1.here | apply Pick1.there))))) ?_
                refine WPL.bufOpen fun sp hsb hsp => ?_
                refine WPL.cons rfl (C1.call (c_call Tryd.func11 rfl rfl rfl) (c_All_ (b := bj) (db := db) (j := openJ j1) (L := ⟨rs, la, lc⟩) ⟨hheld, hrok⟩ (by show rs.length ≤ _; omega) (fun r hr => Nat.le_trans (hall1 (jrP r) (by rw [← hheld]; exact List.mem_map.2 ⟨r, hr, rfl⟩)).2 (by omega)) hsb) (by repeat (first | exact Pick.nil | apply Pick.keep (by repeat (first | exact List.Mem.head _ | apply List.Mem.tail)) (by first | exact Pers.cells _ _ _ | exact Pers.slv _ _ _ | exact Pers.bytes _) | apply Pick.cons (by repeat (first | exact Pick1.here | apply Pick1.there)))) rfl ?_)
                rintro _ _ ⟨a2, c2, ys, rfl, hsy, hye, hyo, rfl⟩
                refine WPL.putS ?_
                refine L_s (q_assign rfl) rfl ?_
                refine L_s (q_assign rfl) rfl ?_
                refine L_s (q_assign rfl) rfl ?_
                refine WPL.nil ?_
                refine WPC.ret ?_
                rw [hJ]
                exact endR_r rfl (.tmp rfl (.tmp rfl (.tmp rfl .nil))) ((Imp.pick (Δ := [sl true la (rs.flatMap encR), cells true (blk la) (off la + (rs.flatMap encR).length) sp, cells true bj 0 (jourC db (openJ j1) ⟨rs, la, lc⟩), bytes (rs.map (·.x)), disk db (jsave d1 (openJ j1)).1, buf 1 a2 ys.length c2 (ys.map bsV), bytes ys]) (by repeat (first | exact Pick.nil | apply Pick.keep (by repeat (first | exact List.Mem.head _ | apply List.Mem.tail)) (by first | exact Pers.cells _ _ _ | exact Pers.slv _ _ _ | exact Pers.bytes _) | apply Pick.cons (by repeat (first | exact Pick1.here | apply Pick1.there))))).trans ((Imp.bufClose hsb hsp).trans ((Imp.pick (by repeat (first | exact Pick.nil | apply Pick.keep (by repeat (first | exact List.Mem.head _ | apply List.Mem.tail)) (by first | exact Pers.cells _ _ _ | exact Pers.slv _ _ _ | exact Pers.bytes _) | apply Pick.cons (by repeat (first | exact Pick1.here | apply Pick1.there))))).trans (jour_close (b := bj) (db := db) (j := openJ j1) ⟨rs, la, lc⟩ ⟨hheld, hrok⟩ (Γ := [disk db (jsave d1 (openJ j1)).1, buf 1 a2 ys.length c2 (ys.map bsV), bytes ys]))))) ⟨bj, a2, c2, ys, rfl, hsy, hye, hyo, rfl⟩

end Go.Sl
