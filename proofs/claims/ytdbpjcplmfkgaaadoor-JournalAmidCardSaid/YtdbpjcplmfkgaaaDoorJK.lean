/- Walks: Cut, scan. -/
import Derived.Test.YtdbpjcplmfkgaaaDoorJJ
namespace Go.Sl
open Go Go.RowKit Go.Proofs
set_option linter.unusedSimpArgs false
set_option linter.unusedVariables false
attribute [local irreducible] faB szB ldB zB zL slB mkB arB plB intB cells objc star stars buf slv grp whole Sat WPC WPL WPA WPO Trip

theorem c_JCut {b db : Nat} {j : JN} {d : DK} (hj : j.ok d) (hd : d.ok) (hpl : d.pend.length < 700000) {i : Int} (hnx : j.next < 4294967296) : Trip Tryd.prog 18 #[.pointer (some ⟨b, 0, none⟩), .int .i64 i] [jour b db j, disk db d, tblA] fun r Δ => r = .int .i64 (jcut d j i).2.2 ∧ Δ = [jour b db (jcut d j i).2.1, disk db (jcut d j i).1] := by
  refine jour_open fun L hL => ?_
  obtain ⟨rs, la, lc⟩ := L
  obtain ⟨hheld, hrok⟩ := hL
  dsimp only at hheld hrok
  have hlen : rs.length = j.held.length := by rw [← hheld, List.length_map]
  have q1 := hj.first
  have q2 := hj.epoch
  have q3 := hj.low
  have q4 := hj.at_
  have q5 := hj.n
  have q6 := hj.held
  have q7 := hd.n
  have q8 := hj.eps
  unfold JN.next at hnx
  refine Trip.start 70 [.tmp 4] [(0, .pointer (some ⟨b, 0, none⟩)), (1, .int .i64 i)] Tryd.func18 rfl Tryd.ntmps18 rfl ⟨rfl, rfl, trivial⟩ rfl ?_
  refine WPC.seqR ?_
  refine L_s (q_assign rfl) rfl ?_
  refine WPL.nil ?_
  refine WPC.seq ?_
  refine WPC.block ?_
  refine WPC.seqR ?_
  refine L_s (q_move rfl) rfl ?_
  refine L_s (q_int rfl rfl rfl) rfl ?_
  refine L_s (q_move rfl) rfl ?_
  apply WPL.joinO (e' := [(0, _), (1, _), (4, _)]) 8 16 8 rfl
  · intro g1_2
    try simp only [decide_eq_true_eq, decide_eq_false_iff_not, beq_iff_eq, bne_iff_ne, beq_eq_false_iff_ne, bne_eq_false_iff_eq, Bool.not_eq_true', Bool.not_eq_false', Bool.not_eq_eq_eq_not, Bool.not_true, Bool.not_false, ne_eq, Decidable.not_not, Int.not_lt, Int.not_le, gt_iff_lt, ge_iff_le] at g1_2
    refine L_no rfl rfl rfl rfl ?_
    refine L_no rfl rfl rfl rfl ?_
    refine L_no rfl rfl rfl rfl ?_
    refine L_no rfl rfl rfl rfl ?_
    refine L_no rfl rfl rfl rfl ?_
    refine L_no rfl rfl rfl rfl ?_
    refine L_no rfl rfl rfl rfl ?_
    first | refine L_s (q_pickT rfl rfl) rfl ?_ | refine L_s (q_pickF rfl rfl) rfl ?_
    first | exact WPL.jn rfl rfl (by repeat (first | exact trivial | refine ⟨rfl, ?_⟩)) | exact WPL.jnI rfl rfl (by repeat (first | exact trivial | refine ⟨rfl, ?_⟩)) (Imp.pick (by repeat (first | exact Pick.nil | apply Pick.keep (by repeat (first | exact List.Mem.head _ | apply List.Mem.tail)) (by first | exact Pers.cells _ _ _ | exact Pers.slv _ _ _) | apply Pick.cons (by repeat (first | exact Pick1.here | apply Pick1.there)))))
  · intro g1_2
    try simp only [decide_eq_true_eq, decide_eq_false_iff_not, beq_iff_eq, bne_iff_ne, beq_eq_false_iff_ne, bne_eq_false_iff_eq, Bool.not_eq_true', Bool.not_eq_false', Bool.not_eq_eq_eq_not, Bool.not_true, Bool.not_false, ne_eq, Decidable.not_not, Int.not_lt, Int.not_le, gt_iff_lt, ge_iff_le] at g1_2
    refine L_yes rfl rfl (q_move rfl) rfl ?_
    refine L_yes rfl rfl (q_move rfl) rfl ?_
    first | refine L_yes rfl rfl (q_nilP rfl) rfl ?_ | refine L_yes rfl rfl (q_nilF rfl) rfl ?_
    first | refine L_yes rfl rfl (q_faK fa_journal_Journal_held rfl) rfl ?_ | refine L_yes rfl rfl (q_fa fa_journal_Journal_held rfl) rfl ?_
    first | refine L_yes rfl rfl (q_load1z ld_sl_journal_record rfl (by repeat (first | exact List.Mem.head _ | apply List.Mem.tail)) (by rfl)) rfl ?_ | refine L_yes rfl rfl (q_load1 ld_sl_journal_record rfl (by repeat (first | exact List.Mem.head _ | apply List.Mem.tail)) rfl (by rfl)) rfl ?_
    refine L_yes rfl rfl (q_len rfl un_sl_journal_record rfl) rfl ?_
    refine L_yes rfl rfl (q_int rfl rfl rfl) rfl ?_
    first | refine L_s (q_pickT rfl rfl) rfl ?_ | refine L_s (q_pickF rfl rfl) rfl ?_
    first | exact WPL.jn rfl rfl (by repeat (first | exact trivial | refine ⟨rfl, ?_⟩)) | exact WPL.jnI rfl rfl (by repeat (first | exact trivial | refine ⟨rfl, ?_⟩)) (Imp.pick (by repeat (first | exact Pick.nil | apply Pick.keep (by repeat (first | exact List.Mem.head _ | apply List.Mem.tail)) (by first | exact Pers.cells _ _ _ | exact Pers.slv _ _ _) | apply Pick.cons (by repeat (first | exact Pick1.here | apply Pick1.there)))))
  refine L_s (q_assign rfl) rfl ?_
  refine WPL.nil ?_
  refine WPC.cond rfl (fun h0 => ?_) (fun h0 => ?_)
  · have et : jcut d j i = (d, j, 1) := by unfold jcut; rw [if_pos (by simp at h0; omega)]
    rw [et]
    refine WPC.seqR ?_
    refine L_s (q_assign rfl) rfl ?_
    refine WPL.nil ?_
    refine WPC.ret ?_
    refine blockQ_r ?_
    refine thenQ_r ?_
    exact endR_r rfl (.tmp rfl .nil) ((Imp.pick (by repeat (first | exact Pick.nil | apply Pick.keep (by repeat (first | exact List.Mem.head _ | apply List.Mem.tail)) (by first | exact Pers.cells _ _ _ | exact Pers.slv _ _ _ | exact Pers.bytes _) | apply Pick.cons (by repeat (first | exact Pick1.here | apply Pick1.there))))).trans (jour_close (b := b) (db := db) (j := j) ⟨rs, la, lc⟩ ⟨hheld, hrok⟩ (Γ := [disk db d]))) ⟨rfl, rfl⟩
  · obtain ⟨k, rfl⟩ : ∃ k : Nat, i = (k : Int) := ⟨i.toNat, by simp at h0; omega⟩
    have hk : k ≤ rs.length := by simp at h0; omega
    refine WPC.seqR ?_
    refine L_s (q_move rfl) rfl ?_
    first | refine L_s (q_nilP rfl) rfl ?_ | refine L_s (q_nilF rfl) rfl ?_
    first | refine L_s (q_faK fa_journal_Journal_epoch rfl) rfl ?_ | refine L_s (q_fa fa_journal_Journal_epoch rfl) rfl ?_
    first | refine L_s (q_load1z ld_uint32 rfl (by repeat (first | exact List.Mem.head _ | apply List.Mem.tail)) (by rfl)) rfl ?_ | refine L_s (q_load1 ld_uint32 rfl (by repeat (first | exact List.Mem.head _ | apply List.Mem.tail)) rfl (by rfl)) rfl ?_
    refine L_s (q_int rfl rfl rfl) rfl ?_
    refine L_s (q_assign rfl) rfl ?_
    refine WPL.nil ?_
    refine WPC.cond rfl (fun h1 => ?_) (fun h1 => ?_)
    · have he : j.epoch = 4294967295 := by simp at h1; omega
      have et : jcut d j k = (d, j, 42) := by unfold jcut; rw [if_neg (by omega), if_pos he]
      rw [et]
      refine WPC.seqR ?_
      refine L_s (q_assign rfl) rfl ?_
      refine WPL.nil ?_
      refine WPC.ret ?_
      refine blockQ_r ?_
      refine thenQ_r ?_
      exact endR_r rfl (.tmp rfl .nil) ((Imp.pick (by repeat (first | exact Pick.nil | apply Pick.keep (by repeat (first | exact List.Mem.head _ | apply List.Mem.tail)) (by first | exact Pers.cells _ _ _ | exact Pers.slv _ _ _ | exact Pers.bytes _) | apply Pick.cons (by repeat (first | exact Pick1.here | apply Pick1.there))))).trans (jour_close (b := b) (db := db) (j := j) ⟨rs, la, lc⟩ ⟨hheld, hrok⟩ (Γ := [disk db d]))) ⟨rfl, rfl⟩
    · have he : j.epoch ≠ 4294967295 := by simp at h1; omega
      refine WPC.skip ?_
      refine blockQ_n ?_
      refine thenQ_n ?_
      refine WPC.seqR ?_
      refine L_s (q_move rfl) rfl ?_
      first | refine L_s (q_nilP rfl) rfl ?_ | refine L_s (q_nilF rfl) rfl ?_
      first | refine L_s (q_faK fa_journal_Journal_d rfl) rfl ?_ | refine L_s (q_fa fa_journal_Journal_d rfl) rfl ?_
      first | refine L_s (q_load1z ld_ptr_disk_Disk rfl (by repeat (first | exact List.Mem.head _ | apply List.Mem.tail)) (by rfl)) rfl ?_ | refine L_s (q_load1 ld_ptr_disk_Disk rfl (by repeat (first | exact List.Mem.head _ | apply List.Mem.tail)) rfl (by rfl)) rfl ?_
      refine WPL.cons rfl (C1.call (c_call Tryd.func32 rfl rfl rfl) (c_Sync hd (by omega)) (by repeat (first | exact Pick.nil | apply Pick.keep (by repeat (first | exact List.Mem.head _ | apply List.Mem.tail)) (by first | exact Pers.cells _ _ _ | exact Pers.slv _ _ _) | apply Pick.cons (by repeat (first | exact Pick1.here | apply Pick1.there)))) rfl ?_)
      rintro _ _ ⟨rfl, rfl⟩
      refine WPL.putS ?_
      refine WPL.nil ?_
      refine WPC.seq ?_
      refine WPC.seqR ?_
      refine L_s (q_move rfl) rfl ?_
      refine L_s (q_move rfl) rfl ?_
      refine WPL.nil ?_
      refine WPC.block ?_
      refine WPC.loopS (fun m e Γ => ∃ (i : Nat) (dk : DK) (rk : List JR), m = k - i ∧ i ≤ k ∧ rk.length = rs.length - i ∧ (∀ r ∈ rk, r ∈ rs) ∧ dk.ok ∧ dk.seen.length = d.seen.length ∧ dk.pend.length ≤ d.pend.length + i ∧ cutL dk ({ j with held := rk.map jrP } : JN) (k - i) = cutL d.sync j k ∧ e = [(0, .pointer (some ⟨b, 0, none⟩)), (28, .int .i64 (k : Int)), (29, .int .i64 (i : Int))] ∧ Γ = [cells true b 0 (jourC db ({ j with held := rk.map jrP } : JN) ⟨rk, la, lc⟩), buf 2 la rk.length lc (rk.flatMap encR), bytes (rs.map (·.x)), disk db dk, tblA]) (k) ⟨0, d.sync, rs, rfl, by omega, rfl, fun _ h => h, hd.sync, sync_len d, by have := sync_pend d; omega, by rw [hheld]; rfl, rfl, rfl⟩ (by repeat (first | exact trivial | refine ⟨rfl, ?_⟩)) (Imp.pick (by repeat (first | exact Pick.nil | apply Pick.keep (by repeat (first | exact List.Mem.head _ | apply List.Mem.tail)) (by first | exact Pers.cells _ _ _ | exact Pers.slv _ _ _) | apply Pick.cons (by repeat (first | exact Pick1.here | apply Pick1.there))))) ?_
      rintro m e Γ ⟨i, dk, rk, rfl, hi, hrl, hrs, hdk, hdl, hdp, hcut, rfl, rfl⟩
      refine WPC.seqR ?_
      refine L_s (q_int rfl rfl rfl) rfl ?_
      refine WPL.nil ?_
      refine WPC.seq ?_
      refine WPC.cond rfl (fun h2 => ?_) (fun h2 => ?_)
      · simp only [decide_eq_true_eq, Int.ofNat_lt] at h2
        refine WPC.bufFact (by repeat (first | exact List.Mem.head _ | apply List.Mem.tail)) fun hsk => ?_
        have hne : rk ≠ [] := by intro h; rw [h] at hrl; simp at hrl; omega
        obtain ⟨ri, rl, rfl⟩ : ∃ ri rl, rk = ri ++ [rl] := ⟨rk.dropLast, rk.getLast hne, (List.dropLast_concat_getLast hne).symm⟩
        have hril : ri.length + 1 = rs.length - i := by simpa using hrl
        have hcap : ri.length + 1 ≤ lc := by simpa using hsk.cap
        have hbuf := Imp.bufShrink (sz := 2) (m := ri.length) (n := (ri ++ [rl]).length) (c := lc) (a := la) (xs := ri.flatMap encR) (ys := [rl].flatMap encR) (Γ := [cells true b 0 (jourC db ({ j with held := ri.map jrP } : JN) ⟨ri, la, lc⟩), bytes (rs.map (·.x)), disk db dk, tblA]) (flat_length encR_len _) (by simp)
        rw [← List.flatMap_append] at hbuf
        have hnxt := c_next (b := b) (db := db) (j := ({ j with held := ri.map jrP } : JN)) (L := ⟨ri, la, lc⟩) (by simp) q1 (by simp; omega)
        simp only [JN.next, List.length_map] at hnxt
        rw [show k - i = (k - (i + 1)) + 1 by omega] at hcut
        have hcut2 := cut_step hcut
        have hw1 := write_pend dk ((({ j with held := ri.map jrP } : JN)).place (j.first + ri.length)) []
        refine WPC.skip ?_
        refine thenQ_n ?_
        refine WPC.seq ?_
        refine WPC.block ?_
        refine WPC.seqD mixed ?_
        refine WPA.takeP 0 rfl (q_move rfl) (by kernel_rfl) (by kernel_rfl) (by kernel_rfl) rfl rfl (.nil _) ?_
        refine WPA.putS ?_
        refine WPA.takeP 1 rfl (q_move rfl) (by kernel_rfl) (by kernel_rfl) (by kernel_rfl) rfl rfl (.nil _) ?_
        refine WPA.putS ?_
        first | refine WPA.takeP 2 rfl (q_nilP rfl) (by kernel_rfl) (by kernel_rfl) (by kernel_rfl) rfl rfl (.nil _) ?_ | refine WPA.takeP 2 rfl (q_nilF rfl) (by kernel_rfl) (by kernel_rfl) (by kernel_rfl) rfl rfl (.nil _) ?_
        refine WPA.putS ?_
        first | refine WPA.takeP 3 rfl (q_faK fa_journal_Journal_held rfl) (by kernel_rfl) (by kernel_rfl) (by kernel_rfl) rfl rfl (.nil _) ?_ | refine WPA.takeP 3 rfl (q_fa fa_journal_Journal_held rfl) (by kernel_rfl) (by kernel_rfl) (by kernel_rfl) rfl rfl (.nil _) ?_
        refine WPA.putS ?_
        first | refine WPA.takeL 4 rfl (Ent.mem (by repeat (first | exact List.Mem.head _ | apply List.Mem.tail))) (q_load1z ld_sl_journal_record rfl (.head _) (by rfl)) (by kernel_rfl) (by kernel_rfl) (by kernel_rfl) rfl rfl (.nil _) ?_ | refine WPA.takeL 4 rfl (Ent.mem (by repeat (first | exact List.Mem.head _ | apply List.Mem.tail))) (q_load1 ld_sl_journal_record rfl (.head _) rfl (by rfl)) (by kernel_rfl) (by kernel_rfl) (by kernel_rfl) rfl rfl (.nil _) ?_
        refine WPA.putS ?_
        refine WPA.takeP 5 rfl (q_move rfl) (by kernel_rfl) (by kernel_rfl) (by kernel_rfl) rfl rfl (.cons (Ent.mem (by repeat (first | exact List.Mem.head _ | apply List.Mem.tail))) (.nil _)) ?_
        refine WPA.putS ?_
        first | refine WPA.takeP 6 rfl (q_nilP rfl) (by kernel_rfl) (by kernel_rfl) (by kernel_rfl) rfl rfl (.cons (Ent.mem (by repeat (first | exact List.Mem.head _ | apply List.Mem.tail))) (.nil _)) ?_ | refine WPA.takeP 6 rfl (q_nilF rfl) (by kernel_rfl) (by kernel_rfl) (by kernel_rfl) rfl rfl (.cons (Ent.mem (by repeat (first | exact List.Mem.head _ | apply List.Mem.tail))) (.nil _)) ?_
        refine WPA.putS ?_
        first | refine WPA.takeP 7 rfl (q_faK fa_journal_Journal_held rfl) (by kernel_rfl) (by kernel_rfl) (by kernel_rfl) rfl rfl (.cons (Ent.mem (by repeat (first | exact List.Mem.head _ | apply List.Mem.tail))) (.nil _)) ?_ | refine WPA.takeP 7 rfl (q_fa fa_journal_Journal_held rfl) (by kernel_rfl) (by kernel_rfl) (by kernel_rfl) rfl rfl (.cons (Ent.mem (by repeat (first | exact List.Mem.head _ | apply List.Mem.tail))) (.nil _)) ?_
        refine WPA.putS ?_
        first | refine WPA.takeL 8 rfl (Ent.mem (by repeat (first | exact List.Mem.head _ | apply List.Mem.tail))) (q_load1z ld_sl_journal_record rfl (.head _) (by rfl)) (by kernel_rfl) (by kernel_rfl) (by kernel_rfl) rfl rfl (.cons (Ent.mem (by repeat (first | exact List.Mem.head _ | apply List.Mem.tail))) (.nil _)) ?_ | refine WPA.takeL 8 rfl (Ent.mem (by repeat (first | exact List.Mem.head _ | apply List.Mem.tail))) (q_load1 ld_sl_journal_record rfl (.head _) rfl (by rfl)) (by kernel_rfl) (by kernel_rfl) (by kernel_rfl) rfl rfl (.cons (Ent.mem (by repeat (first | exact List.Mem.head _ | apply List.Mem.tail))) (.nil _)) ?_
        refine WPA.putS ?_
        refine WPA.takeP 9 rfl (q_len rfl un_sl_journal_record rfl) (by kernel_rfl) (by kernel_rfl) (by kernel_rfl) rfl rfl (.cons (Ent.mem (by repeat (first | exact List.Mem.head _ | apply List.Mem.tail))) (.cons (Ent.mem (by repeat (first | exact List.Mem.head _ | apply List.Mem.tail))) (.nil _))) ?_
        refine WPA.putS ?_
        refine WPA.takeP 10 rfl (q_decN (k := (ri ++ [rl]).length) rfl rfl (by simp) (by simp; omega)) (by kernel_rfl) (by kernel_rfl) (by kernel_rfl) rfl rfl (.cons (Ent.mem (by repeat (first | exact List.Mem.head _ | apply List.Mem.tail))) (.cons (Ent.mem (by repeat (first | exact List.Mem.head _ | apply List.Mem.tail))) (.nil _))) ?_
        refine WPA.putS ?_
        rw [show (ri ++ [rl]).length - 1 = ri.length by simp]
        refine WPA.takeP 11 rfl (q_sliceHi (j := ri.length) sl_sl_journal_record rfl rfl (show ri.length ≤ lc by omega)) (by kernel_rfl) (by kernel_rfl) (by kernel_rfl) rfl rfl (.cons (Ent.mem (by repeat (first | exact List.Mem.head _ | apply List.Mem.tail))) (.cons (Ent.mem (by repeat (first | exact List.Mem.head _ | apply List.Mem.tail))) (.nil _))) ?_
        refine WPA.putS ?_
        first | refine WPA.takeP 12 rfl (q_nilP rfl) (by kernel_rfl) (by kernel_rfl) (by kernel_rfl) rfl rfl (.cons (Ent.mem (by repeat (first | exact List.Mem.head _ | apply List.Mem.tail))) (.cons (Ent.mem (by repeat (first | exact List.Mem.head _ | apply List.Mem.tail))) (.nil _))) ?_ | refine WPA.takeP 12 rfl (q_nilF rfl) (by kernel_rfl) (by kernel_rfl) (by kernel_rfl) rfl rfl (.cons (Ent.mem (by repeat (first | exact List.Mem.head _ | apply List.Mem.tail))) (.cons (Ent.mem (by repeat (first | exact List.Mem.head _ | apply List.Mem.tail))) (.nil _))) ?_
        refine WPA.putS ?_
        first | refine WPA.takeP 13 rfl (q_faK fa_journal_Journal_held rfl) (by kernel_rfl) (by kernel_rfl) (by kernel_rfl) rfl rfl (.cons (Ent.mem (by repeat (first | exact List.Mem.head _ | apply List.Mem.tail))) (.cons (Ent.mem (by repeat (first | exact List.Mem.head _ | apply List.Mem.tail))) (.nil _))) ?_ | refine WPA.takeP 13 rfl (q_fa fa_journal_Journal_held rfl) (by kernel_rfl) (by kernel_rfl) (by kernel_rfl) rfl rfl (.cons (Ent.mem (by repeat (first | exact List.Mem.head _ | apply List.Mem.tail))) (.cons (Ent.mem (by repeat (first | exact List.Mem.head _ | apply List.Mem.tail))) (.nil _))) ?_
        refine WPA.putS ?_
        refine WPA.oneE 14 [] (by kernel_rfl) rfl rfl (by repeat (first | exact .nil | refine .anc rfl ?_ | refine .keep (by repeat (first | exact List.Mem.head _ | apply List.Mem.tail)) ?_)) (S1.wpo (s_store1k sz_sl_journal_record rfl rfl rfl rfl (by repeat (first | exact Upd.here | apply Upd.there)) (by repeat constructor)) rfl ?_)
        refine ⟨(.nil _), ?_⟩
        refine WPA.putN ?_
        refine WPA.done (by kernel_rfl) ?_
        refine WPC.imp ((Imp.pick (Δ := [buf 2 la (ri ++ [rl]).length lc ((ri ++ [rl]).flatMap encR), cells true b 0 (jourC db ({ j with held := ri.map jrP } : JN) ⟨ri, la, lc⟩), bytes (rs.map (·.x)), disk db dk, tblA]) (by repeat (first | exact Pick.nil | apply Pick.keep (by repeat (first | exact List.Mem.head _ | apply List.Mem.tail)) (by first | exact Pers.cells _ _ _ | exact Pers.slv _ _ _ | exact Pers.bytes _) | apply Pick.cons (by repeat (first | exact Pick1.here | apply Pick1.there))))).trans hbuf) ?_
        refine WPC.draw mixed ?_
        refine WPA.takeP 0 rfl (q_move rfl) (by kernel_rfl) (by kernel_rfl) (by kernel_rfl) rfl rfl (.nil _) ?_
        refine WPA.putS ?_
        first | refine WPA.takeP 1 rfl (q_nilP rfl) (by kernel_rfl) (by kernel_rfl) (by kernel_rfl) rfl rfl (.nil _) ?_ | refine WPA.takeP 1 rfl (q_nilF rfl) (by kernel_rfl) (by kernel_rfl) (by kernel_rfl) rfl rfl (.nil _) ?_
        refine WPA.putS ?_
        first | refine WPA.takeP 2 rfl (q_faK fa_journal_Journal_d rfl) (by kernel_rfl) (by kernel_rfl) (by kernel_rfl) rfl rfl (.nil _) ?_ | refine WPA.takeP 2 rfl (q_fa fa_journal_Journal_d rfl) (by kernel_rfl) (by kernel_rfl) (by kernel_rfl) rfl rfl (.nil _) ?_
        refine WPA.putS ?_
        first | refine WPA.takeL 3 rfl (Ent.mem (by repeat (first | exact List.Mem.head _ | apply List.Mem.tail))) (q_load1z ld_ptr_disk_Disk rfl (.head _) (by rfl)) (by kernel_rfl) (by kernel_rfl) (by kernel_rfl) rfl rfl (.nil _) ?_ | refine WPA.takeL 3 rfl (Ent.mem (by repeat (first | exact List.Mem.head _ | apply List.Mem.tail))) (q_load1 ld_ptr_disk_Disk rfl (.head _) rfl (by rfl)) (by kernel_rfl) (by kernel_rfl) (by kernel_rfl) rfl rfl (.nil _) ?_
        refine WPA.putS ?_
        refine WPA.takeP 4 rfl (q_move rfl) (by kernel_rfl) (by kernel_rfl) (by kernel_rfl) rfl rfl (.cons (Ent.mem (by repeat (first | exact List.Mem.head _ | apply List.Mem.tail))) (.nil _)) ?_
        refine WPA.putS ?_
        refine WPA.takeP 5 rfl (q_move rfl) (by kernel_rfl) (by kernel_rfl) (by kernel_rfl) rfl rfl (.cons (Ent.mem (by repeat (first | exact List.Mem.head _ | apply List.Mem.tail))) (.nil _)) ?_
        refine WPA.putS ?_
        refine WPA.oneE 6 [(3, [_])] (by kernel_rfl) rfl rfl (by repeat (first | exact .nil | refine .anc rfl ?_ | refine .keep (by repeat (first | exact List.Mem.head _ | apply List.Mem.tail)) ?_)) (C1.call (c_call Tryd.func34 rfl rfl rfl) hnxt (by repeat (first | exact Pick.nil | apply Pick.keep (by repeat (first | exact List.Mem.head _ | apply List.Mem.tail)) (by first | exact Pers.cells _ _ _ | exact Pers.slv _ _ _) | apply Pick.cons (by repeat (first | exact Pick1.here | apply Pick1.there)))) rfl ?_)
        rintro _ _ ⟨rfl, rfl⟩
        refine ⟨(.cons (Ent.mem (by repeat (first | exact List.Mem.head _ | apply List.Mem.tail))) (.nil _)), ?_⟩
        refine WPA.putS ?_
        first | refine WPA.takeP 7 rfl (q_conv32 in_uint64 in_uint32 rfl (by omega)) (by kernel_rfl) (by kernel_rfl) (by kernel_rfl) rfl rfl (.cons (Ent.mem (by repeat (first | exact List.Mem.head _ | apply List.Mem.tail))) (.nil _)) ?_ | refine WPA.takeP 7 rfl (q_conv in_uint64 in_uint32 rfl) (by kernel_rfl) (by kernel_rfl) (by kernel_rfl) rfl rfl (.cons (Ent.mem (by repeat (first | exact List.Mem.head _ | apply List.Mem.tail))) (.nil _)) ?_
        refine WPA.putS ?_
        refine WPA.oneE 8 [(3, [_])] (by kernel_rfl) rfl rfl (by repeat (first | exact .nil | refine .anc rfl ?_ | refine .keep (by repeat (first | exact List.Mem.head _ | apply List.Mem.tail)) ?_)) (C1.call (c_call Tryd.func37 rfl rfl rfl) (c_sector (j := ({ j with held := ri.map jrP } : JN)) (L := ⟨ri, la, lc⟩) (seq := j.first + ri.length) (by omega) q5 (show j.at_ ≤ 1000 by omega)) (by repeat (first | exact Pick.nil | apply Pick.keep (by repeat (first | exact List.Mem.head _ | apply List.Mem.tail)) (by first | exact Pers.cells _ _ _ | exact Pers.slv _ _ _) | apply Pick.cons (by repeat (first | exact Pick1.here | apply Pick1.there)))) rfl ?_)
        rintro _ _ ⟨rfl, rfl⟩
        refine ⟨(.cons (Ent.mem (by repeat (first | exact List.Mem.head _ | apply List.Mem.tail))) (.nil _)), ?_⟩
        refine WPA.putS ?_
        refine WPA.oneE 9 [] (by kernel_rfl) rfl rfl (by repeat (first | exact .nil | refine .anc rfl ?_ | refine .keep (by repeat (first | exact List.Mem.head _ | apply List.Mem.tail)) ?_)) (C1.call (c_call Tryd.func36 rfl rfl rfl) (c_WriteNil hdk (by omega)) (by repeat (first | exact Pick.nil | apply Pick.keep (by repeat (first | exact List.Mem.head _ | apply List.Mem.tail)) (by first | exact Pers.cells _ _ _ | exact Pers.slv _ _ _) | apply Pick.cons (by repeat (first | exact Pick1.here | apply Pick1.there)))) rfl ?_)
        rintro _ _ ⟨rfl, rfl⟩
        refine ⟨(.nil _), ?_⟩
        refine WPA.putS ?_
        refine WPA.done (by kernel_rfl) ?_
        refine blockQ_n ?_
        refine thenQ_n ?_
        refine WPC.region ?_
        first | refine L_s (q_inc rfl rfl (by omega)) rfl ?_ | refine L_s (q_addI rfl rfl (by omega)) rfl ?_ | refine L_s (q_int rfl rfl rfl) rfl ?_
        refine L_s (q_move rfl) rfl ?_
        refine WPL.nil ?_
        refine thenQ_n ?_
        exact ⟨rfl, _, _, _, by omega, ⟨i + 1, (dk.write ((({ j with held := ri.map jrP } : JN)).place (j.first + ri.length)) []).1, ri, rfl, by omega, by omega, fun r hr => hrs r (List.mem_append_left _ hr), hdk.write _ _, by rw [write_len]; exact hdl, by omega, hcut2, rfl, rfl⟩, (by repeat (first | exact trivial | refine ⟨rfl, ?_⟩)), Imp.pick (by repeat (first | exact Pick.nil | apply Pick.keep (by repeat (first | exact List.Mem.head _ | apply List.Mem.tail)) (by first | exact Pers.cells _ _ _ | exact Pers.slv _ _ _) | apply Pick.cons (by repeat (first | exact Pick1.here | apply Pick1.there))))⟩
      · simp only [decide_eq_false_iff_not, Int.ofNat_lt] at h2
        have hik : k - i = 0 := by omega
        rw [hik] at hcut
        have hcut2 : (dk, ({ j with held := rk.map jrP } : JN)) = cutL d.sync j k := hcut
        refine WPC.exit ?_
        refine thenQ_e ?_
        refine thenQ_e ?_
        refine blockQ_here ?_
        refine thenQ_n ?_
        refine WPC.seqR ?_
        refine L_s (q_move rfl) rfl ?_
        first | refine L_s (q_nilP rfl) rfl ?_ | refine L_s (q_nilF rfl) rfl ?_
        first | refine L_s (q_faK fa_journal_Journal_d rfl) rfl ?_ | refine L_s (q_fa fa_journal_Journal_d rfl) rfl ?_
        first | refine L_s (q_load1z ld_ptr_disk_Disk rfl (by repeat (first | exact List.Mem.head _ | apply List.Mem.tail)) (by rfl)) rfl ?_ | refine L_s (q_load1 ld_ptr_disk_Disk rfl (by repeat (first | exact List.Mem.head _ | apply List.Mem.tail)) rfl (by rfl)) rfl ?_
        refine WPL.cons rfl (C1.call (c_call Tryd.func32 rfl rfl rfl) (c_Sync hdk (by omega)) (by repeat (first | exact Pick.nil | apply Pick.keep (by repeat (first | exact List.Mem.head _ | apply List.Mem.tail)) (by first | exact Pers.cells _ _ _ | exact Pers.slv _ _ _) | apply Pick.cons (by repeat (first | exact Pick1.here | apply Pick1.there)))) rfl ?_)
        rintro _ _ ⟨rfl, rfl⟩
        have hsp := sync_pend dk
        refine WPL.putS ?_
        refine WPL.nil ?_
        refine WPC.seqR ?_
        refine L_s (q_move rfl) rfl ?_
        first | refine L_s (q_nilP rfl) rfl ?_ | refine L_s (q_nilF rfl) rfl ?_
        first | refine L_s (q_faK fa_journal_Journal_epoch rfl) rfl ?_ | refine L_s (q_fa fa_journal_Journal_epoch rfl) rfl ?_
        first | refine L_s (q_load1z ld_uint32 rfl (by repeat (first | exact List.Mem.head _ | apply List.Mem.tail)) (by rfl)) rfl ?_ | refine L_s (q_load1 ld_uint32 rfl (by repeat (first | exact List.Mem.head _ | apply List.Mem.tail)) rfl (by rfl)) rfl ?_
        refine L_s (q_add32 (a := j.epoch) (b := 1) rfl rfl) rfl ?_
        rw [Nat.mod_eq_of_lt (show j.epoch + 1 < 4294967296 by omega)]
        first | refine L_s (q_nilP rfl) rfl ?_ | refine L_s (q_nilF rfl) rfl ?_
        first | refine L_s (q_faK fa_journal_Journal_epoch rfl) rfl ?_ | refine L_s (q_fa fa_journal_Journal_epoch rfl) rfl ?_
        refine WPL.cons rfl (S1.wpo (s_store1k sz_uint32 rfl rfl rfl rfl (by repeat (first | exact Upd.here | apply Upd.there)) (by repeat constructor)) rfl ?_)
        refine WPL.putN ?_
        refine WPL.nil ?_
        refine WPC.seqR ?_
        refine L_s (q_move rfl) rfl ?_
        refine WPL.cons rfl (C1.call (c_call Tryd.func43 rfl rfl rfl) (c_jsave (j := ({ j with held := rk.map jrP, epoch := j.epoch + 1 } : JN)) (L := ⟨rk, la, lc⟩) (d := dk.sync) ⟨q5, by rw [sync_len, hdl]; exact q4, q1, by show j.epoch + 1 < _; omega, q3, by show (rk.map jrP).length ≤ _; rw [List.length_map]; show rk.length ≤ j.n; omega, fun x hx => by obtain ⟨r, hr, rfl⟩ := List.mem_map.1 hx; exact q8 _ (by rw [← hheld]; exact List.mem_map.2 ⟨r, hrs r hr, rfl⟩)⟩ hdk.sync (by omega)) (by repeat (first | exact Pick.nil | apply Pick.keep (by repeat (first | exact List.Mem.head _ | apply List.Mem.tail)) (by first | exact Pers.cells _ _ _ | exact Pers.slv _ _ _) | apply Pick.cons (by repeat (first | exact Pick1.here | apply Pick1.there)))) rfl ?_)
        rintro _ _ ⟨rfl, rfl⟩
        refine WPL.putS ?_
        refine L_s (q_assign rfl) rfl ?_
        refine WPL.nil ?_
        refine WPC.ret ?_
        have et : jcut d j k = ((jsave dk.sync ({ j with held := rk.map jrP, epoch := j.epoch + 1 } : JN)).1, ({ j with held := rk.map jrP, epoch := j.epoch + 1 } : JN), (jsave dk.sync ({ j with held := rk.map jrP, epoch := j.epoch + 1 } : JN)).2) := by unfold jcut; rw [if_neg (by omega), if_neg he, Int.toNat_natCast, ← hcut2]
        rw [et]
        exact endR_r rfl (.tmp rfl .nil) ((Imp.pick (Δ := [bytes (rs.map (·.x)), buf 2 la rk.length lc (rk.flatMap encR), cells true b 0 (jourC db ({ j with held := rk.map jrP, epoch := j.epoch + 1 } : JN) ⟨rk, la, lc⟩), disk db (jsave dk.sync ({ j with held := rk.map jrP, epoch := j.epoch + 1 } : JN)).1]) (by repeat (first | exact Pick.nil | apply Pick.keep (by repeat (first | exact List.Mem.head _ | apply List.Mem.tail)) (by first | exact Pers.cells _ _ _ | exact Pers.slv _ _ _ | exact Pers.bytes _) | apply Pick.cons (by repeat (first | exact Pick1.here | apply Pick1.there))))).trans ((bytes_sub (ys := rk.map (·.x)) (fun y hy => by obtain ⟨r, hr, rfl⟩ := List.mem_map.1 hy; exact List.mem_map.2 ⟨r, hrs r hr, rfl⟩)).trans ((Imp.pick (by repeat (first | exact Pick.nil | apply Pick.keep (by repeat (first | exact List.Mem.head _ | apply List.Mem.tail)) (by first | exact Pers.cells _ _ _ | exact Pers.slv _ _ _ | exact Pers.bytes _) | apply Pick.cons (by repeat (first | exact Pick1.here | apply Pick1.there))))).trans (jour_close (b := b) (db := db) (j := ({ j with held := rk.map jrP, epoch := j.epoch + 1 } : JN)) ⟨rk, la, lc⟩ ⟨rfl, fun r hr => hrok r (hrs r hr)⟩ (Γ := [disk db (jsave dk.sync ({ j with held := rk.map jrP, epoch := j.epoch + 1 } : JN)).1]))))) ⟨rfl, rfl⟩

theorem c_scan {b db : Nat} {j : JN} {d : DK} (hj : j.ok d) (hd : d.ok) (hpl : d.pend.length < 700000) (h0 : j.held = []) : Trip Tryd.prog 42 #[.pointer (some ⟨b, 0, none⟩)] [jour b db j, disk db d, tblA] fun r Δ => r = .tuple #[] ∧ Δ = [jour b db (j.scanned d), disk db d] := by
  refine jour_open fun L hL => ?_
  obtain ⟨rs, la, lc⟩ := L
  obtain ⟨hheld, hrok⟩ := hL
  dsimp only at hheld hrok
  have hlen : rs.length = j.held.length := by rw [← hheld, List.length_map]
  have q1 := hj.first
  have q2 := hj.epoch
  have q3 := hj.low
  have q4 := hj.at_
  have q5 := hj.n
  have q6 := hj.held
  have q7 := hd.n
  have q8 := hj.eps
  have hrs0 : rs = [] := List.eq_nil_of_length_eq_zero (by rw [hlen, h0]; rfl)
  subst hrs0
  clear hheld hlen
  refine Trip.start 84 [] [(0, .pointer (some ⟨b, 0, none⟩))] Tryd.func42 rfl Tryd.ntmps42 rfl ⟨rfl, trivial⟩ rfl ?_
  refine WPC.scopeS ?_
  refine WPC.seqR ?_
  refine L_s (q_move rfl) rfl ?_
  first | refine L_s (q_nilP rfl) rfl ?_ | refine L_s (q_nilF rfl) rfl ?_
  first | refine L_s (q_faK fa_journal_Journal_low rfl) rfl ?_ | refine L_s (q_fa fa_journal_Journal_low rfl) rfl ?_
  first | refine L_s (q_load1z ld_uint32 rfl (by repeat (first | exact List.Mem.head _ | apply List.Mem.tail)) (by rfl)) rfl ?_ | refine L_s (q_load1 ld_uint32 rfl (by repeat (first | exact List.Mem.head _ | apply List.Mem.tail)) rfl (by rfl)) rfl ?_
  refine L_s (q_assign rfl) rfl ?_
  refine WPL.nil ?_
  refine WPC.seq ?_
  refine WPC.label ?_
  refine thenQ_n ?_
  refine WPC.block ?_
  refine WPC.loopS (fun m e Γ => ∃ (rk : List JR) (la : Option Addr) (lc low : Nat), m = j.n - rk.length ∧ rk.length ≤ j.n ∧ low < 4294967296 ∧ (∀ r ∈ rk, r.x.ok) ∧ rk.map jrP ++ scanL d j.at_ j.n j.epoch (j.n - rk.length) low (j.first + rk.length) = scanL d j.at_ j.n j.epoch j.n j.low j.first ∧ e = [(0, .pointer (some ⟨b, 0, none⟩)), (2, .int .u32 (low : Int))] ∧ Γ = [cells true b 0 (jourC db ({ j with held := rk.map jrP } : JN) ⟨rk, la, lc⟩), buf 2 la rk.length lc (rk.flatMap encR), bytes (rk.map (·.x)), disk db d, tblA]) (j.n) ⟨[], la, lc, j.low, rfl, by show 0 ≤ _; omega, q3, by simp, rfl, rfl, rfl⟩ (by repeat (first | exact trivial | refine ⟨rfl, ?_⟩)) (Imp.pick (by repeat (first | exact Pick.nil | apply Pick.keep (by repeat (first | exact List.Mem.head _ | apply List.Mem.tail)) (by first | exact Pers.cells _ _ _ | exact Pers.slv _ _ _) | apply Pick.cons (by repeat (first | exact Pick1.here | apply Pick1.there))))) ?_
  clear hrok
  rintro m e Γ ⟨rk, la, lc, low, rfl, hrn, hlow, hrok, hinv, rfl, rfl⟩
  have hnxt := c_next (b := b) (db := db) (j := ({ j with held := rk.map jrP } : JN)) (L := ⟨rk, la, lc⟩) (by simp) q1 (by simp; omega)
  simp only [JN.next, List.length_map] at hnxt
  refine WPC.seq ?_
  refine WPC.seqD mixed ?_
  refine WPA.takeP 0 rfl (q_move rfl) (by kernel_rfl) (by kernel_rfl) (by kernel_rfl) rfl rfl (.nil _) ?_
  refine WPA.putS ?_
  first | refine WPA.takeP 1 rfl (q_nilP rfl) (by kernel_rfl) (by kernel_rfl) (by kernel_rfl) rfl rfl (.nil _) ?_ | refine WPA.takeP 1 rfl (q_nilF rfl) (by kernel_rfl) (by kernel_rfl) (by kernel_rfl) rfl rfl (.nil _) ?_
  refine WPA.putS ?_
  first | refine WPA.takeP 2 rfl (q_faK fa_journal_Journal_held rfl) (by kernel_rfl) (by kernel_rfl) (by kernel_rfl) rfl rfl (.nil _) ?_ | refine WPA.takeP 2 rfl (q_fa fa_journal_Journal_held rfl) (by kernel_rfl) (by kernel_rfl) (by kernel_rfl) rfl rfl (.nil _) ?_
  refine WPA.putS ?_
  first | refine WPA.takeL 3 rfl (Ent.mem (by repeat (first | exact List.Mem.head _ | apply List.Mem.tail))) (q_load1z ld_sl_journal_record rfl (.head _) (by rfl)) (by kernel_rfl) (by kernel_rfl) (by kernel_rfl) rfl rfl (.nil _) ?_ | refine WPA.takeL 3 rfl (Ent.mem (by repeat (first | exact List.Mem.head _ | apply List.Mem.tail))) (q_load1 ld_sl_journal_record rfl (.head _) rfl (by rfl)) (by kernel_rfl) (by kernel_rfl) (by kernel_rfl) rfl rfl (.nil _) ?_
  refine WPA.putS ?_
  refine WPA.takeP 4 rfl (q_len rfl un_sl_journal_record rfl) (by kernel_rfl) (by kernel_rfl) (by kernel_rfl) rfl rfl (.cons (Ent.mem (by repeat (first | exact List.Mem.head _ | apply List.Mem.tail))) (.nil _)) ?_
  refine WPA.putS ?_
  refine WPA.takeP 5 rfl (q_move rfl) (by kernel_rfl) (by kernel_rfl) (by kernel_rfl) rfl rfl (.cons (Ent.mem (by repeat (first | exact List.Mem.head _ | apply List.Mem.tail))) (.nil _)) ?_
  refine WPA.putS ?_
  first | refine WPA.takeP 6 rfl (q_nilP rfl) (by kernel_rfl) (by kernel_rfl) (by kernel_rfl) rfl rfl (.cons (Ent.mem (by repeat (first | exact List.Mem.head _ | apply List.Mem.tail))) (.nil _)) ?_ | refine WPA.takeP 6 rfl (q_nilF rfl) (by kernel_rfl) (by kernel_rfl) (by kernel_rfl) rfl rfl (.cons (Ent.mem (by repeat (first | exact List.Mem.head _ | apply List.Mem.tail))) (.nil _)) ?_
  refine WPA.putS ?_
  first | refine WPA.takeP 7 rfl (q_faK fa_journal_Journal_n rfl) (by kernel_rfl) (by kernel_rfl) (by kernel_rfl) rfl rfl (.cons (Ent.mem (by repeat (first | exact List.Mem.head _ | apply List.Mem.tail))) (.nil _)) ?_ | refine WPA.takeP 7 rfl (q_fa fa_journal_Journal_n rfl) (by kernel_rfl) (by kernel_rfl) (by kernel_rfl) rfl rfl (.cons (Ent.mem (by repeat (first | exact List.Mem.head _ | apply List.Mem.tail))) (.nil _)) ?_
  refine WPA.putS ?_
  first | refine WPA.takeL 8 rfl (Ent.mem (by repeat (first | exact List.Mem.head _ | apply List.Mem.tail))) (q_load1z ld_int rfl (.head _) (by rfl)) (by kernel_rfl) (by kernel_rfl) (by kernel_rfl) rfl rfl (.cons (Ent.mem (by repeat (first | exact List.Mem.head _ | apply List.Mem.tail))) (.nil _)) ?_ | refine WPA.takeL 8 rfl (Ent.mem (by repeat (first | exact List.Mem.head _ | apply List.Mem.tail))) (q_load1 ld_int rfl (.head _) rfl (by rfl)) (by kernel_rfl) (by kernel_rfl) (by kernel_rfl) rfl rfl (.cons (Ent.mem (by repeat (first | exact List.Mem.head _ | apply List.Mem.tail))) (.nil _)) ?_
  refine WPA.putS ?_
  refine WPA.takeP 9 rfl (q_int rfl rfl rfl) (by kernel_rfl) (by kernel_rfl) (by kernel_rfl) rfl rfl (.cons (Ent.mem (by repeat (first | exact List.Mem.head _ | apply List.Mem.tail))) (.cons (Ent.mem (by repeat (first | exact List.Mem.head _ | apply List.Mem.tail))) (.nil _))) ?_
  refine WPA.putS ?_
  refine WPA.takeP 10 rfl (q_move rfl) (by kernel_rfl) (by kernel_rfl) (by kernel_rfl) rfl rfl (.cons (Ent.mem (by repeat (first | exact List.Mem.head _ | apply List.Mem.tail))) (.cons (Ent.mem (by repeat (first | exact List.Mem.head _ | apply List.Mem.tail))) (.nil _))) ?_
  refine WPA.putS ?_
  refine WPA.split 23 _ rfl (fun g1_10 => ?_) (fun g1_10 => ?_)
  · have hlt : rk.length < j.n := by simpa using g1_10
    refine WPA.takePY 11 rfl rfl rfl rfl (q_move rfl) (by kernel_rfl) (by kernel_rfl) (by kernel_rfl) rfl (.cons (Ent.mem (by repeat (first | exact List.Mem.head _ | apply List.Mem.tail))) (.cons (Ent.mem (by repeat (first | exact List.Mem.head _ | apply List.Mem.tail))) (.nil _))) ?_
    refine WPA.putS ?_
    refine WPA.oneY 12 [] (by kernel_rfl) rfl rfl rfl rfl (by repeat (first | exact .nil | refine .anc rfl ?_ | refine .keep (by repeat (first | exact List.Mem.head _ | apply List.Mem.tail)) ?_)) (C1.call (c_call Tryd.func34 rfl rfl rfl) hnxt (by repeat (first | exact Pick.nil | apply Pick.keep (by repeat (first | exact List.Mem.head _ | apply List.Mem.tail)) (by first | exact Pers.cells _ _ _ | exact Pers.slv _ _ _) | apply Pick.cons (by repeat (first | exact Pick1.here | apply Pick1.there)))) rfl ?_)
    rintro _ _ ⟨rfl, rfl⟩
    refine ⟨(.nil _), ?_⟩
    refine WPA.putS ?_
    refine WPA.takePY 13 rfl rfl rfl rfl (q_int rfl rfl rfl) (by kernel_rfl) (by kernel_rfl) (by kernel_rfl) rfl (.nil _) ?_
    refine WPA.putS ?_
    first | refine WPA.takeP 14 rfl (q_pickT rfl rfl) (by kernel_rfl) (by kernel_rfl) (by kernel_rfl) rfl rfl (.nil _) ?_ | refine WPA.takeP 14 rfl (q_pickF rfl rfl) (by kernel_rfl) (by kernel_rfl) (by kernel_rfl) rfl rfl (.nil _) ?_
    refine WPA.putS ?_
    refine WPA.done (by kernel_rfl) ?_
    refine WPC.cond rfl (fun h0 => ?_) (fun h0 => ?_)
    · have hmax : j.first + rk.length ≤ 4294967295 := by simp at h0; omega
      have hmod := Nat.mod_lt (j.first + rk.length) (show 0 < j.n by omega)
      obtain ⟨s, hr⟩ := read_in (d := d) (i := ((j.at_ + 2 + (j.first + rk.length) % j.n : Nat) : Int)) (by omega)
      have hpS := pS_lt s.1
      rw [show j.n - rk.length = (j.n - (rk.length + 1)) + 1 by omega] at hinv
      refine WPC.skip ?_
      refine thenQ_n ?_
      refine WPC.block ?_
      refine WPC.seqD mixed ?_
      refine WPA.takeP 0 rfl (q_move rfl) (by kernel_rfl) (by kernel_rfl) (by kernel_rfl) rfl rfl (.nil _) ?_
      refine WPA.putS ?_
      first | refine WPA.takeP 1 rfl (q_nilP rfl) (by kernel_rfl) (by kernel_rfl) (by kernel_rfl) rfl rfl (.nil _) ?_ | refine WPA.takeP 1 rfl (q_nilF rfl) (by kernel_rfl) (by kernel_rfl) (by kernel_rfl) rfl rfl (.nil _) ?_
      refine WPA.putS ?_
      first | refine WPA.takeP 2 rfl (q_faK fa_journal_Journal_d rfl) (by kernel_rfl) (by kernel_rfl) (by kernel_rfl) rfl rfl (.nil _) ?_ | refine WPA.takeP 2 rfl (q_fa fa_journal_Journal_d rfl) (by kernel_rfl) (by kernel_rfl) (by kernel_rfl) rfl rfl (.nil _) ?_
      refine WPA.putS ?_
      first | refine WPA.takeL 3 rfl (Ent.mem (by repeat (first | exact List.Mem.head _ | apply List.Mem.tail))) (q_load1z ld_ptr_disk_Disk rfl (.head _) (by rfl)) (by kernel_rfl) (by kernel_rfl) (by kernel_rfl) rfl rfl (.nil _) ?_ | refine WPA.takeL 3 rfl (Ent.mem (by repeat (first | exact List.Mem.head _ | apply List.Mem.tail))) (q_load1 ld_ptr_disk_Disk rfl (.head _) rfl (by rfl)) (by kernel_rfl) (by kernel_rfl) (by kernel_rfl) rfl rfl (.nil _) ?_
      refine WPA.putS ?_
      refine WPA.takeP 4 rfl (q_move rfl) (by kernel_rfl) (by kernel_rfl) (by kernel_rfl) rfl rfl (.cons (Ent.mem (by repeat (first | exact List.Mem.head _ | apply List.Mem.tail))) (.nil _)) ?_
      refine WPA.putS ?_
      refine WPA.takeP 5 rfl (q_move rfl) (by kernel_rfl) (by kernel_rfl) (by kernel_rfl) rfl rfl (.cons (Ent.mem (by repeat (first | exact List.Mem.head _ | apply List.Mem.tail))) (.nil _)) ?_
      refine WPA.putS ?_
      refine WPA.oneE 6 [(3, [_])] (by kernel_rfl) rfl rfl (by repeat (first | exact .nil | refine .anc rfl ?_ | refine .keep (by repeat (first | exact List.Mem.head _ | apply List.Mem.tail)) ?_)) (C1.call (c_call Tryd.func34 rfl rfl rfl) hnxt (by repeat (first | exact Pick.nil | apply Pick.keep (by repeat (first | exact List.Mem.head _ | apply List.Mem.tail)) (by first | exact Pers.cells _ _ _ | exact Pers.slv _ _ _) | apply Pick.cons (by repeat (first | exact Pick1.here | apply Pick1.there)))) rfl ?_)
      rintro _ _ ⟨rfl, rfl⟩
      refine ⟨(.cons (Ent.mem (by repeat (first | exact List.Mem.head _ | apply List.Mem.tail))) (.nil _)), ?_⟩
      refine WPA.putS ?_
      first | refine WPA.takeP 7 rfl (q_conv32 in_uint64 in_uint32 rfl (by omega)) (by kernel_rfl) (by kernel_rfl) (by kernel_rfl) rfl rfl (.cons (Ent.mem (by repeat (first | exact List.Mem.head _ | apply List.Mem.tail))) (.nil _)) ?_ | refine WPA.takeP 7 rfl (q_conv in_uint64 in_uint32 rfl) (by kernel_rfl) (by kernel_rfl) (by kernel_rfl) rfl rfl (.cons (Ent.mem (by repeat (first | exact List.Mem.head _ | apply List.Mem.tail))) (.nil _)) ?_
      refine WPA.putS ?_
      refine WPA.oneE 8 [(3, [_])] (by kernel_rfl) rfl rfl (by repeat (first | exact .nil | refine .anc rfl ?_ | refine .keep (by repeat (first | exact List.Mem.head _ | apply List.Mem.tail)) ?_)) (C1.call (c_call Tryd.func37 rfl rfl rfl) (c_sector (j := ({ j with held := rk.map jrP } : JN)) (L := ⟨rk, la, lc⟩) (seq := j.first + rk.length) (by omega) q5 (show j.at_ ≤ 1000 by omega)) (by repeat (first | exact Pick.nil | apply Pick.keep (by repeat (first | exact List.Mem.head _ | apply List.Mem.tail)) (by first | exact Pers.cells _ _ _ | exact Pers.slv _ _ _) | apply Pick.cons (by repeat (first | exact Pick1.here | apply Pick1.there)))) rfl ?_)
      rintro _ _ ⟨rfl, rfl⟩
      refine ⟨(.cons (Ent.mem (by repeat (first | exact List.Mem.head _ | apply List.Mem.tail))) (.nil _)), ?_⟩
      refine WPA.putS ?_
      refine WPA.oneE 9 [] (by kernel_rfl) rfl rfl (by repeat (first | exact .nil | refine .anc rfl ?_ | refine .keep (by repeat (first | exact List.Mem.head _ | apply List.Mem.tail)) ?_)) (C1.call (c_call Tryd.func68 rfl rfl rfl) (c_DReadOk hr) (by repeat (first | exact Pick.nil | apply Pick.keep (by repeat (first | exact List.Mem.head _ | apply List.Mem.tail)) (by first | exact Pers.cells _ _ _ | exact Pers.slv _ _ _) | apply Pick.cons (by repeat (first | exact Pick1.here | apply Pick1.there)))) rfl ?_)
      rintro _ _ ⟨ad, cd, rfl, hds, rfl⟩
      refine ⟨(.nil _), ?_⟩
      refine WPA.putS ?_
      refine WPA.takeP 10 rfl (q_move rfl) (by kernel_rfl) (by kernel_rfl) (by kernel_rfl) rfl rfl (.nil _) ?_
      refine WPA.putS ?_
      refine WPA.takeP 11 rfl (q_extract rfl rfl) (by kernel_rfl) (by kernel_rfl) (by kernel_rfl) rfl rfl (.nil _) ?_
      refine WPA.putS ?_
      refine WPA.takeP 12 rfl (q_extract rfl rfl) (by kernel_rfl) (by kernel_rfl) (by kernel_rfl) rfl rfl (.nil _) ?_
      refine WPA.putS ?_
      refine WPA.takeP 13 rfl (q_assign rfl) (by kernel_rfl) (by kernel_rfl) (by kernel_rfl) rfl rfl (.nil _) ?_
      refine WPA.putS ?_
      refine WPA.takeP 14 rfl (q_assign rfl) (by kernel_rfl) (by kernel_rfl) (by kernel_rfl) rfl rfl (.nil _) ?_
      refine WPA.putS ?_
      refine WPA.done (by kernel_rfl) ?_
      refine WPC.seqR ?_
      refine L_s (q_move rfl) rfl ?_
      refine WPL.cons rfl (C1.call (c_call Tryd.func69 rfl rfl rfl) (c_ParseU s hds) (by repeat (first | exact Pick.nil | apply Pick.keep (by repeat (first | exact List.Mem.head _ | apply List.Mem.tail)) (by first | exact Pers.cells _ _ _ | exact Pers.slv _ _ _) | apply Pick.cons (by repeat (first | exact Pick1.here | apply Pick1.there)))) rfl ?_)
      rintro _ _ ⟨a', c', rfl, hb, rfl⟩
      refine WPL.putS ?_
      refine L_s (q_move rfl) rfl ?_
      refine L_s (q_extract rfl rfl) rfl ?_
      refine L_s (q_extract rfl rfl) rfl ?_
      refine L_s (q_extract rfl rfl) rfl ?_
      refine L_s (q_extract rfl rfl) rfl ?_
      refine L_s (q_assign rfl) rfl ?_
      refine L_s (q_assign rfl) rfl ?_
      refine L_s (q_assign rfl) rfl ?_
      refine L_s (q_assign rfl) rfl ?_
      refine WPL.nil ?_
      refine WPC.prune [(0, _), (2, _), (3, _), (5, _), (6, _), (7, _), (8, _), (13, _), (14, _), (15, _), (16, _), (17, _), (18, _), (19, _), (20, _), (21, _), (22, _), (23, _), (24, _), (25, _), (26, _), (27, _), (28, _), (29, _), (30, _), (31, _), (32, _), (33, _), (34, _), (35, _), (36, _), (37, _), (38, _), (39, _), (40, _), (41, _), (42, _), (43, _), (44, _), (45, _), (46, _), (47, _)] (by repeat (first | exact trivial | refine ⟨rfl, ?_⟩)) ?_
      refine WPC.seq ?_
      refine WPC.block ?_
      refine WPC.seqR ?_
      refine L_s (q_move rfl) rfl ?_
      refine L_s (q_not rfl) rfl ?_
      refine L_s (q_move rfl) rfl ?_
      apply WPL.joinO (e' := [(0, _), (2, _), (3, _), (5, _), (6, _), (7, _), (8, _), (13, _), (14, _), (15, _), (16, _), (17, _), (18, _), (19, _), (20, _), (21, _), (22, _), (23, _), (24, _), (25, _), (26, _), (27, _), (28, _), (29, _), (30, _), (31, _), (32, _), (33, _), (34, _), (35, _), (36, _), (37, _), (38, _), (39, _), (40, _), (41, _), (42, _), (43, _), (44, _), (45, _), (46, _), (47, _), (49, _), (50, _)]) 51 57 6 rfl
      · intro g4_2
        try simp only [decide_eq_true_eq, decide_eq_false_iff_not, beq_iff_eq, bne_iff_ne, beq_eq_false_iff_ne, bne_eq_false_iff_eq, Bool.not_eq_true', Bool.not_eq_false', Bool.not_eq_eq_eq_not, Bool.not_true, Bool.not_false, ne_eq, Decidable.not_not, Int.not_lt, Int.not_le, gt_iff_lt, ge_iff_le] at g4_2
        refine L_no rfl rfl rfl rfl ?_
        refine L_no rfl rfl rfl rfl ?_
        refine L_no rfl rfl rfl rfl ?_
        refine L_no rfl rfl rfl rfl ?_
        refine L_no rfl rfl rfl rfl ?_
        first | refine L_s (q_pickT rfl rfl) rfl ?_ | refine L_s (q_pickF rfl rfl) rfl ?_
        first | exact WPL.jn rfl rfl (by repeat (first | exact trivial | refine ⟨rfl, ?_⟩)) | exact WPL.jnI rfl rfl (by repeat (first | exact trivial | refine ⟨rfl, ?_⟩)) (Imp.pick (by repeat (first | exact Pick.nil | apply Pick.keep (by repeat (first | exact List.Mem.head _ | apply List.Mem.tail)) (by first | exact Pers.cells _ _ _ | exact Pers.slv _ _ _) | apply Pick.cons (by repeat (first | exact Pick1.here | apply Pick1.there)))))
      · intro g4_2
        try simp only [decide_eq_true_eq, decide_eq_false_iff_not, beq_iff_eq, bne_iff_ne, beq_eq_false_iff_ne, bne_eq_false_iff_eq, Bool.not_eq_true', Bool.not_eq_false', Bool.not_eq_eq_eq_not, Bool.not_true, Bool.not_false, ne_eq, Decidable.not_not, Int.not_lt, Int.not_le, gt_iff_lt, ge_iff_le] at g4_2
        refine L_yes rfl rfl (q_move rfl) rfl ?_
        first | refine L_yes rfl rfl (q_convU in_uint32 in_uint64 rfl (by omega)) rfl ?_ | refine L_yes rfl rfl (q_conv in_uint32 in_uint64 rfl) rfl ?_
        refine L_yes rfl rfl (q_move rfl) rfl ?_
        refine L_eyes rfl rfl rfl (C1.call (c_call Tryd.func34 rfl rfl rfl) hnxt (by repeat (first | exact Pick.nil | apply Pick.keep (by repeat (first | exact List.Mem.head _ | apply List.Mem.tail)) (by first | exact Pers.cells _ _ _ | exact Pers.slv _ _ _) | apply Pick.cons (by repeat (first | exact Pick1.here | apply Pick1.there)))) rfl ?_)
        rintro _ _ ⟨rfl, rfl⟩
        refine WPL.putS ?_
        refine L_yes rfl rfl (q_int rfl rfl rfl) rfl ?_
        first | refine L_s (q_pickT rfl rfl) rfl ?_ | refine L_s (q_pickF rfl rfl) rfl ?_
        first | exact WPL.jn rfl rfl (by repeat (first | exact trivial | refine ⟨rfl, ?_⟩)) | exact WPL.jnI rfl rfl (by repeat (first | exact trivial | refine ⟨rfl, ?_⟩)) (Imp.pick (by repeat (first | exact Pick.nil | apply Pick.keep (by repeat (first | exact List.Mem.head _ | apply List.Mem.tail)) (by first | exact Pers.cells _ _ _ | exact Pers.slv _ _ _) | apply Pick.cons (by repeat (first | exact Pick1.here | apply Pick1.there)))))
      refine L_s (q_move rfl) rfl ?_
      apply WPL.joinO (e' := [(0, _), (2, _), (3, _), (5, _), (6, _), (7, _), (8, _), (13, _), (14, _), (15, _), (16, _), (17, _), (18, _), (19, _), (20, _), (21, _), (22, _), (23, _), (24, _), (25, _), (26, _), (27, _), (28, _), (29, _), (30, _), (31, _), (32, _), (33, _), (34, _), (35, _), (36, _), (37, _), (38, _), (39, _), (40, _), (41, _), (42, _), (43, _), (44, _), (45, _), (46, _), (47, _), (49, _), (50, _), (57, _)]) 58 62 4 rfl
      · intro g4_9
        try simp only [decide_eq_true_eq, decide_eq_false_iff_not, beq_iff_eq, bne_iff_ne, beq_eq_false_iff_ne, bne_eq_false_iff_eq, Bool.not_eq_true', Bool.not_eq_false', Bool.not_eq_eq_eq_not, Bool.not_true, Bool.not_false, ne_eq, Decidable.not_not, Int.not_lt, Int.not_le, gt_iff_lt, ge_iff_le] at g4_9
        refine L_no rfl rfl rfl rfl ?_
        refine L_no rfl rfl rfl rfl ?_
        refine L_no rfl rfl rfl rfl ?_
        first | refine L_s (q_pickT rfl rfl) rfl ?_ | refine L_s (q_pickF rfl rfl) rfl ?_
        first | exact WPL.jn rfl rfl (by repeat (first | exact trivial | refine ⟨rfl, ?_⟩)) | exact WPL.jnI rfl rfl (by repeat (first | exact trivial | refine ⟨rfl, ?_⟩)) (Imp.pick (by repeat (first | exact Pick.nil | apply Pick.keep (by repeat (first | exact List.Mem.head _ | apply List.Mem.tail)) (by first | exact Pers.cells _ _ _ | exact Pers.slv _ _ _) | apply Pick.cons (by repeat (first | exact Pick1.here | apply Pick1.there)))))
      · intro g4_9
        try simp only [decide_eq_true_eq, decide_eq_false_iff_not, beq_iff_eq, bne_iff_ne, beq_eq_false_iff_ne, bne_eq_false_iff_eq, Bool.not_eq_true', Bool.not_eq_false', Bool.not_eq_eq_eq_not, Bool.not_true, Bool.not_false, ne_eq, Decidable.not_not, Int.not_lt, Int.not_le, gt_iff_lt, ge_iff_le] at g4_9
        refine L_yes rfl rfl (q_move rfl) rfl ?_
        refine L_yes rfl rfl (q_move rfl) rfl ?_
        refine L_yes rfl rfl (q_int rfl rfl rfl) rfl ?_
        first | refine L_s (q_pickT rfl rfl) rfl ?_ | refine L_s (q_pickF rfl rfl) rfl ?_
        first | exact WPL.jn rfl rfl (by repeat (first | exact trivial | refine ⟨rfl, ?_⟩)) | exact WPL.jnI rfl rfl (by repeat (first | exact trivial | refine ⟨rfl, ?_⟩)) (Imp.pick (by repeat (first | exact Pick.nil | apply Pick.keep (by repeat (first | exact List.Mem.head _ | apply List.Mem.tail)) (by first | exact Pers.cells _ _ _ | exact Pers.slv _ _ _) | apply Pick.cons (by repeat (first | exact Pick1.here | apply Pick1.there)))))
      refine L_s (q_move rfl) rfl ?_
      apply WPL.joinO (e' := [(0, _), (2, _), (3, _), (5, _), (6, _), (7, _), (8, _), (13, _), (14, _), (15, _), (16, _), (17, _), (18, _), (19, _), (20, _), (21, _), (22, _), (23, _), (24, _), (25, _), (26, _), (27, _), (28, _), (29, _), (30, _), (31, _), (32, _), (33, _), (34, _), (35, _), (36, _), (37, _), (38, _), (39, _), (40, _), (41, _), (42, _), (43, _), (44, _), (45, _), (46, _), (47, _), (49, _), (50, _), (57, _), (62, _)]) 63 70 7 rfl
      · intro g4_14
        try simp only [decide_eq_true_eq, decide_eq_false_iff_not, beq_iff_eq, bne_iff_ne, beq_eq_false_iff_ne, bne_eq_false_iff_eq, Bool.not_eq_true', Bool.not_eq_false', Bool.not_eq_eq_eq_not, Bool.not_true, Bool.not_false, ne_eq, Decidable.not_not, Int.not_lt, Int.not_le, gt_iff_lt, ge_iff_le] at g4_14
        refine L_no rfl rfl rfl rfl ?_
        refine L_no rfl rfl rfl rfl ?_
        refine L_no rfl rfl rfl rfl ?_
        refine L_no rfl rfl rfl rfl ?_
        refine L_no rfl rfl rfl rfl ?_
        refine L_no rfl rfl rfl rfl ?_
        first | refine L_s (q_pickT rfl rfl) rfl ?_ | refine L_s (q_pickF rfl rfl) rfl ?_
        first | exact WPL.jn rfl rfl (by repeat (first | exact trivial | refine ⟨rfl, ?_⟩)) | exact WPL.jnI rfl rfl (by repeat (first | exact trivial | refine ⟨rfl, ?_⟩)) (Imp.pick (by repeat (first | exact Pick.nil | apply Pick.keep (by repeat (first | exact List.Mem.head _ | apply List.Mem.tail)) (by first | exact Pers.cells _ _ _ | exact Pers.slv _ _ _) | apply Pick.cons (by repeat (first | exact Pick1.here | apply Pick1.there)))))
      · intro g4_14
        try simp only [decide_eq_true_eq, decide_eq_false_iff_not, beq_iff_eq, bne_iff_ne, beq_eq_false_iff_ne, bne_eq_false_iff_eq, Bool.not_eq_true', Bool.not_eq_false', Bool.not_eq_eq_eq_not, Bool.not_true, Bool.not_false, ne_eq, Decidable.not_not, Int.not_lt, Int.not_le, gt_iff_lt, ge_iff_le] at g4_14
        refine L_yes rfl rfl (q_move rfl) rfl ?_
        refine L_yes rfl rfl (q_move rfl) rfl ?_
        first | refine L_yes rfl rfl (q_nilP rfl) rfl ?_ | refine L_yes rfl rfl (q_nilF rfl) rfl ?_
        first | refine L_yes rfl rfl (q_faK fa_journal_Journal_epoch rfl) rfl ?_ | refine L_yes rfl rfl (q_fa fa_journal_Journal_epoch rfl) rfl ?_
        first | refine L_yes rfl rfl (q_load1z ld_uint32 rfl (by repeat (first | exact List.Mem.head _ | apply List.Mem.tail)) (by rfl)) rfl ?_ | refine L_yes rfl rfl (q_load1 ld_uint32 rfl (by repeat (first | exact List.Mem.head _ | apply List.Mem.tail)) rfl (by rfl)) rfl ?_
        refine L_yes rfl rfl (q_int rfl rfl rfl) rfl ?_
        first | refine L_s (q_pickT rfl rfl) rfl ?_ | refine L_s (q_pickF rfl rfl) rfl ?_
        first | exact WPL.jn rfl rfl (by repeat (first | exact trivial | refine ⟨rfl, ?_⟩)) | exact WPL.jnI rfl rfl (by repeat (first | exact trivial | refine ⟨rfl, ?_⟩)) (Imp.pick (by repeat (first | exact Pick.nil | apply Pick.keep (by repeat (first | exact List.Mem.head _ | apply List.Mem.tail)) (by first | exact Pers.cells _ _ _ | exact Pers.slv _ _ _) | apply Pick.cons (by repeat (first | exact Pick1.here | apply Pick1.there)))))
      refine L_s (q_assign rfl) rfl ?_
      refine WPL.nil ?_
      refine WPC.prune [(0, _), (2, _), (3, _), (5, _), (6, _), (7, _), (8, _), (13, _), (14, _), (15, _), (16, _), (17, _), (18, _), (19, _), (20, _), (21, _), (22, _), (23, _), (24, _), (25, _), (26, _), (27, _), (28, _), (29, _), (30, _), (31, _), (32, _), (33, _), (34, _), (35, _), (36, _), (37, _), (38, _), (39, _), (40, _), (41, _), (42, _), (43, _), (44, _), (45, _), (46, _), (47, _), (48, _), (49, _), (50, _), (57, _), (62, _), (70, _)] (by repeat (first | exact trivial | refine ⟨rfl, ?_⟩)) ?_
      refine WPC.cond rfl (fun h1 => ?_) (fun h1 => ?_)
      · have hno : ¬ scanOk s.1 low (j.first + rk.length) j.epoch := by unfold scanOk; intro ⟨e1, e2, e3, e4⟩; rw [e1, e2] at h1; simp at h1; omega
        refine WPC.exit ?_
        refine blockQ_there (by decide) ?_
        refine thenQ_e ?_
        refine blockQ_there (by decide) ?_
        refine thenQ_e ?_
        refine blockQ_here ?_
        skip
        have hfin : rk.map jrP = scanL d j.at_ j.n j.epoch j.n j.low j.first := by rw [← hinv, scanL_no hr hno, List.append_nil]
        exact endR_n rfl .nil ((Imp.pick (by repeat (first | exact Pick.nil | apply Pick.keep (by repeat (first | exact List.Mem.head _ | apply List.Mem.tail)) (by first | exact Pers.cells _ _ _ | exact Pers.slv _ _ _ | exact Pers.bytes _) | apply Pick.cons (by repeat (first | exact Pick1.here | apply Pick1.there))))).trans (jour_close (b := b) (db := db) (j := (j.scanned d)) ⟨rk, la, lc⟩ ⟨hfin, hrok⟩ (Γ := [disk db d]))) ⟨rfl, rfl⟩
      · have hyes : scanOk s.1 low (j.first + rk.length) j.epoch := by simp at h1; obtain ⟨⟨⟨e1, e2⟩, e3⟩, e4⟩ := h1; exact ⟨e1, by omega, by omega, by omega⟩
        rw [scanL_yes hr hmax hyes] at hinv
        refine WPC.skip ?_
        refine blockQ_n ?_
        refine thenQ_n ?_
        refine WPC.seqR ?_
        refine L_s (q_move rfl) rfl ?_
        refine L_s (q_assign rfl) rfl ?_
        refine WPL.nil ?_
        refine WPC.prune [(0, _), (2, _), (3, _), (5, _), (6, _), (7, _), (8, _), (13, _), (14, _), (15, _), (16, _), (17, _), (18, _), (19, _), (20, _), (21, _), (22, _), (23, _), (24, _), (25, _), (26, _), (27, _), (28, _), (29, _), (30, _), (31, _), (32, _), (33, _), (34, _), (35, _), (36, _), (37, _), (38, _), (39, _), (40, _), (41, _), (42, _), (43, _), (44, _), (45, _), (46, _), (47, _), (48, _), (49, _), (50, _), (57, _), (62, _), (70, _), (71, _)] (by repeat (first | exact trivial | refine ⟨rfl, ?_⟩)) ?_
        refine WPC.region ?_
        refine L_s (q_move rfl) rfl ?_
        refine L_s (q_move rfl) rfl ?_
        first | refine L_s (q_nilP rfl) rfl ?_ | refine L_s (q_nilF rfl) rfl ?_
        first | refine L_s (q_faK fa_journal_Journal_held rfl) rfl ?_ | refine L_s (q_fa fa_journal_Journal_held rfl) rfl ?_
        first | refine L_s (q_load1z ld_sl_journal_record rfl (by repeat (first | exact List.Mem.head _ | apply List.Mem.tail)) (by rfl)) rfl ?_ | refine L_s (q_load1 ld_sl_journal_record rfl (by repeat (first | exact List.Mem.head _ | apply List.Mem.tail)) rfl (by rfl)) rfl ?_
        refine L_s (q_move rfl) rfl ?_
        refine L_s (q_move rfl) rfl ?_
        refine L_s (q_build (cs := [_, _]) pl_journal_record rfl rfl) rfl ?_
        refine WPL.cons rfl (E1.wpo (e_buildSlice mk_sl_journal_record (by decide) rfl rfl rfl) rfl ?_)
        rintro _ _ ⟨bE, rfl, rfl⟩
        refine WPL.putS ?_
        refine WPL.cons rfl (E1.wpo (e_append (m := 1) (news := encR (⟨pE s.1, ⟨pB s.1, a', (pB s.1).length, c'⟩⟩ : JR)) mk_sl_journal_record (by decide) rfl rfl (by repeat (first | exact Pick1.here | apply Pick1.there)) (Rd.part (i := 0) (b := bE) (o := 0) (vs := encR (⟨pE s.1, ⟨pB s.1, a', (pB s.1).length, c'⟩⟩ : JR)) (by repeat (first | exact List.Mem.head _ | apply List.Mem.tail)) rfl rfl rfl) (by simp [Value.oneCell']) (by show rk.length + 1 ≤ _; omega) (by show (rk.length + 1) * _ ≤ _; omega)) rfl ?_)
        rintro _ _ ⟨a4, c4, rfl, -, rfl⟩
        have eb : rk.map (·.x) ++ [((⟨pE s.1, ⟨pB s.1, a', (pB s.1).length, c'⟩⟩ : JR)).x] = (rk ++ [(⟨pE s.1, ⟨pB s.1, a', (pB s.1).length, c'⟩⟩ : JR)]).map (·.x) := by simp
        have el : rk.length + 1 = (rk ++ [(⟨pE s.1, ⟨pB s.1, a', (pB s.1).length, c'⟩⟩ : JR)]).length := by simp
        refine WPL.putS ?_
        first | refine L_s (q_nilP rfl) rfl ?_ | refine L_s (q_nilF rfl) rfl ?_
        first | refine L_s (q_faK fa_journal_Journal_held rfl) rfl ?_ | refine L_s (q_fa fa_journal_Journal_held rfl) rfl ?_
        refine WPL.cons rfl (S1.wpo (s_store1k sz_sl_journal_record rfl rfl rfl rfl (by repeat (first | exact Upd.here | apply Upd.there)) (by repeat constructor)) rfl ?_)
        refine WPL.putN ?_
        refine WPL.nil ?_
        refine blockQ_n ?_
        refine thenQ_n ?_
        have hby := bytes_snoc (xs := rk.map (·.x)) (x := ((⟨pE s.1, ⟨pB s.1, a', (pB s.1).length, c'⟩⟩ : JR)).x) (Γ := [cells true b 0 (jourC db ({ j with held := (rk ++ [(⟨pE s.1, ⟨pB s.1, a', (pB s.1).length, c'⟩⟩ : JR)]).map jrP } : JN) ⟨rk ++ [(⟨pE s.1, ⟨pB s.1, a', (pB s.1).length, c'⟩⟩ : JR)], a4, c4⟩), buf 2 a4 (rk ++ [(⟨pE s.1, ⟨pB s.1, a', (pB s.1).length, c'⟩⟩ : JR)]).length c4 (rk.flatMap encR ++ encR (⟨pE s.1, ⟨pB s.1, a', (pB s.1).length, c'⟩⟩ : JR)), disk db d, tblA])
        rw [eb, ← flat_snoc] at hby
        rw [el, ← flat_snoc]
        exact ⟨rfl, _, _, _, by simp only [List.length_append, List.length_singleton]; omega, ⟨rk ++ [(⟨pE s.1, ⟨pB s.1, a', (pB s.1).length, c'⟩⟩ : JR)], a4, c4, pE s.1, rfl, by simp; omega, hpS.2, by intro r hr; rcases List.mem_append.1 hr with hr | hr; exact hrok r hr; rw [List.mem_singleton.1 hr]; exact hb, by rw [← hinv]; simp [Nat.add_assoc], rfl, rfl⟩, (by repeat (first | exact trivial | refine ⟨rfl, ?_⟩)), ((Imp.pick (Δ := [((⟨pE s.1, ⟨pB s.1, a', (pB s.1).length, c'⟩⟩ : JR)).x.at_, bytes (rk.map (·.x)), cells true b 0 (jourC db ({ j with held := (rk ++ [(⟨pE s.1, ⟨pB s.1, a', (pB s.1).length, c'⟩⟩ : JR)]).map jrP } : JN) ⟨rk ++ [(⟨pE s.1, ⟨pB s.1, a', (pB s.1).length, c'⟩⟩ : JR)], a4, c4⟩), buf 2 a4 (rk ++ [(⟨pE s.1, ⟨pB s.1, a', (pB s.1).length, c'⟩⟩ : JR)]).length c4 ((rk ++ [(⟨pE s.1, ⟨pB s.1, a', (pB s.1).length, c'⟩⟩ : JR)]).flatMap encR), disk db d, tblA]) (by repeat (first | exact Pick.nil | apply Pick.keep (by repeat (first | exact List.Mem.head _ | apply List.Mem.tail)) (by first | exact Pers.cells _ _ _ | exact Pers.slv _ _ _ | exact Pers.bytes _) | apply Pick.cons (by repeat (first | exact Pick1.here | apply Pick1.there))))).trans hby).trans (Imp.pick (by repeat (first | exact Pick.nil | apply Pick.keep (by repeat (first | exact List.Mem.head _ | apply List.Mem.tail)) (by first | exact Pers.cells _ _ _ | exact Pers.slv _ _ _ | exact Pers.bytes _) | apply Pick.cons (by repeat (first | exact Pick1.here | apply Pick1.there)))))⟩
    · have hmax : 4294967295 < j.first + rk.length := by simp at h0; omega
      refine WPC.exit ?_
      refine thenQ_e ?_
      refine thenQ_e ?_
      refine blockQ_here ?_
      skip
      have hfin : rk.map jrP = scanL d j.at_ j.n j.epoch j.n j.low j.first := by rw [← hinv, scanL_far hmax, List.append_nil]
      exact endR_n rfl .nil ((Imp.pick (by repeat (first | exact Pick.nil | apply Pick.keep (by repeat (first | exact List.Mem.head _ | apply List.Mem.tail)) (by first | exact Pers.cells _ _ _ | exact Pers.slv _ _ _ | exact Pers.bytes _) | apply Pick.cons (by repeat (first | exact Pick1.here | apply Pick1.there))))).trans (jour_close (b := b) (db := db) (j := (j.scanned d)) ⟨rk, la, lc⟩ ⟨hfin, hrok⟩ (Γ := [disk db d]))) ⟨rfl, rfl⟩
  · have hlt : rk.length = j.n := by simp at g1_10; omega
    refine WPA.takeN 11 rfl rfl rfl rfl rfl (by kernel_rfl) (by kernel_rfl) (by kernel_rfl) rfl (.cons (Ent.mem (by repeat (first | exact List.Mem.head _ | apply List.Mem.tail))) (.cons (Ent.mem (by repeat (first | exact List.Mem.head _ | apply List.Mem.tail))) (.nil _))) ?_
    refine WPA.putS ?_
    refine WPA.takeN 12 rfl rfl rfl rfl rfl (by kernel_rfl) (by kernel_rfl) (by kernel_rfl) rfl (.cons (Ent.mem (by repeat (first | exact List.Mem.head _ | apply List.Mem.tail))) (.cons (Ent.mem (by repeat (first | exact List.Mem.head _ | apply List.Mem.tail))) (.nil _))) ?_
    refine WPA.putS ?_
    refine WPA.takeN 13 rfl rfl rfl rfl rfl (by kernel_rfl) (by kernel_rfl) (by kernel_rfl) rfl (.cons (Ent.mem (by repeat (first | exact List.Mem.head _ | apply List.Mem.tail))) (.cons (Ent.mem (by repeat (first | exact List.Mem.head _ | apply List.Mem.tail))) (.nil _))) ?_
    refine WPA.putS ?_
    first | refine WPA.takeP 14 rfl (q_pickT rfl rfl) (by kernel_rfl) (by kernel_rfl) (by kernel_rfl) rfl rfl (.cons (Ent.mem (by repeat (first | exact List.Mem.head _ | apply List.Mem.tail))) (.cons (Ent.mem (by repeat (first | exact List.Mem.head _ | apply List.Mem.tail))) (.nil _))) ?_ | refine WPA.takeP 14 rfl (q_pickF rfl rfl) (by kernel_rfl) (by kernel_rfl) (by kernel_rfl) rfl rfl (.cons (Ent.mem (by repeat (first | exact List.Mem.head _ | apply List.Mem.tail))) (.cons (Ent.mem (by repeat (first | exact List.Mem.head _ | apply List.Mem.tail))) (.nil _))) ?_
    refine WPA.putS ?_
    refine WPA.done (by kernel_rfl) ?_
    refine WPC.cond rfl (fun h0 => ?_) (fun h0 => ?_)
    · skip
      simp at h0
    · skip
      refine WPC.exit ?_
      refine thenQ_e ?_
      refine thenQ_e ?_
      refine blockQ_here ?_
      skip
      have hfin : rk.map jrP = scanL d j.at_ j.n j.epoch j.n j.low j.first := by rw [← hinv, hlt, Nat.sub_self, scanL, List.append_nil]
      exact endR_n rfl .nil ((Imp.pick (by repeat (first | exact Pick.nil | apply Pick.keep (by repeat (first | exact List.Mem.head _ | apply List.Mem.tail)) (by first | exact Pers.cells _ _ _ | exact Pers.slv _ _ _ | exact Pers.bytes _) | apply Pick.cons (by repeat (first | exact Pick1.here | apply Pick1.there))))).trans (jour_close (b := b) (db := db) (j := (j.scanned d)) ⟨rk, la, lc⟩ ⟨hfin, hrok⟩ (Γ := [disk db d]))) ⟨rfl, rfl⟩

end Go.Sl
