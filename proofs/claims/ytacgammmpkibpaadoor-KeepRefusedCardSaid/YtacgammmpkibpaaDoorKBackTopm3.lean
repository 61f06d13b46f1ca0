/- Texts of this claim, merged: JK, JL, PA, PB, PC, PD, PE, PF, PK, KField, PL, PG, PH, PI. -/
import Derived.Test.YtacgammmpkibpaaDoorKBackTopm2
/- Walks: Cut, scan. -/
namespace Go.Sl
open Go Go.RowKit Go.Proofs
set_option linter.unusedSimpArgs false
set_option linter.unusedVariables false
attribute [local irreducible] faB szB ldB zB zL slB mkB arB plB intB cells objc star stars buf slv grp whole Sat WPC WPL WPA WPO WPQ Trip Q1 E1 S1 C1

theorem c_JCut {b db : Nat} {j : JN} {d : DK} (hj : j.ok d) (hd : d.ok) (hpl : d.pend.length < 700000) {i : Int} (hnx : j.next < 4294967296) : Trip Tryd.prog 56 #[.pointer (some ⟨b, 0, none⟩), .int .i64 i] [jour b db j, disk db d, tblA] fun r Δ => r = .int .i64 (jcut d j i).2.2 ∧ Δ = [jour b db (jcut d j i).2.1, disk db (jcut d j i).1] := by
  refine jour_open fun L hL => ?_
  obtain ⟨rs, la, lc⟩ := L
  obtain ⟨hheld, hrok⟩ := hL
  dsimp only at hheld hrok
  have hlen : rs.length = j.held.length := by rw [← hheld, List.length_map]
  have q1 := hj.first
  have q2 := hj.epoch
  have q3 := hj.low
  have q4 := hj.at_
  have q5 := hj.n
  have q6 := hj.held
  have q7 := hd.n
  have q8 := hj.eps
  unfold JN.next at hnx
  refine Trip.start 70 [.tmp 4] [(0, .pointer (some ⟨b, 0, none⟩)), (1, .int .i64 i)] Tryd.func56 rfl Tryd.ntmps56 rfl ⟨rfl, rfl, trivial⟩ rfl ?_
  refine WPC.seqR ?_
  refine stp ?_
  refine WPL.nil ?_
  refine WPC.seq ?_
  refine WPC.block ?_
  refine WPC.seqR ?_
  iterate 3 refine stp ?_
  apply WPL.joinO (e' := [(0, _), (1, _), (4, _)]) 8 16 8 rfl
  · intro g1_2
    try simp only [decide_eq_true_eq, decide_eq_false_iff_not, beq_iff_eq, bne_iff_ne, beq_eq_false_iff_ne, bne_eq_false_iff_eq, Bool.not_eq_true', Bool.not_eq_false', Bool.not_eq_eq_eq_not, Bool.not_true, Bool.not_false, ne_eq, Decidable.not_not, Int.not_lt, Int.not_le, gt_iff_lt, ge_iff_le] at g1_2
    refine L_no rfl rfl rfl rfl ?_
    refine L_no rfl rfl rfl rfl ?_
    refine L_no rfl rfl rfl rfl ?_
    refine L_no rfl rfl rfl rfl ?_
    refine L_no rfl rfl rfl rfl ?_
    refine L_no rfl rfl rfl rfl ?_
    refine L_no rfl rfl rfl rfl ?_
    refine stp ?_
    first | exact WPL.jn rfl rfl sbb | exact WPL.jnI rfl rfl sbb Imp.pk
  · intro g1_2
    try simp only [decide_eq_true_eq, decide_eq_false_iff_not, beq_iff_eq, bne_iff_ne, beq_eq_false_iff_ne, bne_eq_false_iff_eq, Bool.not_eq_true', Bool.not_eq_false', Bool.not_eq_eq_eq_not, Bool.not_true, Bool.not_false, ne_eq, Decidable.not_not, Int.not_lt, Int.not_le, gt_iff_lt, ge_iff_le] at g1_2
    iterate 7 refine stpY rfl rfl ?_
    refine stp ?_
    first | exact WPL.jn rfl rfl sbb | exact WPL.jnI rfl rfl sbb Imp.pk
  refine stp ?_
  refine WPL.nil ?_
  refine WPC.cond rfl (fun h0 => ?_) (fun h0 => ?_)
  · have et : jcut d j i = (d, j, 1) := by unfold jcut; rw [if_pos (by simp at h0; omega)]
    rw [et]
    refine WPC.seqR ?_
    refine stp ?_
    refine WPL.nil ?_
    refine WPC.ret ?_
    refine blockQ_r ?_
    refine thenQ_r ?_
    exact endR_r rfl (.tmp rfl .nil) ((Imp.pk).trans (jour_close (b := b) (db := db) (j := j) ⟨rs, la, lc⟩ ⟨hheld, hrok⟩ (Γ := [disk db d]))) ⟨rfl, rfl⟩
  · obtain ⟨k, rfl⟩ : ∃ k : Nat, i = (k : Int) := ⟨i.toNat, by simp at h0; omega⟩
    have hk : k ≤ rs.length := by simp at h0; omega
    refine WPC.seqR ?_
    iterate 6 refine stp ?_
    refine WPL.nil ?_
    refine WPC.cond rfl (fun h1 => ?_) (fun h1 => ?_)
    · have he : j.epoch = 4294967295 := by simp at h1; omega
      have et : jcut d j k = (d, j, 42) := by unfold jcut; rw [if_neg (by omega), if_pos he]
      rw [et]
      refine WPC.seqR ?_
      refine stp ?_
      refine WPL.nil ?_
      refine WPC.ret ?_
      refine blockQ_r ?_
      refine thenQ_r ?_
      exact endR_r rfl (.tmp rfl .nil) ((Imp.pk).trans (jour_close (b := b) (db := db) (j := j) ⟨rs, la, lc⟩ ⟨hheld, hrok⟩ (Γ := [disk db d]))) ⟨rfl, rfl⟩
    · have he : j.epoch ≠ 4294967295 := by simp at h1; omega
      refine WPC.skip ?_
      refine blockQ_n ?_
      refine thenQ_n ?_
      refine WPC.seqR ?_
      iterate 4 refine stp ?_
      refine kall rfl (c_Sync hd (by omega)) ?_
      rintro _ _ ⟨rfl, rfl⟩
      refine WPL.nil ?_
      refine WPC.seq ?_
      refine WPC.seqR ?_
      iterate 2 refine stp ?_
      refine WPL.nil ?_
      refine WPC.block ?_
      refine WPC.loopS (fun m e Γ => ∃ (i : Nat) (dk : DK) (rk : List JR), m = k - i ∧ i ≤ k ∧ rk.length = rs.length - i ∧ (∀ r ∈ rk, r ∈ rs) ∧ dk.ok ∧ dk.seen.length = d.seen.length ∧ dk.pend.length ≤ d.pend.length + i ∧ cutL dk ({ j with held := rk.map jrP } : JN) (k - i) = cutL d.sync j k ∧ e = [(0, .pointer (some ⟨b, 0, none⟩)), (28, .int .i64 (k : Int)), (29, .int .i64 (i : Int))] ∧ Γ = [cells true b 0 (jourC db ({ j with held := rk.map jrP } : JN) ⟨rk, la, lc⟩), buf 2 la rk.length lc (rk.flatMap encR), bytes (rs.map (·.x)), disk db dk, tblA]) (k) ⟨0, d.sync, rs, rfl, by omega, rfl, fun _ h => h, hd.sync, sync_len d, by have := sync_pend d; omega, by rw [hheld]; rfl, rfl, rfl⟩ sbb Imp.pk ?_
      rintro m e Γ ⟨i, dk, rk, rfl, hi, hrl, hrs, hdk, hdl, hdp, hcut, rfl, rfl⟩
      refine WPC.seqR ?_
      refine stp ?_
      refine WPL.nil ?_
      refine WPC.seq ?_
      refine WPC.cond rfl (fun h2 => ?_) (fun h2 => ?_)
      · simp only [decide_eq_true_eq, Int.ofNat_lt] at h2
        refine WPC.bufFact mm fun hsk => ?_
        have hne : rk ≠ [] := by intro h; rw [h] at hrl; simp at hrl; omega
        obtain ⟨ri, rl, rfl⟩ : ∃ ri rl, rk = ri ++ [rl] := ⟨rk.dropLast, rk.getLast hne, (List.dropLast_concat_getLast hne).symm⟩
        have hril : ri.length + 1 = rs.length - i := by simpa using hrl
        have hcap : ri.length + 1 ≤ lc := by simpa using hsk.cap
        have hbuf := Imp.bufShrink (sz := 2) (m := ri.length) (n := (ri ++ [rl]).length) (c := lc) (a := la) (xs := ri.flatMap encR) (ys := [rl].flatMap encR) (Γ := [cells true b 0 (jourC db ({ j with held := ri.map jrP } : JN) ⟨ri, la, lc⟩), bytes (rs.map (·.x)), disk db dk, tblA]) (flat_length encR_len _) (by simp)
        rw [← List.flatMap_append] at hbuf
        have hnxt := c_next (b := b) (db := db) (j := ({ j with held := ri.map jrP } : JN)) (L := ⟨ri, la, lc⟩) (by simp) q1 (by simp; omega)
        simp only [JN.next, List.length_map] at hnxt
        rw [show k - i = (k - (i + 1)) + 1 by omega] at hcut
        have hcut2 := cut_step hcut
        have hw1 := write_pend dk ((({ j with held := ri.map jrP } : JN)).place (j.first + ri.length)) []
        refine WPC.skip ?_
        refine thenQ_n ?_
        refine WPC.seq ?_
        refine WPC.block ?_
        refine WPC.seqD mixed ?_
        refine atP 0 rfl ?_
        refine atP 1 rfl ?_
        refine atP 2 rfl ?_
        refine atP 3 rfl ?_
        refine atL 4 rfl ?_
        refine atP 5 rfl ?_
        refine atP 6 rfl ?_
        refine atP 7 rfl ?_
        refine atL 8 rfl ?_
        refine atP 9 rfl ?_
        refine WPA.takeP 10 rfl (q_decN (k := (ri ++ [rl]).length) rfl rfl (by simp) (by simp; omega)) (by kernel_rfl) (by kernel_rfl) (by kernel_rfl) rfl rfl (.cons (Ent.mem mm) (.cons (Ent.mem mm) (.nil _))) ?_
        refine WPA.putS ?_
        rw [show (ri ++ [rl]).length - 1 = ri.length by simp]
        refine WPA.takeP 11 rfl (q_sliceHi (j := ri.length) sl_sl_journal_record rfl rfl (show ri.length ≤ lc by omega)) (by kernel_rfl) (by kernel_rfl) (by kernel_rfl) rfl rfl (.cons (Ent.mem mm) (.cons (Ent.mem mm) (.nil _))) ?_
        refine WPA.putS ?_
        refine atP 12 rfl ?_
        refine atP 13 rfl ?_
        refine WPA.oneE 14 [] (by kernel_rfl) rfl rfl (by repeat (first | exact .nil | refine .anc rfl ?_ | refine .keep mm ?_)) (S1.wpo (s_store1k sz_sl_journal_record rfl rfl rfl rfl uu (by repeat constructor)) rfl ?_)
        refine ⟨(.nil _), ?_⟩
        refine WPA.putN ?_
        refine WPA.done (by kernel_rfl) ?_
        refine WPC.imp ((Imp.pk (Δ := [buf 2 la (ri ++ [rl]).length lc ((ri ++ [rl]).flatMap encR), cells true b 0 (jourC db ({ j with held := ri.map jrP } : JN) ⟨ri, la, lc⟩), bytes (rs.map (·.x)), disk db dk, tblA])).trans hbuf) ?_
        refine WPC.draw mixed ?_
        refine atP 0 rfl ?_
        refine atP 1 rfl ?_
        refine atP 2 rfl ?_
        refine atL 3 rfl ?_
        refine atP 4 rfl ?_
        refine atP 5 rfl ?_
        refine WPA.oneE 6 [(3, [_])] (by kernel_rfl) rfl rfl (by repeat (first | exact .nil | refine .anc rfl ?_ | refine .keep mm ?_)) (C1.call (c_call Tryd.func65 rfl rfl rfl) hnxt pkk rfl ?_)
        rintro _ _ ⟨rfl, rfl⟩
        refine ⟨(.cons (Ent.mem mm) (.nil _)), ?_⟩
        refine WPA.putS ?_
        refine atP 7 rfl ?_
        refine WPA.oneE 8 [(3, [_])] (by kernel_rfl) rfl rfl (by repeat (first | exact .nil | refine .anc rfl ?_ | refine .keep mm ?_)) (C1.call (c_call Tryd.func79 rfl rfl rfl) (c_sector (j := ({ j with held := ri.map jrP } : JN)) (L := ⟨ri, la, lc⟩) (seq := j.first + ri.length) (by omega) q5 (show j.at_ ≤ 1000 by omega)) pkk rfl ?_)
        rintro _ _ ⟨rfl, rfl⟩
        refine ⟨(.cons (Ent.mem mm) (.nil _)), ?_⟩
        refine WPA.putS ?_
        refine WPA.oneE 9 [] (by kernel_rfl) rfl rfl (by repeat (first | exact .nil | refine .anc rfl ?_ | refine .keep mm ?_)) (C1.call (c_call Tryd.func64 rfl rfl rfl) (c_WriteNil hdk (by omega)) pkk rfl ?_)
        rintro _ _ ⟨rfl, rfl⟩
        refine ⟨(.nil _), ?_⟩
        refine WPA.putS ?_
        refine WPA.done (by kernel_rfl) ?_
        refine blockQ_n ?_
        refine thenQ_n ?_
        refine WPC.region ?_
        iterate 2 refine stp ?_
        refine WPL.nil ?_
        refine thenQ_n ?_
        exact ⟨rfl, _, _, _, by omega, ⟨i + 1, (dk.write ((({ j with held := ri.map jrP } : JN)).place (j.first + ri.length)) []).1, ri, rfl, by omega, by omega, fun r hr => hrs r (List.mem_append_left _ hr), hdk.write _ _, by rw [write_len]; exact hdl, by omega, hcut2, rfl, rfl⟩, sbb, Imp.pk⟩
      · simp only [decide_eq_false_iff_not, Int.ofNat_lt] at h2
        have hik : k - i = 0 := by omega
        rw [hik] at hcut
        have hcut2 : (dk, ({ j with held := rk.map jrP } : JN)) = cutL d.sync j k := hcut
        refine WPC.exit ?_
        refine thenQ_e ?_
        refine thenQ_e ?_
        refine blockQ_here ?_
        refine thenQ_n ?_
        refine WPC.seqR ?_
        iterate 4 refine stp ?_
        refine kall rfl (c_Sync hdk (by omega)) ?_
        rintro _ _ ⟨rfl, rfl⟩
        have hsp := sync_pend dk
        refine WPL.nil ?_
        refine WPC.seqR ?_
        iterate 4 refine stp ?_
        refine L_s (q_add32 (a := j.epoch) (b := 1) rfl rfl) rfl ?_
        rw [Nat.mod_eq_of_lt (show j.epoch + 1 < 4294967296 by omega)]
        iterate 2 refine stp ?_
        refine sto ?_
        refine WPL.nil ?_
        refine WPC.seqR ?_
        refine stp ?_
        refine kall rfl (c_jsave (j := ({ j with held := rk.map jrP, epoch := j.epoch + 1 } : JN)) (L := ⟨rk, la, lc⟩) (d := dk.sync) ⟨q5, by rw [sync_len, hdl]; exact q4, q1, by show j.epoch + 1 < _; omega, q3, by show (rk.map jrP).length ≤ _; rw [List.length_map]; show rk.length ≤ j.n; omega, fun x hx => by obtain ⟨r, hr, rfl⟩ := List.mem_map.1 hx; exact q8 _ (by rw [← hheld]; exact List.mem_map.2 ⟨r, hrs r hr, rfl⟩)⟩ hdk.sync (by omega)) ?_
        rintro _ _ ⟨rfl, rfl⟩
        refine stp ?_
        refine WPL.nil ?_
        refine WPC.ret ?_
        have et : jcut d j k = ((jsave dk.sync ({ j with held := rk.map jrP, epoch := j.epoch + 1 } : JN)).1, ({ j with held := rk.map jrP, epoch := j.epoch + 1 } : JN), (jsave dk.sync ({ j with held := rk.map jrP, epoch := j.epoch + 1 } : JN)).2) := by unfold jcut; rw [if_neg (by omega), if_neg he, Int.toNat_natCast, ← hcut2]
        rw [et]
        exact endR_r rfl (.tmp rfl .nil) ((Imp.pk (Δ := [bytes (rs.map (·.x)), buf 2 la rk.length lc (rk.flatMap encR), cells true b 0 (jourC db ({ j with held := rk.map jrP, epoch := j.epoch + 1 } : JN) ⟨rk, la, lc⟩), disk db (jsave dk.sync ({ j with held := rk.map jrP, epoch := j.epoch + 1 } : JN)).1])).trans ((bytes_sub (ys := rk.map (·.x)) (fun y hy => by obtain ⟨r, hr, rfl⟩ := List.mem_map.1 hy; exact List.mem_map.2 ⟨r, hrs r hr, rfl⟩)).trans ((Imp.pk).trans (jour_close (b := b) (db := db) (j := ({ j with held := rk.map jrP, epoch := j.epoch + 1 } : JN)) ⟨rk, la, lc⟩ ⟨rfl, fun r hr => hrok r (hrs r hr)⟩ (Γ := [disk db (jsave dk.sync ({ j with held := rk.map jrP, epoch := j.epoch + 1 } : JN)).1]))))) ⟨rfl, rfl⟩

theorem c_scan {b db : Nat} {j : JN} {d : DK} (hj : j.ok d) (hd : d.ok) (hpl : d.pend.length < 700000) (h0 : j.held = []) : Trip Tryd.prog 63 #[.pointer (some ⟨b, 0, none⟩)] [jour b db j, disk db d, tblA] fun r Δ => r = .tuple #[] ∧ Δ = [jour b db (j.scanned d), disk db d] := by
  refine jour_open fun L hL => ?_
  obtain ⟨rs, la, lc⟩ := L
  obtain ⟨hheld, hrok⟩ := hL
  dsimp only at hheld hrok
  have hlen : rs.length = j.held.length := by rw [← hheld, List.length_map]
  have q1 := hj.first
  have q2 := hj.epoch
  have q3 := hj.low
  have q4 := hj.at_
  have q5 := hj.n
  have q6 := hj.held
  have q7 := hd.n
  have q8 := hj.eps
  have hrs0 : rs = [] := List.eq_nil_of_length_eq_zero (by rw [hlen, h0]; rfl)
  subst hrs0
  clear hheld hlen
  refine Trip.start 84 [] [(0, .pointer (some ⟨b, 0, none⟩))] Tryd.func63 rfl Tryd.ntmps63 rfl ⟨rfl, trivial⟩ rfl ?_
  refine WPC.scopeS ?_
  refine WPC.seqR ?_
  iterate 5 refine stp ?_
  refine WPL.nil ?_
  refine WPC.seq ?_
  refine WPC.label ?_
  refine thenQ_n ?_
  refine WPC.block ?_
  refine WPC.loopS (fun m e Γ => ∃ (rk : List JR) (la : Option Addr) (lc low : Nat), m = j.n - rk.length ∧ rk.length ≤ j.n ∧ low < 4294967296 ∧ (∀ r ∈ rk, r.x.ok) ∧ rk.map jrP ++ scanL d j.at_ j.n j.epoch (j.n - rk.length) low (j.first + rk.length) = scanL d j.at_ j.n j.epoch j.n j.low j.first ∧ e = [(0, .pointer (some ⟨b, 0, none⟩)), (2, .int .u32 (low : Int))] ∧ Γ = [cells true b 0 (jourC db ({ j with held := rk.map jrP } : JN) ⟨rk, la, lc⟩), buf 2 la rk.length lc (rk.flatMap encR), bytes (rk.map (·.x)), disk db d, tblA]) (j.n) ⟨[], la, lc, j.low, rfl, by show 0 ≤ _; omega, q3, by simp, rfl, rfl, rfl⟩ sbb Imp.pk ?_
  clear hrok
  rintro m e Γ ⟨rk, la, lc, low, rfl, hrn, hlow, hrok, hinv, rfl, rfl⟩
  have hnxt := c_next (b := b) (db := db) (j := ({ j with held := rk.map jrP } : JN)) (L := ⟨rk, la, lc⟩) (by simp) q1 (by simp; omega)
  simp only [JN.next, List.length_map] at hnxt
  refine WPC.seq ?_
  refine WPC.seqD mixed ?_
  refine atP 0 rfl ?_
  refine atP 1 rfl ?_
  refine atP 2 rfl ?_
  refine atL 3 rfl ?_
  refine atP 4 rfl ?_
  refine atP 5 rfl ?_
  refine atP 6 rfl ?_
  refine atP 7 rfl ?_
  refine atL 8 rfl ?_
  refine atP 9 rfl ?_
  refine atP 10 rfl ?_
  refine WPA.split 23 _ rfl (fun g1_10 => ?_) (fun g1_10 => ?_)
  · have hlt : rk.length < j.n := by simpa using g1_10
    refine atPY 11 rfl rfl rfl ?_
    refine WPA.oneY 12 [] (by kernel_rfl) rfl rfl rfl rfl (by repeat (first | exact .nil | refine .anc rfl ?_ | refine .keep mm ?_)) (C1.call (c_call Tryd.func65 rfl rfl rfl) hnxt pkk rfl ?_)
    rintro _ _ ⟨rfl, rfl⟩
    refine ⟨(.nil _), ?_⟩
    refine WPA.putS ?_
    refine atPY 13 rfl rfl rfl ?_
    refine atP 14 rfl ?_
    refine WPA.done (by kernel_rfl) ?_
    refine WPC.cond rfl (fun h0 => ?_) (fun h0 => ?_)
    · have hmax : j.first + rk.length ≤ 4294967295 := by simp at h0; omega
      have hmod := Nat.mod_lt (j.first + rk.length) (show 0 < j.n by omega)
      obtain ⟨s, hr⟩ := read_in (d := d) (i := ((j.at_ + 2 + (j.first + rk.length) % j.n : Nat) : Int)) (by omega)
      have hpS := pS_lt s.1
      rw [show j.n - rk.length = (j.n - (rk.length + 1)) + 1 by omega] at hinv
      refine WPC.skip ?_
      refine thenQ_n ?_
      refine WPC.block ?_
      refine WPC.seqD mixed ?_
      refine atP 0 rfl ?_
      refine atP 1 rfl ?_
      refine atP 2 rfl ?_
      refine atL 3 rfl ?_
      refine atP 4 rfl ?_
      refine atP 5 rfl ?_
      refine WPA.oneE 6 [(3, [_])] (by kernel_rfl) rfl rfl (by repeat (first | exact .nil | refine .anc rfl ?_ | refine .keep mm ?_)) (C1.call (c_call Tryd.func65 rfl rfl rfl) hnxt pkk rfl ?_)
      rintro _ _ ⟨rfl, rfl⟩
      refine ⟨(.cons (Ent.mem mm) (.nil _)), ?_⟩
      refine WPA.putS ?_
      refine atP 7 rfl ?_
      refine WPA.oneE 8 [(3, [_])] (by kernel_rfl) rfl rfl (by repeat (first | exact .nil | refine .anc rfl ?_ | refine .keep mm ?_)) (C1.call (c_call Tryd.func79 rfl rfl rfl) (c_sector (j := ({ j with held := rk.map jrP } : JN)) (L := ⟨rk, la, lc⟩) (seq := j.first + rk.length) (by omega) q5 (show j.at_ ≤ 1000 by omega)) pkk rfl ?_)
      rintro _ _ ⟨rfl, rfl⟩
      refine ⟨(.cons (Ent.mem mm) (.nil _)), ?_⟩
      refine WPA.putS ?_
      refine WPA.oneE 9 [] (by kernel_rfl) rfl rfl (by repeat (first | exact .nil | refine .anc rfl ?_ | refine .keep mm ?_)) (C1.call (c_call Tryd.func85 rfl rfl rfl) (c_DReadOk hr) pkk rfl ?_)
      rintro _ _ ⟨ad, cd, rfl, hds, rfl⟩
      refine ⟨(.nil _), ?_⟩
      refine WPA.putS ?_
      refine atP 10 rfl ?_
      refine atP 11 rfl ?_
      refine atP 12 rfl ?_
      refine atP 13 rfl ?_
      refine atP 14 rfl ?_
      refine WPA.done (by kernel_rfl) ?_
      refine WPC.seqR ?_
      refine stp ?_
      refine kall rfl (c_ParseU s hds) ?_
      rintro _ _ ⟨a', c', rfl, hb, rfl⟩
      iterate 9 refine stp ?_
      refine WPL.nil ?_
      refine WPC.prune [(0, _), (2, _), (3, _), (5, _), (6, _), (7, _), (8, _), (13, _), (14, _), (15, _), (16, _), (17, _), (18, _), (19, _), (20, _), (21, _), (22, _), (23, _), (24, _), (25, _), (26, _), (27, _), (28, _), (29, _), (30, _), (31, _), (32, _), (33, _), (34, _), (35, _), (36, _), (37, _), (38, _), (39, _), (40, _), (41, _), (42, _), (43, _), (44, _), (45, _), (46, _), (47, _)] sbb ?_
      refine WPC.seq ?_
      refine WPC.block ?_
      refine WPC.seqR ?_
      iterate 3 refine stp ?_
      apply WPL.joinO (e' := [(0, _), (2, _), (3, _), (5, _), (6, _), (7, _), (8, _), (13, _), (14, _), (15, _), (16, _), (17, _), (18, _), (19, _), (20, _), (21, _), (22, _), (23, _), (24, _), (25, _), (26, _), (27, _), (28, _), (29, _), (30, _), (31, _), (32, _), (33, _), (34, _), (35, _), (36, _), (37, _), (38, _), (39, _), (40, _), (41, _), (42, _), (43, _), (44, _), (45, _), (46, _), (47, _), (49, _), (50, _)]) 51 57 6 rfl
      · intro g4_2
        try simp only [decide_eq_true_eq, decide_eq_false_iff_not, beq_iff_eq, bne_iff_ne, beq_eq_false_iff_ne, bne_eq_false_iff_eq, Bool.not_eq_true', Bool.not_eq_false', Bool.not_eq_eq_eq_not, Bool.not_true, Bool.not_false, ne_eq, Decidable.not_not, Int.not_lt, Int.not_le, gt_iff_lt, ge_iff_le] at g4_2
        refine L_no rfl rfl rfl rfl ?_
        refine L_no rfl rfl rfl rfl ?_
        refine L_no rfl rfl rfl rfl ?_
        refine L_no rfl rfl rfl rfl ?_
        refine L_no rfl rfl rfl rfl ?_
        refine stp ?_
        first | exact WPL.jn rfl rfl sbb | exact WPL.jnI rfl rfl sbb Imp.pk
      · intro g4_2
        try simp only [decide_eq_true_eq, decide_eq_false_iff_not, beq_iff_eq, bne_iff_ne, beq_eq_false_iff_ne, bne_eq_false_iff_eq, Bool.not_eq_true', Bool.not_eq_false', Bool.not_eq_eq_eq_not, Bool.not_true, Bool.not_false, ne_eq, Decidable.not_not, Int.not_lt, Int.not_le, gt_iff_lt, ge_iff_le] at g4_2
        iterate 3 refine stpY rfl rfl ?_
        refine L_eyes rfl rfl rfl (C1.call (c_call Tryd.func65 rfl rfl rfl) hnxt pkk rfl ?_)
        rintro _ _ ⟨rfl, rfl⟩
        refine WPL.putS ?_
        refine stpY rfl rfl ?_
        refine stp ?_
        first | exact WPL.jn rfl rfl sbb | exact WPL.jnI rfl rfl sbb Imp.pk
      refine stp ?_
      apply WPL.joinO (e' := [(0, _), (2, _), (3, _), (5, _), (6, _), (7, _), (8, _), (13, _), (14, _), (15, _), (16, _), (17, _), (18, _), (19, _), (20, _), (21, _), (22, _), (23, _), (24, _), (25, _), (26, _), (27, _), (28, _), (29, _), (30, _), (31, _), (32, _), (33, _), (34, _), (35, _), (36, _), (37, _), (38, _), (39, _), (40, _), (41, _), (42, _), (43, _), (44, _), (45, _), (46, _), (47, _), (49, _), (50, _), (57, _)]) 58 62 4 rfl
      · intro g4_9
        try simp only [decide_eq_true_eq, decide_eq_false_iff_not, beq_iff_eq, bne_iff_ne, beq_eq_false_iff_ne, bne_eq_false_iff_eq, Bool.not_eq_true', Bool.not_eq_false', Bool.not_eq_eq_eq_not, Bool.not_true, Bool.not_false, ne_eq, Decidable.not_not, Int.not_lt, Int.not_le, gt_iff_lt, ge_iff_le] at g4_9
        refine L_no rfl rfl rfl rfl ?_
        refine L_no rfl rfl rfl rfl ?_
        refine L_no rfl rfl rfl rfl ?_
        refine stp ?_
        first | exact WPL.jn rfl rfl sbb | exact WPL.jnI rfl rfl sbb Imp.pk
      · intro g4_9
        try simp only [decide_eq_true_eq, decide_eq_false_iff_not, beq_iff_eq, bne_iff_ne, beq_eq_false_iff_ne, bne_eq_false_iff_eq, Bool.not_eq_true', Bool.not_eq_false', Bool.not_eq_eq_eq_not, Bool.not_true, Bool.not_false, ne_eq, Decidable.not_not, Int.not_lt, Int.not_le, gt_iff_lt, ge_iff_le] at g4_9
        iterate 3 refine stpY rfl rfl ?_
        refine stp ?_
        first | exact WPL.jn rfl rfl sbb | exact WPL.jnI rfl rfl sbb Imp.pk
      refine stp ?_
      apply WPL.joinO (e' := [(0, _), (2, _), (3, _), (5, _), (6, _), (7, _), (8, _), (13, _), (14, _), (15, _), (16, _), (17, _), (18, _), (19, _), (20, _), (21, _), (22, _), (23, _), (24, _), (25, _), (26, _), (27, _), (28, _), (29, _), (30, _), (31, _), (32, _), (33, _), (34, _), (35, _), (36, _), (37, _), (38, _), (39, _), (40, _), (41, _), (42, _), (43, _), (44, _), (45, _), (46, _), (47, _), (49, _), (50, _), (57, _), (62, _)]) 63 70 7 rfl
      · intro g4_14
        try simp only [decide_eq_true_eq, decide_eq_false_iff_not, beq_iff_eq, bne_iff_ne, beq_eq_false_iff_ne, bne_eq_false_iff_eq, Bool.not_eq_true', Bool.not_eq_false', Bool.not_eq_eq_eq_not, Bool.not_true, Bool.not_false, ne_eq, Decidable.not_not, Int.not_lt, Int.not_le, gt_iff_lt, ge_iff_le] at g4_14
        refine L_no rfl rfl rfl rfl ?_
        refine L_no rfl rfl rfl rfl ?_
        refine L_no rfl rfl rfl rfl ?_
        refine L_no rfl rfl rfl rfl ?_
        refine L_no rfl rfl rfl rfl ?_
        refine L_no rfl rfl rfl rfl ?_
        refine stp ?_
        first | exact WPL.jn rfl rfl sbb | exact WPL.jnI rfl rfl sbb Imp.pk
      · intro g4_14
        try simp only [decide_eq_true_eq, decide_eq_false_iff_not, beq_iff_eq, bne_iff_ne, beq_eq_false_iff_ne, bne_eq_false_iff_eq, Bool.not_eq_true', Bool.not_eq_false', Bool.not_eq_eq_eq_not, Bool.not_true, Bool.not_false, ne_eq, Decidable.not_not, Int.not_lt, Int.not_le, gt_iff_lt, ge_iff_le] at g4_14
        iterate 6 refine stpY rfl rfl ?_
        refine stp ?_
        first | exact WPL.jn rfl rfl sbb | exact WPL.jnI rfl rfl sbb Imp.pk
      refine stp ?_
      refine WPL.nil ?_
      refine WPC.prune [(0, _), (2, _), (3, _), (5, _), (6, _), (7, _), (8, _), (13, _), (14, _), (15, _), (16, _), (17, _), (18, _), (19, _), (20, _), (21, _), (22, _), (23, _), (24, _), (25, _), (26, _), (27, _), (28, _), (29, _), (30, _), (31, _), (32, _), (33, _), (34, _), (35, _), (36, _), (37, _), (38, _), (39, _), (40, _), (41, _), (42, _), (43, _), (44, _), (45, _), (46, _), (47, _), (48, _), (49, _), (50, _), (57, _), (62, _), (70, _)] sbb ?_
      refine WPC.cond rfl (fun h1 => ?_) (fun h1 => ?_)
      · have hno : ¬ scanOk s.1 low (j.first + rk.length) j.epoch := by unfold scanOk; intro ⟨e1, e2, e3, e4⟩; rw [e1, e2] at h1; simp at h1; omega
        refine WPC.exit ?_
        refine blockQ_there (by decide) ?_
        refine thenQ_e ?_
        refine blockQ_there (by decide) ?_
        refine thenQ_e ?_
        refine blockQ_here ?_
        skip
        have hfin : rk.map jrP = scanL d j.at_ j.n j.epoch j.n j.low j.first := by rw [← hinv, scanL_no hr hno, List.append_nil]
        exact endR_n rfl .nil ((Imp.pk).trans (jour_close (b := b) (db := db) (j := (j.scanned d)) ⟨rk, la, lc⟩ ⟨hfin, hrok⟩ (Γ := [disk db d]))) ⟨rfl, rfl⟩
      · have hyes : scanOk s.1 low (j.first + rk.length) j.epoch := by simp at h1; obtain ⟨⟨⟨e1, e2⟩, e3⟩, e4⟩ := h1; exact ⟨e1, by omega, by omega, by omega⟩
        rw [scanL_yes hr hmax hyes] at hinv
        refine WPC.skip ?_
        refine blockQ_n ?_
        refine thenQ_n ?_
        refine WPC.seqR ?_
        iterate 2 refine stp ?_
        refine WPL.nil ?_
        refine WPC.prune [(0, _), (2, _), (3, _), (5, _), (6, _), (7, _), (8, _), (13, _), (14, _), (15, _), (16, _), (17, _), (18, _), (19, _), (20, _), (21, _), (22, _), (23, _), (24, _), (25, _), (26, _), (27, _), (28, _), (29, _), (30, _), (31, _), (32, _), (33, _), (34, _), (35, _), (36, _), (37, _), (38, _), (39, _), (40, _), (41, _), (42, _), (43, _), (44, _), (45, _), (46, _), (47, _), (48, _), (49, _), (50, _), (57, _), (62, _), (70, _), (71, _)] sbb ?_
        refine WPC.region ?_
        iterate 7 refine stp ?_
        refine L_s (q_build (cs := [_, _]) pl_journal_record rfl rfl) rfl ?_
        refine nwb [_, _] fun bE => ?_
        refine WPL.cons rfl (E1.wpo (e_append (m := 1) (news := encR (⟨pE s.1, ⟨pB s.1, a', (pB s.1).length, c'⟩⟩ : JR)) mk_sl_journal_record (by decide) rfl rfl pk1 (Rd.part (i := 0) (b := bE) (o := 0) (vs := encR (⟨pE s.1, ⟨pB s.1, a', (pB s.1).length, c'⟩⟩ : JR)) mm rfl rfl rfl) (by simp [Value.oneCell']) (by show rk.length + 1 ≤ _; omega) (by show (rk.length + 1) * _ ≤ _; omega)) rfl ?_)
        rintro _ _ ⟨a4, c4, rfl, -, rfl⟩
        have eb : rk.map (·.x) ++ [((⟨pE s.1, ⟨pB s.1, a', (pB s.1).length, c'⟩⟩ : JR)).x] = (rk ++ [(⟨pE s.1, ⟨pB s.1, a', (pB s.1).length, c'⟩⟩ : JR)]).map (·.x) := by simp
        have el : rk.length + 1 = (rk ++ [(⟨pE s.1, ⟨pB s.1, a', (pB s.1).length, c'⟩⟩ : JR)]).length := by simp
        refine WPL.putS ?_
        iterate 2 refine stp ?_
        refine sto ?_
        refine WPL.nil ?_
        refine blockQ_n ?_
        refine thenQ_n ?_
        have hby := bytes_snoc (xs := rk.map (·.x)) (x := ((⟨pE s.1, ⟨pB s.1, a', (pB s.1).length, c'⟩⟩ : JR)).x) (Γ := [cells true b 0 (jourC db ({ j with held := (rk ++ [(⟨pE s.1, ⟨pB s.1, a', (pB s.1).length, c'⟩⟩ : JR)]).map jrP } : JN) ⟨rk ++ [(⟨pE s.1, ⟨pB s.1, a', (pB s.1).length, c'⟩⟩ : JR)], a4, c4⟩), buf 2 a4 (rk ++ [(⟨pE s.1, ⟨pB s.1, a', (pB s.1).length, c'⟩⟩ : JR)]).length c4 (rk.flatMap encR ++ encR (⟨pE s.1, ⟨pB s.1, a', (pB s.1).length, c'⟩⟩ : JR)), disk db d, tblA])
        rw [eb, ← flat_snoc] at hby
        rw [el, ← flat_snoc]
        exact ⟨rfl, _, _, _, by simp only [List.length_append, List.length_singleton]; omega, ⟨rk ++ [(⟨pE s.1, ⟨pB s.1, a', (pB s.1).length, c'⟩⟩ : JR)], a4, c4, pE s.1, rfl, by simp; omega, hpS.2, by intro r hr; rcases List.mem_append.1 hr with hr | hr; exact hrok r hr; rw [List.mem_singleton.1 hr]; exact hb, by rw [← hinv]; simp [Nat.add_assoc], rfl, rfl⟩, sbb, ((Imp.pk (Δ := [((⟨pE s.1, ⟨pB s.1, a', (pB s.1).length, c'⟩⟩ : JR)).x.at_, bytes (rk.map (·.x)), cells true b 0 (jourC db ({ j with held := (rk ++ [(⟨pE s.1, ⟨pB s.1, a', (pB s.1).length, c'⟩⟩ : JR)]).map jrP } : JN) ⟨rk ++ [(⟨pE s.1, ⟨pB s.1, a', (pB s.1).length, c'⟩⟩ : JR)], a4, c4⟩), buf 2 a4 (rk ++ [(⟨pE s.1, ⟨pB s.1, a', (pB s.1).length, c'⟩⟩ : JR)]).length c4 ((rk ++ [(⟨pE s.1, ⟨pB s.1, a', (pB s.1).length, c'⟩⟩ : JR)]).flatMap encR), disk db d, tblA])).trans hby).trans Imp.pk⟩
    · have hmax : 4294967295 < j.first + rk.length := by simp at h0; omega
      refine WPC.exit ?_
      refine thenQ_e ?_
      refine thenQ_e ?_
      refine blockQ_here ?_
      skip
      have hfin : rk.map jrP = scanL d j.at_ j.n j.epoch j.n j.low j.first := by rw [← hinv, scanL_far hmax, List.append_nil]
      exact endR_n rfl .nil ((Imp.pk).trans (jour_close (b := b) (db := db) (j := (j.scanned d)) ⟨rk, la, lc⟩ ⟨hfin, hrok⟩ (Γ := [disk db d]))) ⟨rfl, rfl⟩
  · have hlt : rk.length = j.n := by simp at g1_10; omega
    refine WPA.takeN 11 rfl rfl rfl rfl rfl (by kernel_rfl) (by kernel_rfl) (by kernel_rfl) rfl (.cons (Ent.mem mm) (.cons (Ent.mem mm) (.nil _))) ?_
    refine WPA.putS ?_
    refine WPA.takeN 12 rfl rfl rfl rfl rfl (by kernel_rfl) (by kernel_rfl) (by kernel_rfl) rfl (.cons (Ent.mem mm) (.cons (Ent.mem mm) (.nil _))) ?_
    refine WPA.putS ?_
    refine WPA.takeN 13 rfl rfl rfl rfl rfl (by kernel_rfl) (by kernel_rfl) (by kernel_rfl) rfl (.cons (Ent.mem mm) (.cons (Ent.mem mm) (.nil _))) ?_
    refine WPA.putS ?_
    refine atP 14 rfl ?_
    refine WPA.done (by kernel_rfl) ?_
    refine WPC.cond rfl (fun h0 => ?_) (fun h0 => ?_)
    · skip
      simp at h0
    · skip
      refine WPC.exit ?_
      refine thenQ_e ?_
      refine thenQ_e ?_
      refine blockQ_here ?_
      skip
      have hfin : rk.map jrP = scanL d j.at_ j.n j.epoch j.n j.low j.first := by rw [← hinv, hlt, Nat.sub_self, scanL, List.append_nil]
      exact endR_n rfl .nil ((Imp.pk).trans (jour_close (b := b) (db := db) (j := (j.scanned d)) ⟨rk, la, lc⟩ ⟨hfin, hrok⟩ (Γ := [disk db d]))) ⟨rfl, rfl⟩

end Go.Sl
/- Walks: Open. -/
namespace Go.Sl
open Go Go.RowKit Go.Proofs
set_option linter.unusedSimpArgs false
set_option linter.unusedVariables false
attribute [local irreducible] faB szB ldB zB zL slB mkB arB plB intB cells objc star stars buf slv grp whole Sat WPC WPL WPA WPO WPQ Trip Q1 E1 S1 C1

theorem c_DLenD {b : Nat} {d : DK} : Trip Tryd.prog 60 #[.pointer (some ⟨b, 0, none⟩)] [disk b d] fun r Δ => r = .int .i64 (d.seen.length : Int) ∧ Δ = [disk b d] := by
  refine disk_open fun L hL => ?_
  refine Trip.start 8 [.tmp 2] [(0, .pointer (some ⟨b, 0, none⟩))] Tryd.func60 rfl Tryd.ntmps60 rfl ⟨rfl, trivial⟩ rfl ?_
  refine WPC.seqR ?_
  refine stp ?_
  refine WPL.nil ?_
  refine WPC.seqR ?_
  iterate 6 refine stp ?_
  refine WPL.nil ?_
  refine WPC.ret ?_
  exact endR_r rfl (.tmp rfl .nil) ((Imp.pk).trans (disk_close L hL (Γ := []))) ⟨rfl, rfl⟩

theorem c_Open {db : Nat} {d : DK} {at_ n : Nat} (hn : 1 ≤ n ∧ n ≤ 100) (hat : at_ + 2 + n ≤ d.seen.length) (hd : d.ok) (hpl : d.pend.length < 600000) : Trip Tryd.prog 35 #[.pointer (some ⟨db, 0, none⟩), .int .i64 (at_ : Int), .int .i64 (n : Int)] [disk db d, tblA] fun r Δ => match (jopen0 d at_ n).2.1 with | some j => (∃ (b : Nat) (a : Option Addr) (c : Nat) (ys : List BS), r = .tuple #[.pointer (some ⟨b, 0, none⟩), .slice a ys.length c, .int .i64 0] ∧ Sok 1 a ys.length c (ys.map bsV) ∧ ys.map BS.bs = j.held.map (·.2) ∧ (∀ y ∈ ys, y.ok) ∧ Δ = [jour b db j, disk db (jopen0 d at_ n).1, buf 1 a ys.length c (ys.map bsV), bytes ys]) | none => r = .tuple #[.pointer none, .slice none 0 0, .int .i64 (jopen0 d at_ n).2.2] ∧ Δ = [disk db (jopen0 d at_ n).1] := by
  have hdn := hd.n
  have hlt := last_lt d at_
  refine Trip.start 98 [.tmp 6, .tmp 7, .tmp 8] [(0, .pointer (some ⟨db, 0, none⟩)), (1, .int .i64 (at_ : Int)), (2, .int .i64 (n : Int))] Tryd.func35 rfl Tryd.ntmps35 rfl ⟨rfl, rfl, rfl, trivial⟩ rfl ?_
  refine WPC.seqR ?_
  iterate 3 refine stp ?_
  refine WPL.nil ?_
  refine WPC.seq ?_
  refine WPC.block ?_
  refine WPC.seqR ?_
  iterate 3 refine stp ?_
  apply WPL.joinO (e' := [(0, _), (1, _), (2, _), (6, _), (7, _), (8, _)]) 16 19 3 rfl
  · intro g1_2
    try simp only [decide_eq_true_eq, decide_eq_false_iff_not, beq_iff_eq, bne_iff_ne, beq_eq_false_iff_ne, bne_eq_false_iff_eq, Bool.not_eq_true', Bool.not_eq_false', Bool.not_eq_eq_eq_not, Bool.not_true, Bool.not_false, ne_eq, Decidable.not_not, Int.not_lt, Int.not_le, gt_iff_lt, ge_iff_le] at g1_2
    refine L_no rfl rfl rfl rfl ?_
    refine L_no rfl rfl rfl rfl ?_
    refine stp ?_
    first | exact WPL.jn rfl rfl sbb | exact WPL.jnI rfl rfl sbb Imp.pk
  · intro g1_2
    try simp only [decide_eq_true_eq, decide_eq_false_iff_not, beq_iff_eq, bne_iff_ne, beq_eq_false_iff_ne, bne_eq_false_iff_eq, Bool.not_eq_true', Bool.not_eq_false', Bool.not_eq_eq_eq_not, Bool.not_true, Bool.not_false, ne_eq, Decidable.not_not, Int.not_lt, Int.not_le, gt_iff_lt, ge_iff_le] at g1_2
    iterate 2 refine stpY rfl rfl ?_
    refine stp ?_
    first | exact WPL.jn rfl rfl sbb | exact WPL.jnI rfl rfl sbb Imp.pk
  refine stp ?_
  refine WPL.nil ?_
  refine WPC.cond rfl (fun h0 => ?_) (fun h0 => ?_)
  · try simp only [decide_eq_true_eq, decide_eq_false_iff_not, beq_iff_eq, bne_iff_ne, beq_eq_false_iff_ne, bne_eq_false_iff_eq, Bool.not_eq_true', Bool.not_eq_false', Bool.not_eq_eq_eq_not, Bool.not_true, Bool.not_false, ne_eq, Decidable.not_not, Int.not_lt, Int.not_le, gt_iff_lt, ge_iff_le] at h0
    simp at h0; omega
  · skip
    refine WPC.seqR ?_
    iterate 3 refine stp ?_
    apply WPL.joinO (e' := [(0, _), (1, _), (2, _), (6, _), (7, _), (8, _)]) 23 31 8 rfl
    · intro g3_2
      try simp only [decide_eq_true_eq, decide_eq_false_iff_not, beq_iff_eq, bne_iff_ne, beq_eq_false_iff_ne, bne_eq_false_iff_eq, Bool.not_eq_true', Bool.not_eq_false', Bool.not_eq_eq_eq_not, Bool.not_true, Bool.not_false, ne_eq, Decidable.not_not, Int.not_lt, Int.not_le, gt_iff_lt, ge_iff_le] at g3_2
      refine L_no rfl rfl rfl rfl ?_
      refine L_no rfl rfl rfl rfl ?_
      refine L_no rfl rfl rfl rfl ?_
      refine L_no rfl rfl rfl rfl ?_
      refine L_no rfl rfl rfl rfl ?_
      refine L_no rfl rfl rfl rfl ?_
      refine L_no rfl rfl rfl rfl ?_
      refine stp ?_
      first | exact WPL.jn rfl rfl sbb | exact WPL.jnI rfl rfl sbb Imp.pk
    · intro g3_2
      try simp only [decide_eq_true_eq, decide_eq_false_iff_not, beq_iff_eq, bne_iff_ne, beq_eq_false_iff_ne, bne_eq_false_iff_eq, Bool.not_eq_true', Bool.not_eq_false', Bool.not_eq_eq_eq_not, Bool.not_true, Bool.not_false, ne_eq, Decidable.not_not, Int.not_lt, Int.not_le, gt_iff_lt, ge_iff_le] at g3_2
      iterate 2 refine stpY rfl rfl ?_
      refine L_eyes rfl rfl rfl (C1.call (c_call Tryd.func60 rfl rfl rfl) c_DLenD pkk rfl ?_)
      rintro _ _ ⟨rfl, rfl⟩
      refine WPL.putS ?_
      iterate 4 refine stpY rfl rfl ?_
      refine stp ?_
      first | exact WPL.jn rfl rfl sbb | exact WPL.jnI rfl rfl sbb Imp.pk
    refine stp ?_
    refine WPL.nil ?_
    refine WPC.cond rfl (fun h1 => ?_) (fun h1 => ?_)
    · try simp only [decide_eq_true_eq, decide_eq_false_iff_not, beq_iff_eq, bne_iff_ne, beq_eq_false_iff_ne, bne_eq_false_iff_eq, Bool.not_eq_true', Bool.not_eq_false', Bool.not_eq_eq_eq_not, Bool.not_true, Bool.not_false, ne_eq, Decidable.not_not, Int.not_lt, Int.not_le, gt_iff_lt, ge_iff_le] at h1
      simp at h1; omega
    · skip
      refine WPC.skip ?_
      refine blockQ_n ?_
      refine thenQ_n ?_
      refine WPC.seqR ?_
      iterate 3 refine stp ?_
      refine L_s (q_build (cs := [_, _, _, _, _, _, _]) pl_journal_Journal rfl rfl) rfl ?_
      refine nw fun bj => ?_
      refine stp ?_
      refine WPL.nil ?_
      refine WPC.seq ?_
      refine WPC.seqR ?_
      iterate 2 refine stp ?_
      refine kall rfl (c_Load (i := (at_ : Int)) (by omega) hd) ?_
      rintro _ _ ⟨a, c, rfl, hb, rfl⟩
      iterate 7 refine stp ?_
      refine WPL.nil ?_
      refine WPC.seqR ?_
      iterate 3 refine stp ?_
      refine L_split 46 _ rfl (fun g7_2 => ?_) (fun g7_2 => ?_)
      · have hseq : (last d at_).seq ≠ 0 := by intro h; rw [h] at g7_2; simp at g7_2
        simp only [if_neg hseq] at hb ⊢
        iterate 2 refine stpY rfl rfl ?_
        refine L_eyes rfl rfl rfl (C1.call (c_call Tryd.func62 rfl rfl rfl) (c_meta (b := bj) (db := db) (j := JN.fresh at_ n) (L := ⟨[], none, 0⟩) hb (by omega)) pkk rfl ?_)
        rintro _ _ ⟨v, rfl, hv, rfl⟩
        refine WPL.putS ?_
        refine stpY rfl rfl ?_
        refine stp ?_
        refine WPL.nil ?_
        refine WPC.prune [(2, _), (6, _), (7, _), (8, _), (51, _)] sbb ?_
        refine WPC.cond rfl (fun h2 => ?_) (fun h2 => ?_)
        · have hv0 : v = false := by simpa using h2
          have hbad : ¬ ((last d at_).b.length = 12 ∧ 0 < num (last d at_).b 0 4 ∧ num (last d at_).b 8 4 ≤ num (last d at_).b 4 4) := fun h => by rw [hv.2 h] at hv0; cases hv0
          have hJ := jopen0_none (n := n) (begun_bad hseq hbad)
          refine WPC.seqR ?_
          iterate 3 refine stp ?_
          refine WPL.nil ?_
          refine WPC.ret ?_
          refine thenQ_r ?_
          rw [hJ]
          exact endR_r rfl (.tmp rfl (.tmp rfl (.tmp rfl .nil))) Imp.pk ⟨rfl, rfl⟩
        · have hv1 : v = true := by simpa using h2
          have hgood := hv.1 hv1
          refine WPC.imp (Imp.pk (Δ := [cells true bj 0 (jourC db ((JN.fresh at_ n).withMeta (last d at_).b) ⟨[], none, 0⟩), disk db d, tblA])) ?_
          obtain ⟨j0, hj0⟩ : ∃ j0, ((JN.fresh at_ n).withMeta (last d at_).b) = j0 := ⟨_, rfl⟩
          have hbg : JN.begun d at_ n = some j0 := by rw [← hj0]; exact begun_meta hseq hgood
          have hok0 : j0.ok d := by rw [← hj0]; exact meta_ok hn hat _
          have hh0 : j0.held = [] := by rw [← hj0]; rfl
          have hjn : j0.n = n := by rw [← hj0]; rfl
          have hja : j0.at_ = at_ := by rw [← hj0]; rfl
          rw [hj0]
          clear hj0
          refine WPC.skip ?_
          refine thenQ_n ?_
          refine WPC.seq ?_
          refine WPC.seqR ?_
          iterate 5 refine stp ?_
          refine WPL.nil ?_
          refine WPC.cond rfl (fun h3 => ?_) (fun h3 => ?_)
          · have he : j0.epoch = 4294967295 := by simp at h3; omega
            have hJ := jopen0_full hbg he
            refine WPC.seqR ?_
            iterate 3 refine stp ?_
            refine WPL.nil ?_
            refine WPC.ret ?_
            refine thenQ_r ?_
            rw [hJ]
            exact endR_r rfl (.tmp rfl (.tmp rfl (.tmp rfl .nil))) Imp.pk ⟨rfl, rfl⟩
          · have he : j0.epoch ≠ 4294967295 := by simp at h3; omega
            have hel := hok0.epoch
            refine WPC.skip ?_
            refine thenQ_n ?_
            refine WPC.seqR ?_
            refine stp ?_
            refine WPL.imp ((Imp.bufNil (sz := 2)).trans (bytes_nil.trans ((Imp.pk (Δ := [cells true bj 0 (jourC db j0 ⟨[], none, 0⟩), buf 2 none 0 0 (([] : List JR).flatMap encR), bytes (([] : List JR).map (·.x)), disk db d, tblA])).trans (jour_close (b := bj) (db := db) (j := j0) ⟨[], none, 0⟩ ⟨by rw [hh0]; rfl, by simp⟩ (Γ := [disk db d, tblA]))))) ?_
            refine kall rfl (c_scan hok0 hd (by omega) hh0) ?_
            rintro _ _ ⟨rfl, rfl⟩
            have hall := scanL_all (d := d) (at_ := j0.at_) (n := j0.n) (epoch := j0.epoch) j0.n j0.low j0.first
            refine WPL.nil ?_
            refine WPC.seq ?_
            refine WPC.seqR ?_
            have hok1 : (j0.scanned d).ok d := hok0.scanned
            have hall1 : ∀ x ∈ (j0.scanned d).held, x.1 < 4294967296 ∧ x.2.length ≤ 43 := hall.2
            have he1 : (j0.scanned d).epoch = j0.epoch := rfl
            have hn1 : (j0.scanned d).n = n := hjn
            have ha1 : (j0.scanned d).at_ = at_ := hja
            have hJerr := jopen0_err (n := n) hbg he
            have hJok := jopen0_ok (n := n) hbg he
            obtain ⟨j1, hj1⟩ : ∃ j1, j0.scanned d = j1 := ⟨_, rfl⟩
            rw [hj1] at hok1 hall1 he1 hn1 ha1 hJerr hJok ⊢
            refine WPL.imp (Imp.pk (Δ := [jour bj db j1, disk db d, tblA])) ?_
            refine WPL.exg (L := fun L => jourL bj db j1 L) fun L => WPL.pure fun hL => ?_
            obtain ⟨rs, la, lc⟩ := L
            obtain ⟨hheld, hrok⟩ := hL
            dsimp only at hheld hrok
            have hlen : rs.length = j1.held.length := by rw [← hheld, List.length_map]
            have hmx := hok1.held
            have hfx := hok1.first
            have hmod := Nat.mod_lt j1.next (show 0 < n by omega)
            obtain ⟨hd1, hdl, hdp⟩ := openD_ok hd j1 n
            obtain ⟨d1, hd1e⟩ : ∃ d1, openD d j1 n = d1 := ⟨_, rfl⟩
            rw [hd1e] at hd1 hdl hdp hJerr hJok
            iterate 7 refine stp ?_
            refine WPL.nil ?_
            refine WPC.midS (fun e Γ => e = [(6, .pointer (some ⟨bj, 0, none⟩))] ∧ Γ = [cells true bj 0 (jourC db j1 ⟨rs, la, lc⟩), buf 2 la rs.length lc (rs.flatMap encR), bytes (rs.map (·.x)), disk db d1, tblA]) ?_ ?_
            · refine WPC.cond rfl (fun h4 => ?_) (fun h4 => ?_)
              · have hl4 : j1.held.length < n := by simp at h4; omega
                have hd1t : (d.write ((j1.place j1.next : Nat) : Int) []).1 = d1 := by rw [← hd1e]; unfold openD; rw [if_pos hl4]
                refine WPC.draw mixed ?_
                refine atP 0 rfl ?_
                refine atP 1 rfl ?_
                refine atP 2 rfl ?_
                refine atL 3 rfl ?_
                refine atP 4 rfl ?_
                refine atP 5 rfl ?_
                refine atP 6 rfl ?_
                refine atL 7 rfl ?_
                refine atP 8 rfl ?_
                refine atP 9 rfl ?_
                refine atP 11 rfl ?_
                refine atP 12 rfl ?_
                refine WPA.oneE 10 [(7, [_]), (3, [_])] (by kernel_rfl) rfl rfl (by repeat (first | exact .nil | refine .anc rfl ?_ | refine .keep mm ?_)) (C1.call (c_call Tryd.func65 rfl rfl rfl) (c_next (b := bj) (db := db) (j := j1) (L := ⟨rs, la, lc⟩) hlen hfx (by omega)) pkk rfl ?_)
                rintro _ _ ⟨rfl, rfl⟩
                refine ⟨(.cons (Ent.mem mm) (.cons (Ent.mem mm) (.nil _))), ?_⟩
                refine WPA.putS ?_
                refine WPA.takeP 13 rfl (q_remNN (a := j1.next) (b := n) rfl rfl (by omega)) (by kernel_rfl) (by kernel_rfl) (by kernel_rfl) rfl rfl (.cons (Ent.mem mm) (.cons (Ent.mem mm) (.nil _))) ?_
                refine WPA.putS ?_
                refine atP 14 rfl ?_
                refine atP 15 rfl ?_
                rw [show (j1.at_ : Int) + 2 + ((j1.next % n : Nat) : Int) = ((j1.place j1.next : Nat) : Int) by simp [JN.place, hn1]]
                refine WPA.oneE 16 [] (by kernel_rfl) rfl rfl (by repeat (first | exact .nil | refine .anc rfl ?_ | refine .keep mm ?_)) (C1.call (c_call Tryd.func64 rfl rfl rfl) (c_WriteNil hd (by omega)) pkk rfl ?_)
                rintro _ _ ⟨rfl, rfl⟩
                rw [hd1t]
                refine ⟨(.nil _), ?_⟩
                refine WPA.putS ?_
                refine WPA.done (by kernel_rfl) ?_
                refine thenQ_n ?_
                exact ⟨rfl, _, _, ⟨rfl, rfl⟩, sbb, Imp.pk⟩
              · have hd1t : d = d1 := by rw [← hd1e]; unfold openD; rw [if_neg (by simp at h4; omega)]
                refine WPC.imp (show Imp _ [cells true bj 0 (jourC db j1 ⟨rs, la, lc⟩), buf 2 la rs.length lc (rs.flatMap encR), bytes (rs.map (·.x)), disk db d1, tblA] from hd1t ▸ Imp.pk) ?_
                refine WPC.skip ?_
                refine thenQ_n ?_
                exact ⟨rfl, _, _, ⟨rfl, rfl⟩, sbb, Imp.pk⟩
            · rintro e Γ ⟨rfl, rfl⟩
              refine WPC.seqR ?_
              iterate 4 refine stp ?_
              refine L_s (q_add32 (a := j1.epoch) (b := 1) rfl rfl) rfl ?_
              rw [Nat.mod_eq_of_lt (show j1.epoch + 1 < 4294967296 by omega)]
              iterate 2 refine stp ?_
              refine sto ?_
              refine WPL.nil ?_
              refine WPC.seq ?_
              refine WPC.seqR ?_
              refine stp ?_
              refine kall rfl (c_jsave (b := bj) (db := db) (j := openJ j1) (L := ⟨rs, la, lc⟩) (d := d1) ⟨by rw [show (openJ j1).n = n from hn1]; exact hn, by show j1.at_ + 2 + j1.n ≤ _; rw [hdl]; omega, hfx, by show j1.epoch + 1 < _; omega, hok1.low, hmx, hok1.eps⟩ hd1 (by omega)) ?_
              rintro _ _ ⟨rfl, rfl⟩
              refine stp ?_
              refine WPL.nil ?_
              refine WPC.seqR ?_
              iterate 2 refine stp ?_
              refine WPL.nil ?_
              refine WPC.cond rfl (fun h5 => ?_) (fun h5 => ?_)
              · have hne : (jsave d1 (openJ j1)).2 ≠ 0 := by simpa using h5
                have hJ := hJerr hne
                refine WPC.seqR ?_
                iterate 4 refine stp ?_
                refine WPL.nil ?_
                refine WPC.ret ?_
                refine thenQ_r ?_
                rw [hJ]
                exact endR_r rfl (.tmp rfl (.tmp rfl (.tmp rfl .nil))) Imp.pk ⟨rfl, rfl⟩
              · have hz : (jsave d1 (openJ j1)).2 = 0 := by simpa using h5
                have hJ := hJok hz
                refine WPC.skip ?_
                refine thenQ_n ?_
                refine WPC.seqR ?_
                iterate 2 refine stp ?_
                refine WPL.imp (Imp.pk (Δ := [buf 2 la rs.length lc (rs.flatMap encR), cells true bj 0 (jourC db (openJ j1) ⟨rs, la, lc⟩), bytes (rs.map (·.x)), disk db (jsave d1 (openJ j1)).1])) ?_
                refine WPL.bufOpen fun sp hsb hsp => ?_
                refine kall rfl (c_All_ (b := bj) (db := db) (j := openJ j1) (L := ⟨rs, la, lc⟩) ⟨hheld, hrok⟩ (by show rs.length ≤ _; omega) (fun r hr => Nat.le_trans (hall1 (jrP r) (by rw [← hheld]; exact List.mem_map.2 ⟨r, hr, rfl⟩)).2 (by omega)) hsb) ?_
                rintro _ _ ⟨a2, c2, ys, rfl, hsy, hye, hyo, rfl⟩
                iterate 3 refine stp ?_
                refine WPL.nil ?_
                refine WPC.ret ?_
                rw [hJ]
                exact endR_r rfl (.tmp rfl (.tmp rfl (.tmp rfl .nil))) ((Imp.pk (Δ := [sl true la (rs.flatMap encR), cells true (blk la) (off la + (rs.flatMap encR).length) sp, cells true bj 0 (jourC db (openJ j1) ⟨rs, la, lc⟩), bytes (rs.map (·.x)), disk db (jsave d1 (openJ j1)).1, buf 1 a2 ys.length c2 (ys.map bsV), bytes ys])).trans ((Imp.bufClose hsb hsp).trans ((Imp.pk).trans (jour_close (b := bj) (db := db) (j := openJ j1) ⟨rs, la, lc⟩ ⟨hheld, hrok⟩ (Γ := [disk db (jsave d1 (openJ j1)).1, buf 1 a2 ys.length c2 (ys.map bsV), bytes ys]))))) ⟨bj, a2, c2, ys, rfl, hsy, hye, hyo, rfl⟩
      · have hseq : (last d at_).seq = 0 := by
          rcases Nat.eq_zero_or_pos (last d at_).seq with h | h
          · exact h
          · rw [if_neg (by omega)] at g7_2; simp at g7_2
        refine L_no rfl rfl rfl rfl ?_
        refine L_no rfl rfl rfl rfl ?_
        refine L_no rfl rfl rfl rfl ?_
        refine L_no rfl rfl rfl rfl ?_
        refine stp ?_
        refine WPL.nil ?_
        refine WPC.prune [(2, _), (6, _), (7, _), (8, _), (51, _)] sbb ?_
        refine WPC.cond rfl (fun h2 => ?_) (fun h2 => ?_)
        · skip
          simp at h2
        · refine WPC.imp (Imp.pk (Δ := [cells true bj 0 (jourC db (JN.fresh at_ n) ⟨[], none, 0⟩), disk db d, tblA])) ?_
          obtain ⟨j0, hj0⟩ : ∃ j0, (JN.fresh at_ n) = j0 := ⟨_, rfl⟩
          have hbg : JN.begun d at_ n = some j0 := by rw [← hj0]; exact begun_zero hseq
          have hok0 : j0.ok d := by rw [← hj0]; exact fresh_ok hn hat
          have hh0 : j0.held = [] := by rw [← hj0]; rfl
          have hjn : j0.n = n := by rw [← hj0]; rfl
          have hja : j0.at_ = at_ := by rw [← hj0]; rfl
          rw [hj0]
          clear hj0
          refine WPC.skip ?_
          refine thenQ_n ?_
          refine WPC.seq ?_
          refine WPC.seqR ?_
          iterate 5 refine stp ?_
          refine WPL.nil ?_
          refine WPC.cond rfl (fun h3 => ?_) (fun h3 => ?_)
          · have he : j0.epoch = 4294967295 := by simp at h3; omega
            have hJ := jopen0_full hbg he
            refine WPC.seqR ?_
            iterate 3 refine stp ?_
            refine WPL.nil ?_
            refine WPC.ret ?_
            refine thenQ_r ?_
            rw [hJ]
            exact endR_r rfl (.tmp rfl (.tmp rfl (.tmp rfl .nil))) Imp.pk ⟨rfl, rfl⟩
          · have he : j0.epoch ≠ 4294967295 := by simp at h3; omega
            have hel := hok0.epoch
            refine WPC.skip ?_
            refine thenQ_n ?_
            refine WPC.seqR ?_
            refine stp ?_
            refine WPL.imp ((Imp.bufNil (sz := 2)).trans (bytes_nil.trans ((Imp.pk (Δ := [cells true bj 0 (jourC db j0 ⟨[], none, 0⟩), buf 2 none 0 0 (([] : List JR).flatMap encR), bytes (([] : List JR).map (·.x)), disk db d, tblA])).trans (jour_close (b := bj) (db := db) (j := j0) ⟨[], none, 0⟩ ⟨by rw [hh0]; rfl, by simp⟩ (Γ := [disk db d, tblA]))))) ?_
            refine kall rfl (c_scan hok0 hd (by omega) hh0) ?_
            rintro _ _ ⟨rfl, rfl⟩
            have hall := scanL_all (d := d) (at_ := j0.at_) (n := j0.n) (epoch := j0.epoch) j0.n j0.low j0.first
            refine WPL.nil ?_
            refine WPC.seq ?_
            refine WPC.seqR ?_
            have hok1 : (j0.scanned d).ok d := hok0.scanned
            have hall1 : ∀ x ∈ (j0.scanned d).held, x.1 < 4294967296 ∧ x.2.length ≤ 43 := hall.2
            have he1 : (j0.scanned d).epoch = j0.epoch := rfl
            have hn1 : (j0.scanned d).n = n := hjn
            have ha1 : (j0.scanned d).at_ = at_ := hja
            have hJerr := jopen0_err (n := n) hbg he
            have hJok := jopen0_ok (n := n) hbg he
            obtain ⟨j1, hj1⟩ : ∃ j1, j0.scanned d = j1 := ⟨_, rfl⟩
            rw [hj1] at hok1 hall1 he1 hn1 ha1 hJerr hJok ⊢
            refine WPL.imp (Imp.pk (Δ := [jour bj db j1, disk db d, tblA])) ?_
            refine WPL.exg (L := fun L => jourL bj db j1 L) fun L => WPL.pure fun hL => ?_
            obtain ⟨rs, la, lc⟩ := L
            obtain ⟨hheld, hrok⟩ := hL
            dsimp only at hheld hrok
            have hlen : rs.length = j1.held.length := by rw [← hheld, List.length_map]
            have hmx := hok1.held
            have hfx := hok1.first
            have hmod := Nat.mod_lt j1.next (show 0 < n by omega)
            obtain ⟨hd1, hdl, hdp⟩ := openD_ok hd j1 n
            obtain ⟨d1, hd1e⟩ : ∃ d1, openD d j1 n = d1 := ⟨_, rfl⟩
            rw [hd1e] at hd1 hdl hdp hJerr hJok
            iterate 7 refine stp ?_
            refine WPL.nil ?_
            refine WPC.midS (fun e Γ => e = [(6, .pointer (some ⟨bj, 0, none⟩))] ∧ Γ = [cells true bj 0 (jourC db j1 ⟨rs, la, lc⟩), buf 2 la rs.length lc (rs.flatMap encR), bytes (rs.map (·.x)), disk db d1, tblA]) ?_ ?_
            · refine WPC.cond rfl (fun h4 => ?_) (fun h4 => ?_)
              · have hl4 : j1.held.length < n := by simp at h4; omega
                have hd1t : (d.write ((j1.place j1.next : Nat) : Int) []).1 = d1 := by rw [← hd1e]; unfold openD; rw [if_pos hl4]
                refine WPC.draw mixed ?_
                refine atP 0 rfl ?_
                refine atP 1 rfl ?_
                refine atP 2 rfl ?_
                refine atL 3 rfl ?_
                refine atP 4 rfl ?_
                refine atP 5 rfl ?_
                refine atP 6 rfl ?_
                refine atL 7 rfl ?_
                refine atP 8 rfl ?_
                refine atP 9 rfl ?_
                refine atP 11 rfl ?_
                refine atP 12 rfl ?_
                refine WPA.oneE 10 [(7, [_]), (3, [_])] (by kernel_rfl) rfl rfl (by repeat (first | exact .nil | refine .anc rfl ?_ | refine .keep mm ?_)) (C1.call (c_call Tryd.func65 rfl rfl rfl) (c_next (b := bj) (db := db) (j := j1) (L := ⟨rs, la, lc⟩) hlen hfx (by omega)) pkk rfl ?_)
                rintro _ _ ⟨rfl, rfl⟩
                refine ⟨(.cons (Ent.mem mm) (.cons (Ent.mem mm) (.nil _))), ?_⟩
                refine WPA.putS ?_
                refine WPA.takeP 13 rfl (q_remNN (a := j1.next) (b := n) rfl rfl (by omega)) (by kernel_rfl) (by kernel_rfl) (by kernel_rfl) rfl rfl (.cons (Ent.mem mm) (.cons (Ent.mem mm) (.nil _))) ?_
                refine WPA.putS ?_
                refine atP 14 rfl ?_
                refine atP 15 rfl ?_
                rw [show (j1.at_ : Int) + 2 + ((j1.next % n : Nat) : Int) = ((j1.place j1.next : Nat) : Int) by simp [JN.place, hn1]]
                refine WPA.oneE 16 [] (by kernel_rfl) rfl rfl (by repeat (first | exact .nil | refine .anc rfl ?_ | refine .keep mm ?_)) (C1.call (c_call Tryd.func64 rfl rfl rfl) (c_WriteNil hd (by omega)) pkk rfl ?_)
                rintro _ _ ⟨rfl, rfl⟩
                rw [hd1t]
                refine ⟨(.nil _), ?_⟩
                refine WPA.putS ?_
                refine WPA.done (by kernel_rfl) ?_
                refine thenQ_n ?_
                exact ⟨rfl, _, _, ⟨rfl, rfl⟩, sbb, Imp.pk⟩
              · have hd1t : d = d1 := by rw [← hd1e]; unfold openD; rw [if_neg (by simp at h4; omega)]
                refine WPC.imp (show Imp _ [cells true bj 0 (jourC db j1 ⟨rs, la, lc⟩), buf 2 la rs.length lc (rs.flatMap encR), bytes (rs.map (·.x)), disk db d1, tblA] from hd1t ▸ Imp.pk) ?_
                refine WPC.skip ?_
                refine thenQ_n ?_
                exact ⟨rfl, _, _, ⟨rfl, rfl⟩, sbb, Imp.pk⟩
            · rintro e Γ ⟨rfl, rfl⟩
              refine WPC.seqR ?_
              iterate 4 refine stp ?_
              refine L_s (q_add32 (a := j1.epoch) (b := 1) rfl rfl) rfl ?_
              rw [Nat.mod_eq_of_lt (show j1.epoch + 1 < 4294967296 by omega)]
              iterate 2 refine stp ?_
              refine sto ?_
              refine WPL.nil ?_
              refine WPC.seq ?_
              refine WPC.seqR ?_
              refine stp ?_
              refine kall rfl (c_jsave (b := bj) (db := db) (j := openJ j1) (L := ⟨rs, la, lc⟩) (d := d1) ⟨by rw [show (openJ j1).n = n from hn1]; exact hn, by show j1.at_ + 2 + j1.n ≤ _; rw [hdl]; omega, hfx, by show j1.epoch + 1 < _; omega, hok1.low, hmx, hok1.eps⟩ hd1 (by omega)) ?_
              rintro _ _ ⟨rfl, rfl⟩
              refine stp ?_
              refine WPL.nil ?_
              refine WPC.seqR ?_
              iterate 2 refine stp ?_
              refine WPL.nil ?_
              refine WPC.cond rfl (fun h5 => ?_) (fun h5 => ?_)
              · have hne : (jsave d1 (openJ j1)).2 ≠ 0 := by simpa using h5
                have hJ := hJerr hne
                refine WPC.seqR ?_
                iterate 4 refine stp ?_
                refine WPL.nil ?_
                refine WPC.ret ?_
                refine thenQ_r ?_
                rw [hJ]
                exact endR_r rfl (.tmp rfl (.tmp rfl (.tmp rfl .nil))) Imp.pk ⟨rfl, rfl⟩
              · have hz : (jsave d1 (openJ j1)).2 = 0 := by simpa using h5
                have hJ := hJok hz
                refine WPC.skip ?_
                refine thenQ_n ?_
                refine WPC.seqR ?_
                iterate 2 refine stp ?_
                refine WPL.imp (Imp.pk (Δ := [buf 2 la rs.length lc (rs.flatMap encR), cells true bj 0 (jourC db (openJ j1) ⟨rs, la, lc⟩), bytes (rs.map (·.x)), disk db (jsave d1 (openJ j1)).1])) ?_
                refine WPL.bufOpen fun sp hsb hsp => ?_
                refine kall rfl (c_All_ (b := bj) (db := db) (j := openJ j1) (L := ⟨rs, la, lc⟩) ⟨hheld, hrok⟩ (by show rs.length ≤ _; omega) (fun r hr => Nat.le_trans (hall1 (jrP r) (by rw [← hheld]; exact List.mem_map.2 ⟨r, hr, rfl⟩)).2 (by omega)) hsb) ?_
                rintro _ _ ⟨a2, c2, ys, rfl, hsy, hye, hyo, rfl⟩
                iterate 3 refine stp ?_
                refine WPL.nil ?_
                refine WPC.ret ?_
                rw [hJ]
                exact endR_r rfl (.tmp rfl (.tmp rfl (.tmp rfl .nil))) ((Imp.pk (Δ := [sl true la (rs.flatMap encR), cells true (blk la) (off la + (rs.flatMap encR).length) sp, cells true bj 0 (jourC db (openJ j1) ⟨rs, la, lc⟩), bytes (rs.map (·.x)), disk db (jsave d1 (openJ j1)).1, buf 1 a2 ys.length c2 (ys.map bsV), bytes ys])).trans ((Imp.bufClose hsb hsp).trans ((Imp.pk).trans (jour_close (b := bj) (db := db) (j := openJ j1) ⟨rs, la, lc⟩ ⟨hheld, hrok⟩ (Γ := [disk db (jsave d1 (openJ j1)).1, buf 1 a2 ys.length c2 (ys.map bsV), bytes ys]))))) ⟨bj, a2, c2, ys, rfl, hsy, hye, hyo, rfl⟩

end Go.Sl
/- Walks: bytes in lists, heads, records. -/
namespace Go.Sl
open Go Go.RowKit Go.Proofs
set_option linter.unusedSimpArgs false
set_option linter.unusedVariables false
attribute [local irreducible] faB szB ldB zB zL slB mkB arB plB intB cells objc star stars buf slv grp whole Sat WPC WPL WPA WPO WPQ Trip Q1 E1 S1 C1

theorem c_WBytes {p : Bool} {b o : Nat} {xs ys : List By} {a : Option Addr} {c : Nat} (hy : Sok 1 a ys.length c (ys.map u8)) (hyl : ys.length ≤ 900) (hx : xs.length ≤ 900) : Trip Tryd.prog 82 #[.pointer (some ⟨b, o, none⟩), .slice a ys.length c] [wr b o xs, sl p a (ys.map u8)] fun r Δ => r = .tuple #[] ∧ Δ = [wr b o (xs ++ (le ys.length 2 ++ ys)), sl p a (ys.map u8)] := by
  have hcap := hy.cap
  refine Trip.start 23 [] [(0, .pointer (some ⟨b, o, none⟩)), (1, .slice a ys.length c)] Tryd.func82 rfl Tryd.ntmps82 rfl ⟨rfl, rfl, trivial⟩ rfl ?_
  refine WPC.seqR ?_
  iterate 4 refine stp ?_
  rw [show min ((ys.length : Nat) : Int) 1000 = ((ys.length : Nat) : Int) by omega]
  refine L_s (q_sliceHi (j := ys.length) sl_sl_uint8 rfl rfl hcap) rfl ?_
  refine stp ?_
  refine WPL.nil ?_
  refine WPC.seqR ?_
  iterate 4 refine stp ?_
  refine kall rfl (c_WNumber (xs := xs) (v := ys.length) (k := 2) (by omega) (by omega)) ?_
  rintro _ _ ⟨rfl, rfl⟩
  refine WPL.nil ?_
  refine WPC.region ?_
  refine WPL.imp (Imp.pk (Δ := [wr b o (xs ++ le ys.length 2), sl p a (ys.map u8)])) ?_
  refine WPL.exg (L := fun L => wrL b o (xs ++ le ys.length 2) L) fun L => ?_
  obtain ⟨la, ln, lc⟩ := L
  refine WPL.bufFact mm fun hs2 => ?_
  have hln : ln = xs.length + 2 := by have := hs2.len; simp [le_length] at this; omega
  iterate 6 refine stp ?_
  refine WPL.cons rfl (E1.wpo (e_append (n := ln) (c := lc) (a := la) (m := ys.length) (news := ys.map u8) mk_sl_uint8 (by decide) rfl rfl pk1 (Rd.mem hy (hy.none0 (by omega)) (p := p) mm) (u8_one _) (by omega) (by omega)) rfl ?_)
  rintro _ _ ⟨a3, c3, rfl, -, rfl⟩
  rw [show (xs ++ le ys.length 2).map u8 ++ ys.map u8 = (xs ++ (le ys.length 2 ++ ys)).map u8 by simp]
  refine WPL.putS ?_
  iterate 2 refine stp ?_
  refine sto ?_
  refine WPL.nil ?_
  exact endR_n rfl .nil ((Imp.pk).trans (wr_close (b := b) (o := o) (xs := xs ++ (le ys.length 2 ++ ys)) a3 (ln + ys.length) c3 (Γ := [sl p a (ys.map u8)]))) ⟨rfl, rfl⟩

theorem c_RNumL {b o v k : Nat} {ys : List By} (hk : 1 ≤ k ∧ k ≤ 8) (hx : k + ys.length < 1000000) (hv : v < 2 ^ (8 * k)) : Trip Tryd.prog 69 #[.pointer (some ⟨b, o, none⟩), .int .i64 (k : Int)] [rd b o (le v k ++ ys) false] fun r Δ => r = .int .u64 ((v : Nat) : Int) ∧ Δ = [rd b o ys false] := by
  have h := c_RNumber (b := b) (o := o) (k := k) (xs := le v k ++ ys) (sh := false) hk (by rw [List.length_append, le_length]; exact hx)
  rw [rtake_le] at h
  dsimp only at h
  rw [ofLE_le, Nat.mod_eq_of_lt hv] at h
  exact h
theorem c_takeL {b o k : Nat} {xs ys : List By} (hk : xs.length = k) (hx : k + ys.length < 1000000) : Trip Tryd.prog 88 #[.pointer (some ⟨b, o, none⟩), .int .i64 (k : Int)] [rd b o (xs ++ ys) false] fun r Δ => ∃ a c, r = .slice a k c ∧ Sok 1 a k c (xs.map u8) ∧ Δ = [rd b o ys false, sl false a (xs.map u8)] := by
  have h := c_take (b := b) (o := o) (k := k) (xs := xs ++ ys) (sh := false) (by omega) (by rw [List.length_append, hk]; exact hx)
  rw [show rtake (xs ++ ys) false k = (xs, ys, false) from hk ▸ rtake_app xs ys] at h
  dsimp only at h
  rw [hk] at h
  exact h

theorem c_RBytes {b o k : Nat} {xs ys : List By} (hk : xs.length = k) (hx : k ≤ 1000) (hy : ys.length < 900000) : Trip Tryd.prog 71 #[.pointer (some ⟨b, o, none⟩)] [rd b o (le k 2 ++ (xs ++ ys)) false] fun r Δ => ∃ a c, r = .slice a k c ∧ Sok 1 a k c (xs.map u8) ∧ Δ = [rd b o ys false, sl false a (xs.map u8)] := by
  refine Trip.start 19 [.tmp 2] [(0, .pointer (some ⟨b, o, none⟩))] Tryd.func71 rfl Tryd.ntmps71 rfl ⟨rfl, trivial⟩ rfl ?_
  refine WPC.seqR ?_
  refine stp ?_
  refine WPL.nil ?_
  refine WPC.seqR ?_
  refine stp ?_
  refine kall rfl (c_RNumL (v := k) (k := 2) (ys := xs ++ ys) (by omega) (by rw [List.length_append]; omega) (by omega)) ?_
  rintro _ _ ⟨rfl, rfl⟩
  iterate 2 refine stp ?_
  refine WPL.nil ?_
  refine WPC.seq ?_
  refine WPC.seqR ?_
  iterate 2 refine stp ?_
  refine WPL.nil ?_
  refine WPC.cond rfl (fun h0 => ?_) (fun h0 => ?_)
  · try simp only [decide_eq_true_eq, decide_eq_false_iff_not, beq_iff_eq, bne_iff_ne, beq_eq_false_iff_ne, bne_eq_false_iff_eq, Bool.not_eq_true', Bool.not_eq_false', Bool.not_eq_eq_eq_not, Bool.not_true, Bool.not_false, ne_eq, Decidable.not_not, Int.not_lt, Int.not_le, gt_iff_lt, ge_iff_le] at h0
    omega
  · skip
    refine WPC.skip ?_
    refine thenQ_n ?_
    refine WPC.seqR ?_
    iterate 2 refine stp ?_
    refine kall rfl (c_takeL (ys := ys) hk (by omega)) ?_
    rintro _ _ ⟨a, c, rfl, hs, rfl⟩
    refine kall rfl (c_CloneB hs (by omega)) ?_
    rintro _ _ ⟨a2, c2, rfl, rfl⟩
    refine WPL.bufRo fun hs2 => ?_
    refine stp ?_
    refine WPL.nil ?_
    refine WPC.ret ?_
    exact endR_r rfl (.tmp rfl .nil) Imp.pk ⟨a2, c2, rfl, hs2, rfl⟩

theorem c_head (s : SV) (hv : -1 ≤ s.vote ∧ s.vote < 1000) : Trip Tryd.prog 48 #[.agg (stV s).toArray] [] fun r Δ => ∃ a c, r = .slice a (headB s.ks).length c ∧ Sok 1 a (headB s.ks).length c ((headB s.ks).map u8) ∧ Δ = [sl false a ((headB s.ks).map u8)] := by
  have hvn : s.vote + 1 = (((s.vote + 1).toNat : Nat) : Int) := by omega
  have hhl := headB_len s.ks
  refine Trip.start 21 [.tmp 2] [(0, .agg (stV s).toArray)] Tryd.func48 rfl Tryd.ntmps48 rfl ⟨rfl, trivial⟩ rfl ?_
  refine WPC.seqR ?_
  refine nw fun b1 => ?_
  refine stp ?_
  refine WPL.nil ?_
  refine WPC.seqR ?_
  refine nw fun bW => ?_
  refine WPL.nil ?_
  refine WPC.imp (Imp.bufNil (sz := 1)) ?_
  refine WPC.imp ((Imp.pk (Δ := [cells true bW 0 [.slice none 0 0], buf 1 none 0 0 (([] : List By).map u8), cells true b1 0 (stV s)])).trans (wr_close (b := bW) (o := 0) (xs := []) none 0 0 (Γ := [cells true b1 0 (stV s)]))) ?_
  refine WPC.seqR ?_
  iterate 2 refine stp ?_
  refine kall rfl (c_WNumber (xs := []) (v := s.term) (k := 8) (by omega) (by simp [le_length])) ?_
  rintro _ _ ⟨rfl, rfl⟩
  rw [List.nil_append]
  refine WPL.nil ?_
  refine WPC.seqR ?_
  iterate 3 refine stp ?_
  rw [hvn]
  refine stp ?_
  refine kall rfl (c_WNumber (xs := le s.term 8) (v := (s.vote + 1).toNat) (k := 1) (by omega) (by simp [le_length])) ?_
  rintro _ _ ⟨rfl, rfl⟩
  refine WPL.nil ?_
  refine WPC.seqR ?_
  iterate 3 refine stp ?_
  refine kall rfl (c_WNumber (xs := le s.term 8 ++ le (s.vote + 1).toNat 1) (v := s.base) (k := 8) (by omega) (by simp [le_length])) ?_
  rintro _ _ ⟨rfl, rfl⟩
  refine WPL.nil ?_
  refine WPC.seqR ?_
  iterate 3 refine stp ?_
  refine kall rfl (c_WNumber (xs := le s.term 8 ++ le (s.vote + 1).toNat 1 ++ le s.base 8) (v := s.bt) (k := 8) (by omega) (by simp [le_length])) ?_
  rintro _ _ ⟨rfl, rfl⟩
  refine WPL.nil ?_
  refine WPC.seqR ?_
  refine kall rfl (show Trip _ _ _ [wr bW 0 (headB s.ks)] (fun r Δ => ∃ a c, r = .slice a (headB s.ks).length c ∧ Sok 1 a (headB s.ks).length c ((headB s.ks).map u8) ∧ Δ = [sl false a ((headB s.ks).map u8), wr bW 0 (headB s.ks)]) from c_WOut (xs := headB s.ks) (by omega)) ?_
  rintro _ _ ⟨a, c, rfl, hs, rfl⟩
  refine stp ?_
  refine WPL.nil ?_
  refine WPC.ret ?_
  exact endR_r rfl (.tmp rfl .nil) Imp.pk ⟨a, c, rfl, hs, rfl⟩

theorem c_recB (r : RR) (hk : 0 ≤ r.x.k ∧ r.x.k ≤ 255) (hb : r.x.b.ok) (hl : r.x.b.bs.length ≤ 900) : Trip Tryd.prog 58 #[.agg (encRR r).toArray] [r.x.b.at_] fun v Δ => ∃ a c, v = .slice a (recB r.pl).length c ∧ Sok 1 a (recB r.pl).length c ((recB r.pl).map u8) ∧ Δ = [sl false a ((recB r.pl).map u8)] := by
  have hkn : r.x.k = ((r.x.k.toNat : Nat) : Int) := by omega
  have hrl := recB_len r.pl
  have hrl2 : r.pl.2.b.length = r.x.b.bs.length := rfl
  have hbn := hb.n
  have hb2 : Sok 1 r.x.b.a r.x.b.bs.length r.x.b.c (r.x.b.bs.map u8) := hbn ▸ hb
  refine Trip.start 21 [.tmp 2] [(0, .agg (encRR r).toArray)] Tryd.func58 rfl Tryd.ntmps58 rfl ⟨rfl, trivial⟩ rfl ?_
  refine WPC.seqR ?_
  refine nw fun b1 => ?_
  refine stp ?_
  refine WPL.nil ?_
  refine WPC.seqR ?_
  refine nw fun bW => ?_
  refine WPL.nil ?_
  refine WPC.imp (Imp.bufNil (sz := 1)) ?_
  refine WPC.imp ((Imp.pk (Δ := [cells true bW 0 [.slice none 0 0], buf 1 none 0 0 (([] : List By).map u8), cells true b1 0 (encRR r), r.x.b.at_])).trans (wr_close (b := bW) (o := 0) (xs := []) none 0 0 (Γ := [cells true b1 0 (encRR r), r.x.b.at_]))) ?_
  refine WPC.seqR ?_
  iterate 2 refine stp ?_
  refine kall rfl (c_WNumber (xs := []) (v := r.at_) (k := 8) (by omega) (by simp [le_length])) ?_
  rintro _ _ ⟨rfl, rfl⟩
  rw [List.nil_append]
  refine WPL.nil ?_
  refine WPC.seqR ?_
  iterate 3 refine stp ?_
  refine kall rfl (c_WNumber (xs := le r.at_ 8) (v := r.x.t) (k := 8) (by omega) (by simp [le_length])) ?_
  rintro _ _ ⟨rfl, rfl⟩
  refine WPL.nil ?_
  refine WPC.seqR ?_
  iterate 3 refine stp ?_
  rw [hkn]
  refine stp ?_
  refine kall rfl (c_WNumber (xs := le r.at_ 8 ++ le r.x.t 8) (v := r.x.k.toNat) (k := 1) (by omega) (by simp [le_length])) ?_
  rintro _ _ ⟨rfl, rfl⟩
  refine WPL.nil ?_
  refine WPC.seqR ?_
  iterate 3 refine stp ?_
  rw [show bsV r.x.b = Value.slice r.x.b.a r.x.b.bs.length r.x.b.c by rw [← hbn]]
  refine kall rfl (c_WBytes (p := false) (xs := le r.at_ 8 ++ le r.x.t 8 ++ le r.x.k.toNat 1) hb2 hl (by simp [le_length])) ?_
  rintro _ _ ⟨rfl, rfl⟩
  refine WPL.nil ?_
  refine WPC.seqR ?_
  refine kall rfl (show Trip _ _ _ [wr bW 0 (recB r.pl)] (fun v Δ => ∃ a c, v = .slice a (recB r.pl).length c ∧ Sok 1 a (recB r.pl).length c ((recB r.pl).map u8) ∧ Δ = [sl false a ((recB r.pl).map u8), wr bW 0 (recB r.pl)]) from c_WOut (xs := (recB r.pl)) (by omega)) ?_
  rintro _ _ ⟨a, c, rfl, hs, rfl⟩
  refine stp ?_
  refine WPL.nil ?_
  refine WPC.ret ?_
  exact endR_r rfl (.tmp rfl .nil) Imp.pk ⟨a, c, rfl, hs, rfl⟩

theorem c_Equal {p q : Bool} {a a2 : Option Addr} {c c2 n n2 : Nat} {xs ys : List By} (hs : Sok 1 a n c (xs.map u8)) (hs2 : Sok 1 a2 n2 c2 (ys.map u8)) : Trip Tryd.prog 49 #[.slice a n c, .slice a2 n2 c2] [sl p a (xs.map u8), sl q a2 (ys.map u8)] fun r Δ => r = .bool (decide (xs = ys)) ∧ Δ = [sl p a (xs.map u8), sl q a2 (ys.map u8)] := by
  refine Trip.start 10 [.tmp 4] [(0, .slice a n c), (1, .slice a2 n2 c2)] Tryd.func49 rfl Tryd.ntmps49 rfl ⟨rfl, rfl, trivial⟩ rfl ?_
  refine WPC.seqR ?_
  refine stp ?_
  refine WPL.nil ?_
  refine WPC.seqR ?_
  refine stp ?_
  refine L_s (q_bytesStr (p := p) un_sl_uint8 un_uint8 un_string hs mm rfl) rfl ?_
  refine stp ?_
  refine L_s (q_bytesStr (p := q) un_sl_uint8 un_uint8 un_string hs2 mm rfl) rfl ?_
  refine L_s (q_strEq rfl rfl) rfl ?_
  refine stp ?_
  refine WPL.nil ?_
  refine WPC.ret ?_
  exact endR_r rfl (.tmp rfl .nil) Imp.pk ⟨by simp only [packV, strOf_inj], rfl⟩

end Go.Sl
/- Walks: what is parsed, what begins. -/
namespace Go.Sl
open Go Go.RowKit Go.Proofs
set_option linter.unusedSimpArgs false
set_option linter.unusedVariables false
attribute [local irreducible] faB szB ldB zB zL slB mkB arB plB intB cells objc star stars buf slv grp whole Sat WPC WPL WPA WPO WPQ Trip Q1 E1 S1 C1

theorem c_kparse {x : Nat × EN3} {a0 : Option Addr} {n0 c0 : Nat} {xs : List By} (hx : xs = recB x) (hs : Sok 1 a0 n0 c0 (xs.map u8)) (hk : x.2.ok) (h1 : x.1 < 18446744073709551616) : Trip Tryd.prog 37 #[.slice a0 n0 c0] [sl false a0 (xs.map u8)] fun r Δ => ∃ y : RR, r = .tuple #[.agg (encRR y).toArray, .bool true] ∧ y.pl = x ∧ y.x.b.ok ∧ Δ = [y.x.b.at_] := by
  have e0 : xs = le x.1 8 ++ (le x.2.t 8 ++ (le x.2.k.toNat 1 ++ (le x.2.b.length 2 ++ (x.2.b ++ [])))) := by rw [hx]; simp only [recB, List.append_assoc, List.append_nil]
  rw [e0] at hs ⊢
  clear e0
  obtain ⟨hk1, hk2, hk3, hk4⟩ := hk
  have hkn : ((x.2.k.toNat : Nat) : Int) = x.2.k := by omega
  refine Trip.start 24 [.cell 2 85, .tmp 3] [(0, .slice a0 n0 c0)] Tryd.func37 rfl Tryd.ntmps37 rfl ⟨rfl, trivial⟩ rfl ?_
  refine WPC.seqR ?_
  refine nw fun b1 => ?_
  refine stp ?_
  refine WPL.nil ?_
  refine WPC.seqR ?_
  refine stp ?_
  refine kall rfl (c_Read hs) ?_
  rintro _ _ ⟨br, rfl, rfl⟩
  refine stp ?_
  refine WPL.nil ?_
  refine WPC.seqR ?_
  refine stp ?_
  refine kall rfl (c_RNumL (v := x.1) (k := 8) (ys := le x.2.t 8 ++ (le x.2.k.toNat 1 ++ (le x.2.b.length 2 ++ (x.2.b ++ [])))) (by omega) (by simp [le_length]; omega) h1) ?_
  rintro _ _ ⟨rfl, rfl⟩
  refine L_s (q_build (cs := [_, _, _, _]) pl_keep_record rfl rfl) rfl ?_
  refine nw fun bq => ?_
  refine sto ?_
  refine WPL.nil ?_
  refine WPC.seqR ?_
  refine stp ?_
  refine kall rfl (c_RNumL (v := x.2.t) (k := 8) (ys := le x.2.k.toNat 1 ++ (le x.2.b.length 2 ++ (x.2.b ++ []))) (by omega) (by simp [le_length]; omega) hk1) ?_
  rintro _ _ ⟨rfl, rfl⟩
  refine stp ?_
  refine kall rfl (c_RNumL (v := x.2.k.toNat) (k := 1) (ys := le x.2.b.length 2 ++ (x.2.b ++ [])) (by omega) (by simp [le_length]; omega) (by omega)) ?_
  rintro _ _ ⟨rfl, rfl⟩
  refine stp ?_
  rw [hkn]
  refine stp ?_
  refine kall rfl (c_RBytes (k := x.2.b.length) (xs := x.2.b) (ys := []) rfl (by omega) (by simp)) ?_
  rintro _ _ ⟨a, c, rfl, hsb, rfl⟩
  refine L_s (q_build (cs := [_, _, _]) pl_api_Entry rfl rfl) rfl ?_
  refine stp ?_
  refine sto ?_
  refine WPL.nil ?_
  refine WPC.seqD mixed ?_
  refine atL 0 rfl ?_
  refine atP 1 rfl ?_
  refine WPA.oneE 2 [(0, [_])] (by kernel_rfl) rfl rfl (by repeat (first | exact .nil | refine .anc rfl ?_ | refine .keep mm ?_)) (C1.call (c_call Tryd.func70 rfl rfl rfl) (c_REnd (b := br) (o := 0) (xs := []) (sh := false)) pkk rfl ?_)
  rintro _ _ ⟨v, rfl, hv, rfl⟩
  have hv0 : v = 0 := hv.2 ⟨rfl, rfl⟩
  subst hv0
  refine ⟨(.cons (Ent.mem mm) (.nil _)), ?_⟩
  refine WPA.putS ?_
  refine atP 3 rfl ?_
  refine WPA.oneE 4 [] (by kernel_rfl) rfl rfl (by repeat (first | exact .nil | refine .anc rfl ?_ | refine .keep mm ?_)) (S1.wpo (s_storeNz sz_keep_record rfl rfl (by simp [Value.oneCell']) rfl uu (by repeat constructor)) rfl ?_)
  refine ⟨(.nil _), ?_⟩
  refine WPA.putN ?_
  refine atP 5 rfl ?_
  refine WPA.done (by kernel_rfl) ?_
  refine WPC.ret ?_
  exact endR_r rfl (.cellN (us := [_, _, _, _]) rfl ld_keep_record mm rfl rfl (.tmp rfl .nil)) Imp.pk ⟨⟨x.1, ⟨x.2.t, x.2.k, ⟨x.2.b, a, x.2.b.length, c⟩⟩⟩, rfl, rfl, hsb, rfl⟩

theorem c_begin {b db jb at_ : Nat} {rg hv : Value} {d : DK} {sl : KS} (hd : d.ok) (hat : at_ + 2 ≤ d.seen.length) (hk : HOk sl) (hsl : ((last d (at_ : Int)).seq = 0 ∧ sl = .zero) ∨ ((last d (at_ : Int)).seq ≠ 0 ∧ (last d (at_ : Int)).b = headB sl)) : Trip Tryd.prog 36 #[.pointer (some ⟨b, 0, none⟩)] [cells true b 0 [.pointer (some ⟨db, 0, none⟩), .pointer (some ⟨jb, 0, none⟩), .int .i64 (at_ : Int), rg, .slice none 0 0, .int .u64 0, hv], disk db d, tblA] fun r Δ => ∃ a c, r = .tuple #[.agg #[.int .u64 (sl.term : Int), .int .i64 sl.vote, .int .u64 (sl.log.base : Int), .int .u64 (sl.log.bt : Int), .slice none 0 0], .bool true] ∧ Sok 1 a (headB sl).length c ((headB sl).map u8) ∧ Δ = [cells true b 0 [.pointer (some ⟨db, 0, none⟩), .pointer (some ⟨jb, 0, none⟩), .int .i64 (at_ : Int), rg, .slice a (headB sl).length c, .int .u64 (sl.log.base : Int), hv], disk db d, Sl.sl false a ((headB sl).map u8)] := by
  have hdn := hd.n
  obtain ⟨hk1, hk2, hk3, hk4⟩ := hk
  have hhl := headB_len sl
  have eH : headB sl = le sl.term 8 ++ (le (sl.vote + 1).toNat 1 ++ (le sl.log.base 8 ++ (le sl.log.bt 8 ++ []))) := by simp [headB]
  have hvn : (((sl.vote + 1).toNat : Nat) : Int) = sl.vote + 1 := by omega
  refine Trip.start 62 [.cell 2 28, .tmp 3] [(0, .pointer (some ⟨b, 0, none⟩))] Tryd.func36 rfl Tryd.ntmps36 rfl ⟨rfl, trivial⟩ rfl ?_
  refine WPC.seqR ?_
  refine nw fun b1 => ?_
  refine stp ?_
  refine WPL.nil ?_
  refine WPC.seqR ?_
  refine L_s (q_build (cs := [_, _, _, _, _]) pl_keep_State rfl rfl) rfl ?_
  refine nw fun b2 => ?_
  refine sto ?_
  refine WPL.nil ?_
  refine WPC.seqD mixed ?_
  refine atP 0 rfl ?_
  refine atP 1 rfl ?_
  refine atP 2 rfl ?_
  refine atL 3 rfl ?_
  refine atP 4 rfl ?_
  refine atP 5 rfl ?_
  refine atP 6 rfl ?_
  refine atL 7 rfl ?_
  refine WPA.oneE 8 [] (by kernel_rfl) rfl rfl (by repeat (first | exact .nil | refine .anc rfl ?_ | refine .keep mm ?_)) (C1.call (c_call Tryd.func61 rfl rfl rfl) (c_Load (i := (at_ : Int)) (by omega) hd) pkk rfl ?_)
  rintro _ _ ⟨a, c, rfl, hb, rfl⟩
  refine ⟨(.nil _), ?_⟩
  refine WPA.putS ?_
  refine atP 9 rfl ?_
  refine atP 10 rfl ?_
  refine atP 11 rfl ?_
  refine atP 12 rfl ?_
  refine atP 13 rfl ?_
  refine atP 14 rfl ?_
  refine atP 15 rfl ?_
  refine WPA.done (by kernel_rfl) ?_
  refine WPC.seq ?_
  refine WPC.seqR ?_
  iterate 2 refine stp ?_
  refine WPL.nil ?_
  refine WPC.cond rfl (fun h0 => ?_) (fun h0 => ?_)
  · have hq : (last d (at_ : Int)).seq = 0 := by
      rcases Nat.eq_zero_or_pos (last d (at_ : Int)).seq with h | h
      · exact h
      · rw [if_neg (by omega)] at h0; simp at h0
    have hz : sl = .zero := by rcases hsl with h | h; exact h.2; exact absurd hq h.1
    subst hz
    refine WPC.seqR ?_
    iterate 2 refine stp ?_
    refine kall rfl (show Trip _ _ _ [] (fun r Δ => ∃ a c, r = .slice a (headB KS.zero).length c ∧ Sok 1 a (headB KS.zero).length c ((headB KS.zero).map u8) ∧ Δ = [Sl.sl false a ((headB KS.zero).map u8)]) from c_head ⟨0, -1, 0, 0, [], none, 0, 0⟩ (by decide)) ?_
    rintro _ _ ⟨a2, c2, rfl, hs2, rfl⟩
    iterate 2 refine stp ?_
    refine sto ?_
    refine WPL.nil ?_
    refine WPC.prune [(0, _), (2, _), (3, _), (4, _), (5, _)] sbb ?_
    refine WPC.seqR ?_
    refine stp ?_
    refine sto ?_
    refine stp ?_
    refine WPL.nil ?_
    refine WPC.ret ?_
    refine thenQ_r ?_
    exact endR_r rfl (.cellN (us := [_, _, _, _, _]) rfl ld_keep_State mm rfl rfl (.tmp rfl .nil)) Imp.pk ⟨a2, c2, rfl, hs2, rfl⟩
  · have hq : (last d (at_ : Int)).seq ≠ 0 := by intro h; rw [if_pos h] at h0; simp at h0
    have hlb : (last d (at_ : Int)).b = headB sl := by rcases hsl with h | h; exact absurd h.1 hq; exact h.2
    simp only [if_neg hq, hlb] at hb ⊢
    refine WPC.skip ?_
    refine thenQ_n ?_
    refine WPC.seqR ?_
    refine stp ?_
    refine kall rfl (show Trip _ _ _ [Sl.sl false a ((headB sl).map u8)] (fun r Δ => ∃ b, r = .pointer (some ⟨b, 0, none⟩) ∧ Δ = [rd b 0 (le sl.term 8 ++ (le (sl.vote + 1).toNat 1 ++ (le sl.log.base 8 ++ (le sl.log.bt 8 ++ [])))) false]) from Trip.mono (c_Read hb) (by rintro _ _ ⟨b, rfl, rfl⟩; exact ⟨b, rfl, congrArg (fun z => [rd b 0 z false]) eH⟩)) ?_
    rintro _ _ ⟨br, rfl, rfl⟩
    refine stp ?_
    refine WPL.nil ?_
    refine WPC.prune [(0, _), (2, _), (3, _), (4, _), (5, _), (8, _)] sbb ?_
    refine WPC.seqR ?_
    refine stp ?_
    refine kall rfl (c_RNumL (v := sl.term) (k := 8) (ys := le (sl.vote + 1).toNat 1 ++ (le sl.log.base 8 ++ (le sl.log.bt 8 ++ []))) (by omega) (by simp [le_length]) hk1) ?_
    rintro _ _ ⟨rfl, rfl⟩
    refine stp ?_
    refine kall rfl (c_RNumL (v := (sl.vote + 1).toNat) (k := 1) (ys := le sl.log.base 8 ++ (le sl.log.bt 8 ++ [])) (by omega) (by simp [le_length]) (by omega)) ?_
    rintro _ _ ⟨rfl, rfl⟩
    refine stp ?_
    rw [hvn]
    refine stp ?_
    rw [show sl.vote + 1 - 1 = sl.vote by omega]
    refine L_s (q_build (cs := [_, _, _, _, _]) pl_keep_State rfl rfl) rfl ?_
    refine sto ?_
    refine WPL.nil ?_
    refine WPC.seqR ?_
    refine stp ?_
    refine kall rfl (c_RNumL (v := sl.log.base) (k := 8) (ys := le sl.log.bt 8 ++ []) (by omega) (by simp [le_length]) (by omega)) ?_
    rintro _ _ ⟨rfl, rfl⟩
    refine stp ?_
    refine kall rfl (c_RNumL (v := sl.log.bt) (k := 8) (ys := []) (by omega) (by simp) hk4) ?_
    rintro _ _ ⟨rfl, rfl⟩
    iterate 2 refine stp ?_
    refine sto ?_
    iterate 2 refine stp ?_
    refine sto ?_
    refine WPL.nil ?_
    refine WPC.seqD mixed ?_
    refine atP 0 rfl ?_
    refine atP 1 rfl ?_
    refine atP 2 rfl ?_
    refine atP 3 rfl ?_
    refine atP 4 rfl ?_
    refine atL 5 rfl ?_
    refine atP 6 rfl ?_
    refine atP 7 rfl ?_
    refine WPA.oneE 8 [(5, [_])] (by kernel_rfl) rfl rfl (by repeat (first | exact .nil | refine .anc rfl ?_ | refine .keep mm ?_)) (S1.wpo (s_store1k sz_sl_uint8 rfl rfl rfl rfl uu (by repeat constructor)) rfl ?_)
    refine ⟨(.cons (Ent.mem mm) (.nil _)), ?_⟩
    refine WPA.putN ?_
    refine atP 9 rfl ?_
    refine atP 10 rfl ?_
    refine WPA.oneE 11 [] (by kernel_rfl) rfl rfl (by repeat (first | exact .nil | refine .anc rfl ?_ | refine .keep mm ?_)) (S1.wpo (s_store1k sz_uint64 rfl rfl rfl rfl uu (by repeat constructor)) rfl ?_)
    refine ⟨(.nil _), ?_⟩
    refine WPA.putN ?_
    refine WPA.done (by kernel_rfl) ?_
    refine WPC.seqD mixed ?_
    refine atL 0 rfl ?_
    refine atP 1 rfl ?_
    refine WPA.oneE 2 [(0, [_])] (by kernel_rfl) rfl rfl (by repeat (first | exact .nil | refine .anc rfl ?_ | refine .keep mm ?_)) (C1.call (c_call Tryd.func70 rfl rfl rfl) (c_REnd (b := br) (o := 0) (xs := []) (sh := false)) pkk rfl ?_)
    rintro _ _ ⟨v, rfl, hv, rfl⟩
    have hv0 : v = 0 := hv.2 ⟨rfl, rfl⟩
    subst hv0
    refine ⟨(.cons (Ent.mem mm) (.nil _)), ?_⟩
    refine WPA.putS ?_
    refine atP 3 rfl ?_
    refine WPA.oneE 4 [] (by kernel_rfl) rfl rfl (by repeat (first | exact .nil | refine .anc rfl ?_ | refine .keep mm ?_)) (S1.wpo (s_storeNz sz_keep_State rfl rfl (by simp [Value.oneCell']) rfl uu (by repeat constructor)) rfl ?_)
    refine ⟨(.nil _), ?_⟩
    refine WPA.putN ?_
    refine atP 5 rfl ?_
    refine WPA.done (by kernel_rfl) ?_
    refine WPC.ret ?_
    exact endR_r rfl (.cellN (us := [_, _, _, _, _]) rfl ld_keep_State mm rfl rfl (.tmp rfl .nil)) Imp.pk ⟨a, c, rfl, hb, rfl⟩

end Go.Sl
/- Walks: logs. -/
namespace Go.Sl
open Go Go.RowKit Go.Proofs
set_option linter.unusedSimpArgs false
set_option linter.unusedVariables false
attribute [local irreducible] faB szB ldB zB zL slB mkB arB plB intB cells objc star stars buf slv grp whole Sat WPC WPL WPA WPO WPQ Trip Q1 E1 S1 C1

theorem c_Last {a : Option Addr} {n c : Nat} {base bt : Int} (hb : 0 ≤ base ∧ base ≤ 4611686018427387904) (hn : n < 1073741824) : Trip Tryd.prog 38 #[(.agg #[.int .u64 base, .int .u64 bt, .slice a n c])] [] fun r Δ => r = .int .u64 (base + n) ∧ Δ = [] := by
  refine Trip.start 10 [.tmp 2] [(0, (.agg #[.int .u64 base, .int .u64 bt, .slice a n c]))] Tryd.func38 rfl Tryd.ntmps38 rfl ⟨rfl, trivial⟩ rfl ?_
  refine WPC.seqR ?_
  refine nw fun b1 => ?_
  refine stp ?_
  refine WPL.nil ?_
  refine WPC.seqR ?_
  iterate 8 refine stp ?_
  refine WPL.nil ?_
  refine WPC.ret ?_
  exact endR_r rfl (.tmp rfl .nil) Imp.pk ⟨rfl, rfl⟩

theorem c_has {a : Option Addr} {n c : Nat} {base bt : Int} (hb : 0 ≤ base ∧ base ≤ 4611686018427387904) (hn : n < 1073741824) (i : Int) : Trip Tryd.prog 43 #[(.agg #[.int .u64 base, .int .u64 bt, .slice a n c]), .int .u64 i] [] fun r Δ => r = .bool (decide (base < i) && decide (i ≤ base + n)) ∧ Δ = [] := by
  refine Trip.start 15 [.tmp 4] [(0, (.agg #[.int .u64 base, .int .u64 bt, .slice a n c])), (1, .int .u64 i)] Tryd.func43 rfl Tryd.ntmps43 rfl ⟨rfl, rfl, trivial⟩ rfl ?_
  refine WPC.seqR ?_
  refine nw fun b1 => ?_
  refine stp ?_
  refine WPL.nil ?_
  refine WPC.seqR ?_
  iterate 5 refine stp ?_
  apply WPL.joinA (e' := [(4, _)]) 9 14 5 rfl
  · intro g1_4
    try simp only [decide_eq_true_eq, decide_eq_false_iff_not, beq_iff_eq, bne_iff_ne, beq_eq_false_iff_ne, bne_eq_false_iff_eq, Bool.not_eq_true', Bool.not_eq_false', Bool.not_eq_eq_eq_not, Bool.not_true, Bool.not_false, ne_eq, Decidable.not_not, Int.not_lt, Int.not_le, gt_iff_lt, ge_iff_le] at g1_4
    iterate 2 refine stpY rfl rfl ?_
    refine L_eyes rfl rfl rfl (C1.call (c_call Tryd.func38 rfl rfl rfl) (c_Last hb hn) pkk rfl ?_)
    rintro _ _ ⟨rfl, rfl⟩
    refine WPL.putS ?_
    refine stpY rfl rfl ?_
    refine stp ?_
    first | exact WPL.jn rfl rfl sbb | exact WPL.jnI rfl rfl sbb Imp.pk
  · intro g1_4
    try simp only [decide_eq_true_eq, decide_eq_false_iff_not, beq_iff_eq, bne_iff_ne, beq_eq_false_iff_ne, bne_eq_false_iff_eq, Bool.not_eq_true', Bool.not_eq_false', Bool.not_eq_eq_eq_not, Bool.not_true, Bool.not_false, ne_eq, Decidable.not_not, Int.not_lt, Int.not_le, gt_iff_lt, ge_iff_le] at g1_4
    refine L_no rfl rfl rfl rfl ?_
    refine L_no rfl rfl rfl rfl ?_
    refine L_no rfl rfl rfl rfl ?_
    refine L_no rfl rfl rfl rfl ?_
    refine stp ?_
    first | exact WPL.jn rfl rfl sbb | exact WPL.jnI rfl rfl sbb Imp.pk
  refine stp ?_
  refine WPL.nil ?_
  refine WPC.ret ?_
  exact endR_r rfl (.tmp rfl .nil) Imp.pk ⟨rfl, rfl⟩

theorem c_Entry {p : Bool} {a : Option Addr} {n c : Nat} {base bt : Int} {es : List RE} (hs : Sok 3 a n c (es.flatMap encE)) (hb : 0 ≤ base ∧ base ≤ 4611686018427387904) (hn : n < 1073741824) (i : Int) (hi : 0 ≤ i ∧ i ≤ 18446744073709551615) : Trip Tryd.prog 73 #[(.agg #[.int .u64 base, .int .u64 bt, .slice a n c]), .int .u64 i] [sl p a (es.flatMap encE)] fun r Δ => r = .tuple #[.agg (encE ((lgEntry base es i).getD RE.zero)).toArray, .bool (lgEntry base es i).isSome] ∧ Δ = [sl p a (es.flatMap encE)] := by
  have hl : es.length = n := by have := hs.len; rw [flat_length encE_len] at this; omega
  refine Trip.start 20 [.cell 4 58, .tmp 5] [(0, (.agg #[.int .u64 base, .int .u64 bt, .slice a n c])), (1, .int .u64 i)] Tryd.func73 rfl Tryd.ntmps73 rfl ⟨rfl, rfl, trivial⟩ rfl ?_
  refine WPC.seqR ?_
  refine nw fun b1 => ?_
  refine nw fun b2 => ?_
  refine stp ?_
  refine WPL.nil ?_
  refine WPC.seq ?_
  refine WPC.seqR ?_
  iterate 2 refine stp ?_
  refine kall rfl (c_has hb hn i) ?_
  rintro _ _ ⟨rfl, rfl⟩
  refine stp ?_
  refine WPL.nil ?_
  refine WPC.cond rfl (fun h0 => ?_) (fun h0 => ?_)
  · simp only [Bool.not_eq_true', Bool.and_eq_false_iff, decide_eq_false_iff_not] at h0
    refine WPC.seqR ?_
    refine L_s (q_build (cs := [_, _, _]) pl_api_Entry rfl rfl) rfl ?_
    refine sto ?_
    refine stp ?_
    refine WPL.nil ?_
    refine WPC.ret ?_
    refine thenQ_r ?_
    exact endR_r rfl (.cellN (us := [_, _, _]) rfl ld_api_Entry mm rfl rfl (.tmp rfl .nil)) Imp.pk ⟨by rw [lgEntry_none (by omega)]; rfl, rfl⟩
  · simp only [Bool.not_eq_false', Bool.and_eq_true, decide_eq_true_eq] at h0
    have hk : (i - base - 1).toNat < es.length := by omega
    obtain ⟨x, hx⟩ : ∃ x, es[(i - base - 1).toNat]? = some x := ⟨es[(i - base - 1).toNat]'(by omega), by simp [hk]⟩
    have hp : a = some ⟨blk a, off a, none⟩ := hs.at (by omega) (by omega)
    refine WPC.skip ?_
    refine thenQ_n ?_
    refine WPC.seqR ?_
    iterate 8 refine stp ?_
    refine L_s (q_ldFlat ld_api_Entry rfl mm encE_len hx) rfl ?_
    refine sto ?_
    refine stp ?_
    refine WPL.nil ?_
    refine WPC.ret ?_
    exact endR_r rfl (.cellN (us := [_, _, _]) rfl ld_api_Entry mm rfl rfl (.tmp rfl .nil)) Imp.pk ⟨by unfold lgEntry; rw [if_pos h0.1, hx]; rfl, rfl⟩

theorem c_Term {p : Bool} {a : Option Addr} {n c : Nat} {base bt : Int} {es : List RE} (hs : Sok 3 a n c (es.flatMap encE)) (hb : 0 ≤ base ∧ base ≤ 4611686018427387904) (hn : n < 1073741824) (i : Int) (hi : 0 ≤ i ∧ i ≤ 18446744073709551615) : Trip Tryd.prog 42 #[(.agg #[.int .u64 base, .int .u64 bt, .slice a n c]), .int .u64 i] [sl p a (es.flatMap encE)] fun r Δ => r = .tuple #[.int .u64 ((lgTerm base bt es i).getD 0), .bool (lgTerm base bt es i).isSome] ∧ Δ = [sl p a (es.flatMap encE)] := by
  refine Trip.start 23 [.tmp 4, .tmp 5] [(0, (.agg #[.int .u64 base, .int .u64 bt, .slice a n c])), (1, .int .u64 i)] Tryd.func42 rfl Tryd.ntmps42 rfl ⟨rfl, rfl, trivial⟩ rfl ?_
  refine WPC.seqR ?_
  refine nw fun b1 => ?_
  iterate 2 refine stp ?_
  refine WPL.nil ?_
  refine WPC.seq ?_
  refine WPC.seqR ?_
  iterate 4 refine stp ?_
  refine WPL.nil ?_
  refine WPC.cond rfl (fun h0 => ?_) (fun h0 => ?_)
  · try simp only [decide_eq_true_eq, decide_eq_false_iff_not, beq_iff_eq, bne_iff_ne, beq_eq_false_iff_ne, bne_eq_false_iff_eq, Bool.not_eq_true', Bool.not_eq_false', Bool.not_eq_eq_eq_not, Bool.not_true, Bool.not_false, ne_eq, Decidable.not_not, Int.not_lt, Int.not_le, gt_iff_lt, ge_iff_le] at h0
    refine WPC.seqR ?_
    iterate 4 refine stp ?_
    refine WPL.nil ?_
    refine WPC.ret ?_
    refine thenQ_r ?_
    exact endR_r rfl (.tmp rfl (.tmp rfl .nil)) Imp.pk ⟨by unfold lgTerm; rw [if_pos h0]; rfl, rfl⟩
  · try simp only [decide_eq_true_eq, decide_eq_false_iff_not, beq_iff_eq, bne_iff_ne, beq_eq_false_iff_ne, bne_eq_false_iff_eq, Bool.not_eq_true', Bool.not_eq_false', Bool.not_eq_eq_eq_not, Bool.not_true, Bool.not_false, ne_eq, Decidable.not_not, Int.not_lt, Int.not_le, gt_iff_lt, ge_iff_le] at h0
    refine WPC.skip ?_
    refine thenQ_n ?_
    refine WPC.seqR ?_
    iterate 2 refine stp ?_
    refine kall rfl (c_Entry hs hb hn i hi) ?_
    rintro _ _ ⟨rfl, rfl⟩
    iterate 3 refine stp ?_
    refine nw fun b2 => ?_
    refine sto ?_
    refine stp ?_
    refine WPL.nil ?_
    refine WPC.seqR ?_
    iterate 5 refine stp ?_
    refine WPL.nil ?_
    refine WPC.ret ?_
    exact endR_r rfl (.tmp rfl (.tmp rfl .nil)) Imp.pk ⟨by unfold lgTerm; rw [if_neg h0]; cases lgEntry base es i <;> rfl, rfl⟩

theorem c_LastTerm {p : Bool} {a : Option Addr} {n c : Nat} {base bt : Int} {es : List RE} (hs : Sok 3 a n c (es.flatMap encE)) (hb : 0 ≤ base ∧ base ≤ 4611686018427387904) (hn : n < 1073741824) : Trip Tryd.prog 18 #[(.agg #[.int .u64 base, .int .u64 bt, .slice a n c])] [sl p a (es.flatMap encE)] fun r Δ => r = .int .u64 (lgLastTerm bt es) ∧ Δ = [sl p a (es.flatMap encE)] := by
  have hl : es.length = n := by have := hs.len; rw [flat_length encE_len] at this; omega
  refine Trip.start 13 [.tmp 2] [(0, (.agg #[.int .u64 base, .int .u64 bt, .slice a n c]))] Tryd.func18 rfl Tryd.ntmps18 rfl ⟨rfl, trivial⟩ rfl ?_
  refine WPC.seqR ?_
  refine nw fun b1 => ?_
  refine stp ?_
  refine WPL.nil ?_
  refine WPC.seqD mixed ?_
  refine atL 0 rfl ?_
  refine atL 1 rfl ?_
  refine WPA.oneE 2 [(0, [_])] (by kernel_rfl) rfl rfl (by repeat (first | exact .nil | refine .anc rfl ?_ | refine .keep mm ?_)) (C1.call (c_call Tryd.func38 rfl rfl rfl) (c_Last hb hn) pkk rfl ?_)
  rintro _ _ ⟨rfl, rfl⟩
  refine ⟨(.cons (Ent.mem mm) (.nil _)), ?_⟩
  refine WPA.putS ?_
  refine WPA.oneE 3 [] (by kernel_rfl) rfl rfl (by repeat (first | exact .nil | refine .anc rfl ?_ | refine .keep mm ?_)) (C1.call (c_call Tryd.func42 rfl rfl rfl) (c_Term hs hb hn (base + n) (by omega)) pkk rfl ?_)
  rintro _ _ ⟨rfl, rfl⟩
  refine ⟨(.nil _), ?_⟩
  refine WPA.putS ?_
  refine atP 4 rfl ?_
  refine atP 5 rfl ?_
  refine atP 6 rfl ?_
  refine atP 7 rfl ?_
  refine atP 8 rfl ?_
  refine WPA.done (by kernel_rfl) ?_
  refine WPC.seqR ?_
  iterate 2 refine stp ?_
  refine WPL.nil ?_
  refine WPC.ret ?_
  exact endR_r rfl (.tmp rfl .nil) Imp.pk ⟨by simp only [packV]; rw [← hl, lgTerm_last]; rfl, rfl⟩

end Go.Sl
/- Walks: logs that grow, keepers that open. -/
namespace Go.Sl
open Go Go.RowKit Go.Proofs
set_option linter.unusedSimpArgs false
set_option linter.unusedVariables false
attribute [local irreducible] faB szB ldB zB zL slB mkB arB plB intB cells objc star stars buf slv grp whole Sat WPC WPL WPA WPO WPQ Trip Q1 E1 S1 C1

theorem c_Clip {a : Option Addr} {n c : Nat} (hc : n ≤ c) : Trip Tryd.prog 72 #[.slice a n c] [] fun r Δ => r = .slice a n n ∧ Δ = [] := by
  refine Trip.start 9 [.tmp 2] [(0, .slice a n c)] Tryd.func72 rfl Tryd.ntmps72 rfl ⟨rfl, trivial⟩ rfl ?_
  refine WPC.seqR ?_
  refine stp ?_
  refine WPL.nil ?_
  refine WPC.seqR ?_
  iterate 5 refine stp ?_
  refine L_s (q_sliceHiM sl_sl_api_Entry rfl rfl rfl (by omega) (by omega)) rfl ?_
  refine stp ?_
  refine WPL.nil ?_
  refine WPC.ret ?_
  exact endR_r rfl (.tmp rfl .nil) Imp.pk ⟨rfl, rfl⟩

theorem c_TAdd {p : Bool} {a : Option Addr} {n c : Nat} {base bt : Int} {es : List RE} (hs : Sok 3 a n c (es.flatMap encE)) (hn : n < 536870912) (e : RE) : Trip Tryd.prog 39 #[(.agg #[.int .u64 base, .int .u64 bt, .slice a n c]), .agg (encE e).toArray] [sl p a (es.flatMap encE)] fun r Δ => ∃ a' c', r = .agg #[.int .u64 base, .int .u64 bt, .slice a' (n + 1) c'] ∧ Sok 3 a' (n + 1) c' ((es ++ [e]).flatMap encE) ∧ Δ = [sl false a' ((es ++ [e]).flatMap encE)] := by
  have hs2 : Sok 3 a n n (es.flatMap encE) := ⟨hs.len, Nat.le_refl _, hs.pl⟩
  refine Trip.start 13 [.cell 4 26] [(0, (.agg #[.int .u64 base, .int .u64 bt, .slice a n c])), (1, .agg (encE e).toArray)] Tryd.func39 rfl Tryd.ntmps39 rfl ⟨rfl, rfl, trivial⟩ rfl ?_
  refine WPC.seqR ?_
  refine nw fun b1 => ?_
  refine nw fun b2 => ?_
  refine nw fun b3 => ?_
  refine WPL.nil ?_
  refine WPC.seqD mixed ?_
  refine atP 0 rfl ?_
  refine atL 1 rfl ?_
  refine atL 3 rfl ?_
  refine WPA.two 2 4 (by kernel_rfl) ?_ ?_
  · refine Eff.mk 2 [(3, [_])] rfl rfl (by repeat (first | exact .nil | refine .anc rfl ?_ | refine .keep mm ?_)) (C1.call (c_call Tryd.func72 rfl rfl rfl) (c_Clip hs.cap) pkk rfl ?_)
    rintro _ _ ⟨rfl, rfl⟩
    refine ⟨(.cons (Ent.mem mm) (.nil _)), ?_⟩
    refine WPA.putS ?_
    refine WPA.oneE 4 [] (by kernel_rfl) rfl rfl (by repeat (first | exact .nil | refine .anc rfl ?_ | refine .keep mm ?_)) (E1.wpo (e_buildSlice (cs := [_, _, _]) mk_sl_api_Entry (by decide) rfl rfl rfl) rfl ?_)
    rintro _ _ ⟨bE, rfl, rfl⟩
    refine ⟨(.nil _), ?_⟩
    refine WPA.putS ?_
    refine WPA.oneE 5 [] (by kernel_rfl) rfl rfl (by repeat (first | exact .nil | refine .anc rfl ?_ | refine .keep mm ?_)) (E1.wpo (e_appendNew (m := 1) (cs := es.flatMap encE) (news := encE e) mk_sl_api_Entry (by decide) rfl rfl (Rd.mem hs2 (hs2.none0 (by omega)) mm) (Rd.part (i := 0) (b := bE) (o := 0) (vs := encE e) mm rfl rfl rfl) rfl (.inl (by omega)) (by omega) (by omega)) rfl ?_)
    rintro _ _ ⟨a', c', rfl, -, rfl⟩
    rw [← flat_snoc]
    refine ⟨(.nil _), ?_⟩
    refine WPA.putS ?_
    refine WPA.bufRo fun hs3 => ?_
    refine atP 6 rfl ?_
    refine WPA.oneE 7 [] (by kernel_rfl) rfl rfl (by repeat (first | exact .nil | refine .anc rfl ?_ | refine .keep mm ?_)) (S1.wpo (s_store1k sz_sl_api_Entry rfl rfl rfl rfl uu (by repeat constructor)) rfl ?_)
    refine ⟨(.nil _), ?_⟩
    refine WPA.putN ?_
    refine WPA.done (by kernel_rfl) ?_
    refine WPC.seqR ?_
    refine stp ?_
    refine sto ?_
    refine WPL.nil ?_
    refine WPC.ret ?_
    exact endR_r rfl (.cellN (us := [_, _, _]) rfl ld_terms_Log mm rfl rfl .nil) Imp.pk ⟨a', c', rfl, hs3, rfl⟩
  · refine Eff.mk 4 [(1, [_])] rfl rfl (by repeat (first | exact .nil | refine .anc rfl ?_ | refine .keep mm ?_)) (E1.wpo (e_buildSlice (cs := [_, _, _]) mk_sl_api_Entry (by decide) rfl rfl rfl) rfl ?_)
    rintro _ _ ⟨bE, rfl, rfl⟩
    refine ⟨(.cons (Ent.mem mm) (.nil _)), ?_⟩
    refine WPA.putS ?_
    refine WPA.oneE 2 [] (by kernel_rfl) rfl rfl (by repeat (first | exact .nil | refine .anc rfl ?_ | refine .keep mm ?_)) (C1.call (c_call Tryd.func72 rfl rfl rfl) (c_Clip hs.cap) pkk rfl ?_)
    rintro _ _ ⟨rfl, rfl⟩
    refine ⟨(.nil _), ?_⟩
    refine WPA.putS ?_
    refine WPA.oneE 5 [] (by kernel_rfl) rfl rfl (by repeat (first | exact .nil | refine .anc rfl ?_ | refine .keep mm ?_)) (E1.wpo (e_appendNew (m := 1) (cs := es.flatMap encE) (news := encE e) mk_sl_api_Entry (by decide) rfl rfl (Rd.mem hs2 (hs2.none0 (by omega)) mm) (Rd.part (i := 0) (b := bE) (o := 0) (vs := encE e) mm rfl rfl rfl) rfl (.inl (by omega)) (by omega) (by omega)) rfl ?_)
    rintro _ _ ⟨a', c', rfl, -, rfl⟩
    rw [← flat_snoc]
    refine ⟨(.nil _), ?_⟩
    refine WPA.putS ?_
    refine WPA.bufRo fun hs3 => ?_
    refine atP 6 rfl ?_
    refine WPA.oneE 7 [] (by kernel_rfl) rfl rfl (by repeat (first | exact .nil | refine .anc rfl ?_ | refine .keep mm ?_)) (S1.wpo (s_store1k sz_sl_api_Entry rfl rfl rfl rfl uu (by repeat constructor)) rfl ?_)
    refine ⟨(.nil _), ?_⟩
    refine WPA.putN ?_
    refine WPA.done (by kernel_rfl) ?_
    refine WPC.seqR ?_
    refine stp ?_
    refine sto ?_
    refine WPL.nil ?_
    refine WPC.ret ?_
    exact endR_r rfl (.cellN (us := [_, _, _]) rfl ld_terms_Log mm rfl rfl .nil) Imp.pk ⟨a', c', rfl, hs3, rfl⟩

end Go.Sl
/- Walks: keepers that open. -/
namespace Go.Sl
open Go Go.RowKit Go.Proofs
set_option linter.unusedSimpArgs false
set_option linter.unusedVariables false
attribute [local irreducible] faB szB ldB zB zL slB mkB arB plB intB cells objc star stars buf slv grp whole Sat WPC WPL WPA WPO WPQ Trip Q1 E1 S1 C1

theorem c_OpenK {db : Nat} {d d1 : DK} {at_ n : Nat} {j : JN} (hn : 1 ≤ n ∧ n ≤ 100) (hat : at_ + 2 + n ≤ d.seen.length) (hd : d.ok) (hpl : d.pend.length < 600000) (h : jopen0 d at_ n = (d1, some j, 0)) : Trip Tryd.prog 35 #[.pointer (some ⟨db, 0, none⟩), .int .i64 (at_ : Int), .int .i64 (n : Int)] [disk db d, tblA] fun r Δ => ∃ (b : Nat) (a : Option Addr) (c : Nat) (ys : List BS), r = .tuple #[.pointer (some ⟨b, 0, none⟩), .slice a ys.length c, .int .i64 0] ∧ Sok 1 a ys.length c (ys.map bsV) ∧ ys.map BS.bs = j.held.map (·.2) ∧ (∀ y ∈ ys, y.ok) ∧ Δ = [jour b db j, disk db d1, buf 1 a ys.length c (ys.map bsV), bytes ys] := by
  have := c_Open (db := db) hn hat hd hpl
  rw [h] at this
  exact this

theorem k_Open {db at_ n : Nat} {d d1 : DK} {j : JN} {sl : KS} {rs : List (Nat × EN3)} (hn : 1 ≤ n ∧ n ≤ 100) (hat : at_ + 2 + 2 + n ≤ d.seen.length) (hd : d.ok) (hpl : d.pend.length < 600000) (hj : jopen0 d (at_ + 2) n = (d1, some j, 0)) (hd1 : d1.ok) (hdl : d1.seen.length = d.seen.length) (hjr : j.held.map (·.2) = rs.map recB) (hrok : ∀ r ∈ rs, r.2.ok ∧ r.1 < 18446744073709551616) (hrl : rs.length ≤ 1000) (hk : HOk sl) (hk0 : sl.log.es = []) (hsl : ((last d1 (at_ : Int)).seq = 0 ∧ sl = .zero) ∨ ((last d1 (at_ : Int)).seq ≠ 0 ∧ (last d1 (at_ : Int)).b = headB sl)) : Trip Tryd.prog 10 #[.pointer (some ⟨db, 0, none⟩), .int .i64 (at_ : Int), .int .i64 (n : Int)] [disk db d, tblA] fun r Δ => ∃ (b jb : Nat) (sv : SV), r = .tuple #[.pointer (some ⟨b, 0, none⟩), .agg (stV sv).toArray, .int .i64 0] ∧ sv.ok ∧ sv.n ≤ rs.length ∧ sv.ks = openSt sl rs ∧ Δ = [kpr b db jb ⟨j, at_, n, headB sl, sl.log.base, rs⟩, jour jb db j, disk db d1, sv.ents, sv.dat] := by
  have hdn := hd.n
  refine Trip.start 127 [.tmp 6, .cell 7 28, .tmp 8] [(0, .pointer (some ⟨db, 0, none⟩)), (1, .int .i64 (at_ : Int)), (2, .int .i64 (n : Int))] Tryd.func10 rfl Tryd.ntmps10 rfl ⟨rfl, rfl, rfl, trivial⟩ rfl ?_
  refine WPC.seqR ?_
  refine stp ?_
  refine nw fun b1 => ?_
  refine stp ?_
  refine WPL.nil ?_
  refine WPC.seq ?_
  refine WPC.seqR ?_
  iterate 2 refine stp ?_
  refine WPL.nil ?_
  refine WPC.cond rfl (fun h0 => ?_) (fun h0 => ?_)
  · try simp only [decide_eq_true_eq, decide_eq_false_iff_not, beq_iff_eq, bne_iff_ne, beq_eq_false_iff_ne, bne_eq_false_iff_eq, Bool.not_eq_true', Bool.not_eq_false', Bool.not_eq_eq_eq_not, Bool.not_true, Bool.not_false, ne_eq, Decidable.not_not, Int.not_lt, Int.not_le, gt_iff_lt, ge_iff_le] at h0
    omega
  · skip
    refine WPC.skip ?_
    refine thenQ_n ?_
    refine WPC.seqR ?_
    iterate 3 refine stp ?_
    rw [show (at_ : Int) + 2 = ((at_ + 2 : Nat) : Int) by omega]
    refine stp ?_
    refine kall rfl (c_OpenK hn (by omega) hd hpl hj) ?_
    rintro _ _ ⟨jb, a, c, ys, rfl, hsy, hye, hyo, rfl⟩
    iterate 7 refine stp ?_
    refine WPL.nil ?_
    refine WPC.seq ?_
    refine WPC.seqR ?_
    iterate 2 refine stp ?_
    refine WPL.nil ?_
    refine WPC.cond rfl (fun h1 => ?_) (fun h1 => ?_)
    · try simp only [decide_eq_true_eq, decide_eq_false_iff_not, beq_iff_eq, bne_iff_ne, beq_eq_false_iff_ne, bne_eq_false_iff_eq, Bool.not_eq_true', Bool.not_eq_false', Bool.not_eq_eq_eq_not, Bool.not_true, Bool.not_false, ne_eq, Decidable.not_not, Int.not_lt, Int.not_le, gt_iff_lt, ge_iff_le] at h1
      simp at h1
    · skip
      refine WPC.skip ?_
      refine thenQ_n ?_
      refine WPC.seqR ?_
      iterate 4 refine stp ?_
      refine L_s (q_build (cs := [_, _, _, _, _, _, _]) pl_keep_Keeper rfl rfl) rfl ?_
      refine nw fun bk => ?_
      refine stp ?_
      refine WPL.nil ?_
      refine WPC.prune [(6, _), (7, _), (8, _), (10, _), (12, _)] sbb ?_
      refine WPC.seqR ?_
      refine stp ?_
      refine kall rfl (c_begin (rg := .int .i64 (n : Int)) (hv := .slice none 0 0) hd1 (by omega) hk hsl) ?_
      rintro _ _ ⟨a2, c2, rfl, hs2, rfl⟩
      iterate 3 refine stp ?_
      refine nw fun bs => ?_
      refine sto ?_
      refine stp ?_
      refine WPL.nil ?_
      refine WPC.seq ?_
      refine WPC.seqR ?_
      iterate 3 refine stp ?_
      refine WPL.nil ?_
      have hyr : ys.map BS.bs = rs.map recB := by rw [hye, hjr]
      have hyl : ys.length = rs.length := by have := congrArg List.length hyr; simpa using this
      refine WPC.imp (Imp.pk (Δ := [buf 1 a ys.length c (ys.map bsV), bytes ys, cells true bk 0 [.pointer (some ⟨db, 0, none⟩), .pointer (some ⟨jb, 0, none⟩), .int .i64 (at_ : Int), .int .i64 (n : Int), .slice a2 (headB sl).length c2, .int .u64 (sl.log.base : Int), .slice none 0 0], cells true bs 0 (stV (⟨sl.term, sl.vote, sl.log.base, sl.log.bt, [], none, 0, 0⟩ : SV)), cells true b1 0 (stV ⟨0, 0, 0, 0, [], none, 0, 0⟩), jour jb db j, disk db d1, Sl.sl false a2 ((headB sl).map u8)])) ?_
      refine WPC.bufRo fun hsy2 => ?_
      refine WPC.imp ((Imp.bufNil (sz := 4)).trans bytes_nil) ?_
      refine WPC.block ?_
      refine WPC.loopS (fun m e Γ => ∃ (k : Nat) (hs : List RR) (ha : Option Addr) (hc : Nat), m = ys.length - k ∧ k ≤ ys.length ∧ hs.length = k ∧ hs.map RR.pl = rs.take k ∧ (∀ r ∈ hs, r.x.b.ok) ∧ e = [(6, .pointer none), (7, .pointer (some ⟨b1, 0, none⟩)), (8, .int .i64 0), (12, .pointer (some ⟨bk, 0, none⟩)), (13, .pointer (some ⟨bs, 0, none⟩)), (14, .bool true), (49, .slice a ys.length c), (50, .int .i64 (ys.length : Int)), (51, .int .i64 (k : Int))] ∧ Γ = [cells true bk 0 [.pointer (some ⟨db, 0, none⟩), .pointer (some ⟨jb, 0, none⟩), .int .i64 (at_ : Int), .int .i64 (n : Int), .slice a2 (headB sl).length c2, .int .u64 (sl.log.base : Int), .slice ha k hc], buf 4 ha k hc (hs.flatMap encRR), bytes (hs.map (·.x.b)), cells true bs 0 (stV (⟨sl.term, sl.vote, sl.log.base, sl.log.bt, [], none, 0, 0⟩ : SV)), cells true b1 0 (stV ⟨0, 0, 0, 0, [], none, 0, 0⟩), Sl.sl false a (ys.map bsV), bytes ys, jour jb db j, disk db d1, Sl.sl false a2 ((headB sl).map u8)]) (ys.length) ⟨0, [], none, 0, rfl, by omega, rfl, by simp, by simp, rfl, rfl⟩ sbb Imp.pk ?_
      rintro m e Γ ⟨k, hs, ha, hc, rfl, hk2, hhl, hhp, hho, rfl, rfl⟩
      refine WPC.seqR ?_
      refine stp ?_
      refine WPL.nil ?_
      refine WPC.seq ?_
      refine WPC.cond rfl (fun h2 => ?_) (fun h2 => ?_)
      · simp only [decide_eq_true_eq, Int.ofNat_lt] at h2
        have hp : Pl a := hsy.at (by omega) (by omega)
        obtain ⟨y, hy⟩ : ∃ y, ys[k]? = some y := ⟨ys[k], by simp [h2]⟩
        have hym := List.mem_of_getElem? hy
        have hyo1 := hyo y hym
        obtain ⟨x, hx⟩ : ∃ x, rs[k]? = some x := ⟨rs[k]'(by omega), by simp⟩
        have hyx : y.bs = recB x := by have := congrArg (fun l => l[k]?) hyr; simp only [List.getElem?_map, hy, hx, Option.map_some, Option.some.injEq] at this; exact this
        have hxo := hrok x (List.mem_of_getElem? hx)
        refine WPC.skip ?_
        refine thenQ_n ?_
        refine WPC.seq ?_
        refine WPC.block ?_
        refine WPC.seqR ?_
        refine L_s (q_idxN (i := k) sl_sl_sl_uint8 rfl rfl h2 hp) rfl ?_
        refine L_s (q_ldMap ld_sl_uint8 rfl mm hy) rfl ?_
        refine stp ?_
        refine WPL.nil ?_
        refine WPC.seqR ?_
        refine stp ?_
        refine WPL.imp ((Imp.pk (Δ := [bytes ys, cells true bk 0 [.pointer (some ⟨db, 0, none⟩), .pointer (some ⟨jb, 0, none⟩), .int .i64 (at_ : Int), .int .i64 (n : Int), .slice a2 (headB sl).length c2, .int .u64 (sl.log.base : Int), .slice ha k hc], buf 4 ha k hc (hs.flatMap encRR), bytes (hs.map (·.x.b)), cells true bs 0 (stV (⟨sl.term, sl.vote, sl.log.base, sl.log.bt, [], none, 0, 0⟩ : SV)), cells true b1 0 (stV ⟨0, 0, 0, 0, [], none, 0, 0⟩), Sl.sl false a (ys.map bsV), jour jb db j, disk db d1, Sl.sl false a2 ((headB sl).map u8)])).trans (bytes_one hym)) ?_
        refine kall rfl (c_kparse hyx hyo1 hxo.1 hxo.2) ?_
        rintro _ _ ⟨z, rfl, hzp, hzo, rfl⟩
        iterate 3 refine stp ?_
        refine nw fun bw => ?_
        refine sto ?_
        refine stp ?_
        refine WPL.nil ?_
        refine WPC.seqR ?_
        iterate 2 refine stp ?_
        refine stpY rfl rfl ?_
        iterate 2 refine stp ?_
        refine WPL.nil ?_
        refine WPC.draw mixed ?_
        refine atP 0 rfl ?_
        refine atP 1 rfl ?_
        refine atP 2 rfl ?_
        refine atP 3 rfl ?_
        refine atL 4 rfl ?_
        refine atL 5 rfl ?_
        refine WPA.oneE 6 [(4, [_])] (by kernel_rfl) rfl rfl (by repeat (first | exact .nil | refine .anc rfl ?_ | refine .keep mm ?_)) (E1.wpo (e_buildSlice (cs := [_, _, _, _]) mk_sl_keep_record (by decide) rfl rfl rfl) rfl ?_)
        rintro _ _ ⟨bE, rfl, rfl⟩
        refine ⟨(.cons (Ent.mem mm) (.nil _)), ?_⟩
        refine WPA.putS ?_
        refine WPA.oneE 7 [] (by kernel_rfl) rfl rfl (by repeat (first | exact .nil | refine .anc rfl ?_ | refine .keep mm ?_)) (E1.wpo (e_append (m := 1) (news := encRR z) mk_sl_keep_record (by decide) rfl rfl pk1 (Rd.part (i := 0) (b := bE) (o := 0) (vs := encRR z) mm rfl rfl rfl) (by simp [Value.oneCell']) (by omega) (by omega)) rfl ?_)
        rintro _ _ ⟨a4, c4, rfl, -, rfl⟩
        rw [← flat_snoc]
        refine ⟨(.nil _), ?_⟩
        refine WPA.putS ?_
        refine atP 8 rfl ?_
        refine atP 9 rfl ?_
        refine WPA.oneE 10 [] (by kernel_rfl) rfl rfl (by repeat (first | exact .nil | refine .anc rfl ?_ | refine .keep mm ?_)) (S1.wpo (s_store1k sz_sl_keep_record rfl rfl rfl rfl uu (by repeat constructor)) rfl ?_)
        refine ⟨(.nil _), ?_⟩
        refine WPA.putN ?_
        refine WPA.done (by kernel_rfl) ?_
        refine blockQ_n ?_
        refine thenQ_n ?_
        refine WPC.region ?_
        refine WPL.imp ((Imp.pk (Δ := [z.x.b.at_, bytes (hs.map (·.x.b)), cells true bk 0 [.pointer (some ⟨db, 0, none⟩), .pointer (some ⟨jb, 0, none⟩), .int .i64 (at_ : Int), .int .i64 (n : Int), .slice a2 (headB sl).length c2, .int .u64 (sl.log.base : Int), .slice a4 (k + 1) c4], buf 4 a4 (k + 1) c4 ((hs ++ [z]).flatMap encRR), cells true bs 0 (stV (⟨sl.term, sl.vote, sl.log.base, sl.log.bt, [], none, 0, 0⟩ : SV)), cells true b1 0 (stV ⟨0, 0, 0, 0, [], none, 0, 0⟩), Sl.sl false a (ys.map bsV), bytes ys, jour jb db j, disk db d1, Sl.sl false a2 ((headB sl).map u8)])).trans bytes_snoc) ?_
        rw [show hs.map (·.x.b) ++ [z.x.b] = (hs ++ [z]).map (·.x.b) by simp]
        iterate 2 refine stp ?_
        refine WPL.nil ?_
        refine thenQ_n ?_
        exact ⟨rfl, _, _, _, by omega, ⟨k + 1, hs ++ [z], a4, c4, rfl, by omega, by simp [hhl], by rw [take_succ hx]; simp [hhp, hzp], by intro r hr; rcases List.mem_append.1 hr with hr | hr; exact hho r hr; rw [List.mem_singleton.1 hr]; exact hzo, rfl, rfl⟩, sbb, Imp.pk⟩
      · simp only [decide_eq_false_iff_not, Int.ofNat_lt] at h2
        have hk3 : k = ys.length := by omega
        refine WPC.exit ?_
        refine thenQ_e ?_
        refine thenQ_e ?_
        refine blockQ_here ?_
        refine thenQ_n ?_
        refine WPC.seq ?_
        refine WPC.seqR ?_
        iterate 2 refine stp ?_
        refine WPL.nil ?_
        refine WPC.cond rfl (fun h3 => ?_) (fun h3 => ?_)
        · try simp only [decide_eq_true_eq, decide_eq_false_iff_not, beq_iff_eq, bne_iff_ne, beq_eq_false_iff_ne, bne_eq_false_iff_eq, Bool.not_eq_true', Bool.not_eq_false', Bool.not_eq_eq_eq_not, Bool.not_true, Bool.not_false, ne_eq, Decidable.not_not, Int.not_lt, Int.not_le, gt_iff_lt, ge_iff_le] at h3
          simp at h3
        · rw [List.take_of_length_le (by omega)] at hhp
          subst hk3
          refine WPC.bufFact mm fun hsb => ?_
          refine WPC.skip ?_
          refine thenQ_n ?_
          refine WPC.seq ?_
          refine WPC.seqR ?_
          refine WPL.imp (Imp.pk (Δ := [buf 4 ha ys.length hc (hs.flatMap encRR), bytes (hs.map (·.x.b)), cells true bk 0 [.pointer (some ⟨db, 0, none⟩), .pointer (some ⟨jb, 0, none⟩), .int .i64 (at_ : Int), .int .i64 (n : Int), .slice a2 (headB sl).length c2, .int .u64 (sl.log.base : Int), .slice ha ys.length hc], cells true bs 0 (stV (⟨sl.term, sl.vote, sl.log.base, sl.log.bt, [], none, 0, 0⟩ : SV)), cells true b1 0 (stV ⟨0, 0, 0, 0, [], none, 0, 0⟩), jour jb db j, disk db d1, Sl.sl false a2 ((headB sl).map u8)])) ?_
          refine WPL.bufOpen fun sp hsb hsp => ?_
          refine WPL.imp ((Imp.slEmpty (p := false) (a := none)).trans bytes_nil) ?_
          iterate 6 refine stp ?_
          refine WPL.nil ?_
          refine WPC.midS (fun e Γ => ∃ cur : SV, cur.ok ∧ cur.term = sl.term ∧ cur.vote = sl.vote ∧ cur.base = sl.log.base ∧ cur.n ≤ ys.length ∧ cur.lg = foldLog sl.log rs ∧ e = [(6, .pointer none), (7, .pointer (some ⟨b1, 0, none⟩)), (8, .int .i64 0), (12, .pointer (some ⟨bk, 0, none⟩)), (13, .pointer (some ⟨bs, 0, none⟩))] ∧ Γ = [Sl.sl true ha (hs.flatMap encRR), cells true (blk ha) (off ha + (hs.flatMap encRR).length) sp, bytes (hs.map (·.x.b)), cells true bk 0 [.pointer (some ⟨db, 0, none⟩), .pointer (some ⟨jb, 0, none⟩), .int .i64 (at_ : Int), .int .i64 (n : Int), .slice a2 (headB sl).length c2, .int .u64 (sl.log.base : Int), .slice ha ys.length hc], cells true bs 0 (stV cur), cells true b1 0 (stV ⟨0, 0, 0, 0, [], none, 0, 0⟩), SV.ents cur, SV.dat cur, jour jb db j, disk db d1, Sl.sl false a2 ((headB sl).map u8)]) ?_ ?_
          · refine WPC.block ?_
            refine WPC.loopS (fun m e Γ => ∃ (i : Nat) (cur : SV), m = ys.length - i ∧ i ≤ ys.length ∧ cur.ok ∧ cur.term = sl.term ∧ cur.vote = sl.vote ∧ cur.base = sl.log.base ∧ cur.n ≤ i ∧ foldLog cur.lg (rs.drop i) = foldLog sl.log rs ∧ e = [(6, .pointer none), (7, .pointer (some ⟨b1, 0, none⟩)), (8, .int .i64 0), (12, .pointer (some ⟨bk, 0, none⟩)), (13, .pointer (some ⟨bs, 0, none⟩)), (81, .slice ha ys.length hc), (82, .int .i64 (ys.length : Int)), (83, .int .i64 (i : Int))] ∧ Γ = [Sl.sl true ha (hs.flatMap encRR), cells true (blk ha) (off ha + (hs.flatMap encRR).length) sp, bytes (hs.map (·.x.b)), cells true bk 0 [.pointer (some ⟨db, 0, none⟩), .pointer (some ⟨jb, 0, none⟩), .int .i64 (at_ : Int), .int .i64 (n : Int), .slice a2 (headB sl).length c2, .int .u64 (sl.log.base : Int), .slice ha ys.length hc], cells true bs 0 (stV cur), cells true b1 0 (stV ⟨0, 0, 0, 0, [], none, 0, 0⟩), SV.ents cur, SV.dat cur, jour jb db j, disk db d1, Sl.sl false a2 ((headB sl).map u8)]) (ys.length) ⟨0, (⟨sl.term, sl.vote, sl.log.base, sl.log.bt, [], none, 0, 0⟩ : SV), rfl, by omega, ⟨⟨rfl, Nat.le_refl _, .inl rfl⟩, by show 0 < _; omega, by simp, ⟨hk.t, by have := hk.b; show sl.log.base < _; omega, hk.bt⟩, by simp⟩, rfl, rfl, rfl, Nat.le_refl _, by show foldLog ⟨sl.log.base, sl.log.bt, []⟩ rs = _; rw [← hk0], rfl, rfl⟩ sbb Imp.pk ?_
            rintro m e Γ ⟨i, cur, rfl, hi, hco, hct, hcv, hcb, hcn, hcf, rfl, rfl⟩
            have hcb2 := hk.b
            have hcs := hco.sk
            have hcl := hco.len
            have hcn2 := hco.n
            refine WPC.seqR ?_
            refine stp ?_
            refine WPL.nil ?_
            refine WPC.seq ?_
            refine WPC.cond rfl (fun h4 => ?_) (fun h4 => ?_)
            · simp only [decide_eq_true_eq, Int.ofNat_lt] at h4
              have hhl2 : hs.length = ys.length := hhl
              have hp : Pl ha := hsb.at (by omega) (by omega)
              obtain ⟨r, hr⟩ : ∃ r, hs[i]? = some r := ⟨hs[i]'(by omega), by simp⟩
              have hro := hho r (List.mem_of_getElem? hr)
              have hrp : rs[i]? = some r.pl := by rw [← hhp, List.getElem?_map, hr]; rfl
              have hstep := foldLog_step (l := cur.lg) hrp
              have hlb : cur.lg.base = cur.base := rfl
              have hll : cur.lg.last = cur.base + cur.n := by show _ + (cur.es.map RE.pl).length = _; rw [List.length_map, hcl]; rfl
              have hr1 : r.pl.1 = r.at_ := rfl
              rw [hlb, hll, hr1, hcf] at hstep
              refine WPC.skip ?_
              refine thenQ_n ?_
              refine WPC.seq ?_
              refine WPC.block ?_
              refine WPC.seqR ?_
              refine L_s (q_idxN (i := i) sl_sl_keep_record rfl rfl h4 hp) rfl ?_
              refine L_s (q_ldFlat ld_keep_record rfl mm encRR_len hr) rfl ?_
              refine nw fun bw => ?_
              refine sto ?_
              refine WPL.nil ?_
              refine WPC.seq ?_
              refine WPC.seqD mixed ?_
              refine atP 0 rfl ?_
              refine atL 1 rfl ?_
              refine atP 2 rfl ?_
              refine atP 3 rfl ?_
              refine atL 4 rfl ?_
              refine atP 5 rfl ?_
              refine atP 6 rfl ?_
              refine WPA.split 93 _ rfl (fun g20_6 => ?_) (fun g20_6 => ?_)
              · have hgt : cur.base < r.at_ := by simp at g20_6; omega
                rw [if_pos hgt] at hstep
                refine atPY 7 rfl rfl rfl ?_
                refine atLY 8 rfl rfl rfl ?_
                refine atPY 9 rfl rfl rfl ?_
                refine atLY 10 rfl rfl rfl ?_
                refine WPA.oneY 11 [(8, [_])] (by kernel_rfl) rfl rfl rfl rfl (by repeat (first | exact .nil | refine .anc rfl ?_ | refine .keep mm ?_)) (C1.call (c_call Tryd.func38 rfl rfl rfl) (c_Last (by omega) (by omega)) pkk rfl ?_)
                rintro _ _ ⟨rfl, rfl⟩
                refine ⟨(.cons (Ent.mem mm) (.nil _)), ?_⟩
                refine WPA.putS ?_
                refine atPY 12 rfl rfl rfl ?_
                refine atPY 13 rfl rfl rfl ?_
                refine atP 14 rfl ?_
                refine WPA.done (by kernel_rfl) ?_
                refine WPC.cond rfl (fun h5 => ?_) (fun h5 => ?_)
                · have hcf2 : cur.lg = foldLog sl.log rs := by rw [hstep, if_neg (by simp at h5; omega)]
                  refine WPC.exit ?_
                  refine thenQ_e ?_
                  refine blockQ_there (by decide) ?_
                  refine thenQ_e ?_
                  refine thenQ_e ?_
                  refine blockQ_here ?_
                  refine thenQ_n ?_
                  exact ⟨rfl, _, _, ⟨cur, hco, hct, hcv, hcb, by omega, hcf2, rfl, rfl⟩, sbb, Imp.pk⟩
                · have heq : r.at_ = cur.base + cur.n + 1 := by simp at h5; omega
                  rw [if_pos heq] at hstep
                  refine WPC.skip ?_
                  refine thenQ_n ?_
                  refine WPC.seqR ?_
                  iterate 6 refine stp ?_
                  refine WPL.nil ?_
                  refine WPC.cond rfl (fun h6 => ?_) (fun h6 => ?_)
                  · skip
                    refine WPC.region ?_
                    iterate 4 refine stp ?_
                    refine kall rfl (c_TAdd hcs (by omega) r.x) ?_
                    rintro _ _ ⟨a3, c3, rfl, hs3, rfl⟩
                    refine stp ?_
                    refine sto ?_
                    refine WPL.nil ?_
                    refine blockQ_n ?_
                    refine thenQ_n ?_
                    refine WPC.region ?_
                    refine WPL.imp ((Imp.pk (Δ := [bytes (hs.map (·.x.b)), SV.dat cur, cells true bk 0 [.pointer (some ⟨db, 0, none⟩), .pointer (some ⟨jb, 0, none⟩), .int .i64 (at_ : Int), .int .i64 (n : Int), .slice a2 (headB sl).length c2, .int .u64 (sl.log.base : Int), .slice ha ys.length hc], cells true bs 0 (stV ({ cur with es := cur.es ++ [r.x], a := a3, n := cur.n + 1, c := c3 } : SV)), Sl.sl true ha (hs.flatMap encRR), cells true (blk ha) (off ha + (hs.flatMap encRR).length) sp, cells true b1 0 (stV ⟨0, 0, 0, 0, [], none, 0, 0⟩), SV.ents ({ cur with es := cur.es ++ [r.x], a := a3, n := cur.n + 1, c := c3 } : SV), jour jb db j, disk db d1, Sl.sl false a2 ((headB sl).map u8)])).trans (bytes_one (List.mem_map.2 ⟨r, List.mem_of_getElem? hr, rfl⟩))) ?_
                    refine WPL.imp ((Imp.pk (Δ := [r.x.b.at_, bytes (cur.es.map RE.b), bytes (hs.map (·.x.b)), cells true bk 0 [.pointer (some ⟨db, 0, none⟩), .pointer (some ⟨jb, 0, none⟩), .int .i64 (at_ : Int), .int .i64 (n : Int), .slice a2 (headB sl).length c2, .int .u64 (sl.log.base : Int), .slice ha ys.length hc], cells true bs 0 (stV ({ cur with es := cur.es ++ [r.x], a := a3, n := cur.n + 1, c := c3 } : SV)), Sl.sl true ha (hs.flatMap encRR), cells true (blk ha) (off ha + (hs.flatMap encRR).length) sp, cells true b1 0 (stV ⟨0, 0, 0, 0, [], none, 0, 0⟩), SV.ents ({ cur with es := cur.es ++ [r.x], a := a3, n := cur.n + 1, c := c3 } : SV), jour jb db j, disk db d1, Sl.sl false a2 ((headB sl).map u8)])).trans bytes_snoc) ?_
                    rw [show cur.es.map RE.b ++ [r.x.b] = (cur.es ++ [r.x]).map RE.b by simp]
                    iterate 2 refine stp ?_
                    refine WPL.nil ?_
                    refine thenQ_n ?_
                    exact ⟨rfl, _, _, _, by omega, ⟨i + 1, ({ cur with es := cur.es ++ [r.x], a := a3, n := cur.n + 1, c := c3 } : SV), rfl, by omega, ⟨hs3, by show cur.n + 1 < _; omega, fun e he => by rcases List.mem_append.1 he with he | he; exact hco.b e he; rw [List.mem_singleton.1 he]; exact hro, hco.u, fun e he => by rcases List.mem_append.1 he with he | he; exact hco.t e he; rw [List.mem_singleton.1 he]; exact (hrok r.pl (List.mem_of_getElem? hrp)).1.1⟩, hct, hcv, hcb, by show cur.n + 1 ≤ _; omega, by rw [hstep]; unfold SV.lg LG.add; rw [List.map_append]; rfl, rfl, rfl⟩, sbb, Imp.pk⟩
                  · skip
                    (first | omega | (simp at h6; omega) | simp at h6)
              · have hgt : ¬ cur.base < r.at_ := by simp at g20_6; omega
                rw [if_neg hgt] at hstep
                refine WPA.takeN 7 rfl rfl rfl rfl rfl (by kernel_rfl) (by kernel_rfl) (by kernel_rfl) rfl (.cons (Ent.mem mm) (.cons (Ent.mem mm) (.nil _))) ?_
                refine WPA.putS ?_
                refine WPA.takeN 8 rfl rfl rfl rfl rfl (by kernel_rfl) (by kernel_rfl) (by kernel_rfl) rfl (.cons (Ent.mem mm) (.cons (Ent.mem mm) (.nil _))) ?_
                refine WPA.putS ?_
                refine WPA.takeN 9 rfl rfl rfl rfl rfl (by kernel_rfl) (by kernel_rfl) (by kernel_rfl) rfl (.cons (Ent.mem mm) (.cons (Ent.mem mm) (.nil _))) ?_
                refine WPA.putS ?_
                refine WPA.takeN 10 rfl rfl rfl rfl rfl (by kernel_rfl) (by kernel_rfl) (by kernel_rfl) rfl (.cons (Ent.mem mm) (.cons (Ent.mem mm) (.nil _))) ?_
                refine WPA.putS ?_
                refine WPA.takeN 11 rfl rfl rfl rfl rfl (by kernel_rfl) (by kernel_rfl) (by kernel_rfl) rfl (.cons (Ent.mem mm) (.cons (Ent.mem mm) (.nil _))) ?_
                refine WPA.putS ?_
                refine WPA.takeN 12 rfl rfl rfl rfl rfl (by kernel_rfl) (by kernel_rfl) (by kernel_rfl) rfl (.cons (Ent.mem mm) (.cons (Ent.mem mm) (.nil _))) ?_
                refine WPA.putS ?_
                refine WPA.takeN 13 rfl rfl rfl rfl rfl (by kernel_rfl) (by kernel_rfl) (by kernel_rfl) rfl (.cons (Ent.mem mm) (.cons (Ent.mem mm) (.nil _))) ?_
                refine WPA.putS ?_
                refine atP 14 rfl ?_
                refine WPA.done (by kernel_rfl) ?_
                refine WPC.cond rfl (fun h5 => ?_) (fun h5 => ?_)
                · skip
                  simp at h5
                · skip
                  refine WPC.skip ?_
                  refine thenQ_n ?_
                  refine WPC.seqR ?_
                  iterate 6 refine stp ?_
                  refine WPL.nil ?_
                  refine WPC.cond rfl (fun h6 => ?_) (fun h6 => ?_)
                  · skip
                    (first | omega | (simp at h6; omega) | simp at h6)
                  · skip
                    refine WPC.skip ?_
                    refine blockQ_n ?_
                    refine thenQ_n ?_
                    refine WPC.region ?_
                    skip
                    iterate 2 refine stp ?_
                    refine WPL.nil ?_
                    refine thenQ_n ?_
                    exact ⟨rfl, _, _, _, by omega, ⟨i + 1, cur, rfl, by omega, hco, hct, hcv, hcb, by omega, hstep.symm, rfl, rfl⟩, sbb, Imp.pk⟩
            · simp only [decide_eq_false_iff_not, Int.ofNat_lt] at h4
              have hcf2 : cur.lg = foldLog sl.log rs := by rw [← hcf, List.drop_eq_nil_of_le (by omega)]; rfl
              refine WPC.exit ?_
              refine thenQ_e ?_
              refine thenQ_e ?_
              refine blockQ_here ?_
              refine thenQ_n ?_
              exact ⟨rfl, _, _, ⟨cur, hco, hct, hcv, hcb, by omega, hcf2, rfl, rfl⟩, sbb, Imp.pk⟩
          · rintro e Γ ⟨cur, hco, hct, hcv, hcb, hcn, hcf2, rfl, rfl⟩
            have hcb2 := hk.b
            have hcs := hco.sk
            have hcl := hco.len
            have hcn2 := hco.n
            have hlt := lgLastTerm_eq cur
            refine WPC.seq ?_
            refine WPC.seqR ?_
            iterate 2 refine stp ?_
            refine kall rfl (c_LastTerm hcs (by omega) (by omega)) ?_
            rintro _ _ ⟨rfl, rfl⟩
            rw [hlt]
            refine stp ?_
            refine WPL.nil ?_
            refine WPC.seqR ?_
            iterate 4 refine stp ?_
            refine WPL.nil ?_
            refine WPC.cond rfl (fun h7 => ?_) (fun h7 => ?_)
            · have h7 : cur.term < cur.lg.lastTerm := by simp at h7; omega
              refine WPC.region ?_
              iterate 2 refine stp ?_
              refine sto ?_
              refine stp ?_
              refine sto ?_
              refine WPL.nil ?_
              refine thenQ_n ?_
              refine WPC.seqD mixed ?_
              refine atP 0 rfl ?_
              refine atL 1 rfl ?_
              refine atP 2 rfl ?_
              refine WPA.oneE 3 [] (by kernel_rfl) rfl rfl (by repeat (first | exact .nil | refine .anc rfl ?_ | refine .keep mm ?_)) (S1.wpo (s_storeNz sz_keep_State rfl rfl (by simp [Value.oneCell']) rfl uu (by repeat constructor)) rfl ?_)
              refine ⟨(.nil _), ?_⟩
              refine WPA.putN ?_
              refine atP 4 rfl ?_
              refine WPA.done (by kernel_rfl) ?_
              refine WPC.ret ?_
              have hks : SV.ks (⟨cur.lg.lastTerm, -1, cur.base, cur.bt, cur.es, cur.a, cur.n, cur.c⟩ : SV) = openSt sl rs := by
                unfold openSt bump
                rw [← hcf2]
                dsimp only
                rw [if_pos (show sl.term < cur.lg.lastTerm by omega)]
                rfl
              rw [show ys.length = hs.length from hhl.symm] at hsb hsp ⊢
              exact endR_r rfl (.tmp rfl (.cellN (us := [_, _, _, _, _]) rfl ld_keep_State mm rfl rfl (.tmp rfl .nil))) ((Imp.pk (Δ := [Sl.sl true ha (hs.flatMap encRR), cells true (blk ha) (off ha + (hs.flatMap encRR).length) sp, cells true bk 0 [.pointer (some ⟨db, 0, none⟩), .pointer (some ⟨jb, 0, none⟩), .int .i64 (at_ : Int), .int .i64 (n : Int), .slice a2 (headB sl).length c2, .int .u64 (sl.log.base : Int), .slice ha hs.length hc], bytes (hs.map (·.x.b)), jour jb db j, disk db d1, Sl.sl false a2 ((headB sl).map u8), SV.ents (⟨cur.lg.lastTerm, -1, cur.base, cur.bt, cur.es, cur.a, cur.n, cur.c⟩ : SV), SV.dat (⟨cur.lg.lastTerm, -1, cur.base, cur.bt, cur.es, cur.a, cur.n, cur.c⟩ : SV)])).trans ((Imp.bufClose hsb hsp).trans ((Imp.pk).trans (kpr_close (b := bk) (db := db) (jb := jb) (K := ⟨j, at_, n, headB sl, sl.log.base, rs⟩) ⟨a2, c2, hs, ha, hc⟩ ⟨hs2, hhp, hho⟩ (Γ := [jour jb db j, disk db d1, SV.ents (⟨cur.lg.lastTerm, -1, cur.base, cur.bt, cur.es, cur.a, cur.n, cur.c⟩ : SV), SV.dat (⟨cur.lg.lastTerm, -1, cur.base, cur.bt, cur.es, cur.a, cur.n, cur.c⟩ : SV)]))))) ⟨bk, jb, (⟨cur.lg.lastTerm, -1, cur.base, cur.bt, cur.es, cur.a, cur.n, cur.c⟩ : SV), rfl, ⟨hcs, hcn2, hco.b, ⟨hco.last, hco.u.2.1, hco.u.2.2⟩, hco.t⟩, by show cur.n ≤ _; omega, hks, rfl⟩
            · have h7 : ¬ cur.term < cur.lg.lastTerm := by simp at h7; omega
              refine WPC.skip ?_
              refine thenQ_n ?_
              refine WPC.seqD mixed ?_
              refine atP 0 rfl ?_
              refine atL 1 rfl ?_
              refine atP 2 rfl ?_
              refine WPA.oneE 3 [] (by kernel_rfl) rfl rfl (by repeat (first | exact .nil | refine .anc rfl ?_ | refine .keep mm ?_)) (S1.wpo (s_storeNz sz_keep_State rfl rfl (by simp [Value.oneCell']) rfl uu (by repeat constructor)) rfl ?_)
              refine ⟨(.nil _), ?_⟩
              refine WPA.putN ?_
              refine atP 4 rfl ?_
              refine WPA.done (by kernel_rfl) ?_
              refine WPC.ret ?_
              have hks : SV.ks cur = openSt sl rs := by
                unfold openSt bump
                rw [← hcf2]
                dsimp only
                rw [if_neg (show ¬ sl.term < cur.lg.lastTerm by omega)]
                unfold SV.ks; rw [hct, hcv]
              rw [show ys.length = hs.length from hhl.symm] at hsb hsp ⊢
              exact endR_r rfl (.tmp rfl (.cellN (us := [_, _, _, _, _]) rfl ld_keep_State mm rfl rfl (.tmp rfl .nil))) ((Imp.pk (Δ := [Sl.sl true ha (hs.flatMap encRR), cells true (blk ha) (off ha + (hs.flatMap encRR).length) sp, cells true bk 0 [.pointer (some ⟨db, 0, none⟩), .pointer (some ⟨jb, 0, none⟩), .int .i64 (at_ : Int), .int .i64 (n : Int), .slice a2 (headB sl).length c2, .int .u64 (sl.log.base : Int), .slice ha hs.length hc], bytes (hs.map (·.x.b)), jour jb db j, disk db d1, Sl.sl false a2 ((headB sl).map u8), SV.ents cur, SV.dat cur])).trans ((Imp.bufClose hsb hsp).trans ((Imp.pk).trans (kpr_close (b := bk) (db := db) (jb := jb) (K := ⟨j, at_, n, headB sl, sl.log.base, rs⟩) ⟨a2, c2, hs, ha, hc⟩ ⟨hs2, hhp, hho⟩ (Γ := [jour jb db j, disk db d1, SV.ents cur, SV.dat cur]))))) ⟨bk, jb, cur, rfl, hco, by show cur.n ≤ _; omega, hks, rfl⟩

end Go.Sl
/- Walks: what is looked for, what is right. -/
namespace Go.Sl
open Go Go.RowKit Go.Proofs
set_option linter.unusedSimpArgs false
set_option linter.unusedVariables false
attribute [local irreducible] faB szB ldB zB zL slB mkB arB plB intB cells objc star stars buf slv grp whole Sat WPC WPL WPA WPO WPQ Trip Q1 E1 S1 C1

theorem c_IndexE {p : Bool} {a : Option Addr} {n c : Nat} {xs : List RE} (hs : Sok 3 a n c (xs.flatMap encE)) (hn : n < 9223372036854775808) {k : Nat} {fn : Func} {cd : Code} {q : Array Value} {C : A} {f : RE → Bool} (hk : Tryd.prog.funcs[k]? = some fn) (hcb : fn.body = some cd) (hkn : (fn.name == "runtime.NumGoroutine") = false) (hcl : ∀ x, Trip Tryd.prog k (#[] ++ [Value.agg (encE x).toArray].toArray ++ q) [C] (fun r Δ => r = .bool (f x) ∧ Δ = [C])) : Trip Tryd.prog 74 #[.slice a n c, .func (.func k) #[] q] [sl p a (xs.flatMap encE), C] fun r Δ => (∃ i : Int, r = .int .i64 i ∧ ((i = -1 ∧ ∀ x ∈ xs, f x = false) ∨ (∃ (j : Nat) (x : RE), i = (j : Int) ∧ xs[j]? = some x ∧ f x = true ∧ ∀ x ∈ xs.take j, f x = false))) ∧ Δ = [sl p a (xs.flatMap encE), C] := by
  have hl : xs.length = n := by have := hs.len; rw [flat_length encE_len] at this; omega
  refine Trip.start 19 [.tmp 4] [(0, .slice a n c), (1, .func (.func k) #[] q)] Tryd.func74 rfl Tryd.ntmps74 rfl ⟨rfl, rfl, trivial⟩ rfl ?_
  refine WPC.seqR ?_
  refine stp ?_
  refine WPL.nil ?_
  refine WPC.seq ?_
  refine WPC.seqR ?_
  iterate 3 refine stp ?_
  refine WPL.nil ?_
  refine WPC.block ?_
  refine WPC.loopS (fun m e Γ => ∃ j : Nat, m = n - j ∧ j ≤ n ∧ (∀ x ∈ xs.take j, f x = false) ∧ e = [(0, .slice a n c), (1, .func (.func k) #[] q), (7, .int .i64 (n : Int)), (8, .int .i64 (j : Int))] ∧ Γ = [sl p a (xs.flatMap encE), C]) (n) ⟨0, rfl, by omega, by simp, rfl, rfl⟩ sbb Imp.pk ?_
  rintro m e Γ ⟨j, rfl, hj, hv, rfl, rfl⟩
  refine WPC.seqR ?_
  refine stp ?_
  refine WPL.nil ?_
  refine WPC.seq ?_
  refine WPC.cond rfl (fun h0 => ?_) (fun h0 => ?_)
  · simp only [decide_eq_true_eq] at h0
    have hj' : j < n := by omega
    have hp : Pl a := hs.at (by omega) (by omega)
    obtain ⟨x, hx⟩ : ∃ x, xs[j]? = some x := ⟨xs[j]'(by omega), by simp⟩
    refine WPC.skip ?_
    refine thenQ_n ?_
    refine WPC.seq ?_
    refine WPC.block ?_
    refine WPC.seqR ?_
    iterate 2 refine stp ?_
    refine WPL.nil ?_
    refine WPC.seqR ?_
    iterate 3 refine stp ?_
    refine L_s (q_idxN (i := j) sl_sl_api_Entry rfl rfl hj' hp) rfl ?_
    refine L_s (q_ldFlat ld_api_Entry rfl mm encE_len hx) rfl ?_
    refine WPL.cons rfl (C1.call (c_callV rfl (by first | assumption | rfl) (by first | assumption | rfl) (by first | assumption | rfl) rfl) (hcl x) pkk rfl ?_)
    rintro _ _ ⟨rfl, rfl⟩
    refine WPL.putS ?_
    refine WPL.nil ?_
    refine WPC.cond rfl (fun h1 => ?_) (fun h1 => ?_)
    · try simp only [decide_eq_true_eq, decide_eq_false_iff_not, beq_iff_eq, bne_iff_ne, beq_eq_false_iff_ne, bne_eq_false_iff_eq, Bool.not_eq_true', Bool.not_eq_false', Bool.not_eq_eq_eq_not, Bool.not_true, Bool.not_false, ne_eq, Decidable.not_not, Int.not_lt, Int.not_le, gt_iff_lt, ge_iff_le] at h1
      refine WPC.seqR ?_
      iterate 2 refine stp ?_
      refine WPL.nil ?_
      refine WPC.ret ?_
      refine blockQ_r ?_
      refine thenQ_r ?_
      refine thenQ_r ?_
      refine blockQ_r ?_
      refine thenQ_r ?_
      exact endR_r rfl (.tmp rfl .nil) Imp.pk ⟨⟨j, rfl, .inr ⟨j, x, rfl, hx, h1, hv⟩⟩, rfl⟩
    · try simp only [decide_eq_true_eq, decide_eq_false_iff_not, beq_iff_eq, bne_iff_ne, beq_eq_false_iff_ne, bne_eq_false_iff_eq, Bool.not_eq_true', Bool.not_eq_false', Bool.not_eq_eq_eq_not, Bool.not_true, Bool.not_false, ne_eq, Decidable.not_not, Int.not_lt, Int.not_le, gt_iff_lt, ge_iff_le] at h1
      refine WPC.skip ?_
      refine blockQ_n ?_
      refine thenQ_n ?_
      refine WPC.region ?_
      iterate 2 refine stp ?_
      refine WPL.nil ?_
      refine thenQ_n ?_
      exact ⟨rfl, _, _, _, by omega, ⟨j + 1, rfl, by omega, by intro y hy; rw [take_succ hx, List.mem_append] at hy; rcases hy with hy | hy; exact hv y hy; rw [List.mem_singleton] at hy; rw [hy]; exact h1, rfl, rfl⟩, sbb, Imp.pk⟩
  · simp only [decide_eq_false_iff_not] at h0
    have hj' : j = n := by omega
    refine WPC.exit ?_
    refine thenQ_e ?_
    refine thenQ_e ?_
    refine blockQ_here ?_
    refine thenQ_n ?_
    refine WPC.seqR ?_
    refine stp ?_
    refine WPL.nil ?_
    refine WPC.ret ?_
    subst hj'
    exact endR_r rfl (.tmp rfl .nil) Imp.pk ⟨⟨-1, rfl, .inl ⟨rfl, by rwa [← hl, List.take_length] at hv⟩⟩, rfl⟩

theorem c_IndexR {p : Bool} {a : Option Addr} {n c : Nat} {xs : List RR} (hs : Sok 4 a n c (xs.flatMap encRR)) (hn : n < 9223372036854775808) {k : Nat} {fn : Func} {cd : Code} {q : Array Value} {C : A} {f : RR → Bool} (hk : Tryd.prog.funcs[k]? = some fn) (hcb : fn.body = some cd) (hkn : (fn.name == "runtime.NumGoroutine") = false) (hcl : ∀ x, Trip Tryd.prog k (#[] ++ [Value.agg (encRR x).toArray].toArray ++ q) [C] (fun r Δ => r = .bool (f x) ∧ Δ = [C])) : Trip Tryd.prog 51 #[.slice a n c, .func (.func k) #[] q] [sl p a (xs.flatMap encRR), C] fun r Δ => (∃ i : Int, r = .int .i64 i ∧ ((i = -1 ∧ ∀ x ∈ xs, f x = false) ∨ (∃ (j : Nat) (x : RR), i = (j : Int) ∧ xs[j]? = some x ∧ f x = true ∧ ∀ x ∈ xs.take j, f x = false))) ∧ Δ = [sl p a (xs.flatMap encRR), C] := by
  have hl : xs.length = n := by have := hs.len; rw [flat_length encRR_len] at this; omega
  refine Trip.start 19 [.tmp 4] [(0, .slice a n c), (1, .func (.func k) #[] q)] Tryd.func51 rfl Tryd.ntmps51 rfl ⟨rfl, rfl, trivial⟩ rfl ?_
  refine WPC.seqR ?_
  refine stp ?_
  refine WPL.nil ?_
  refine WPC.seq ?_
  refine WPC.seqR ?_
  iterate 3 refine stp ?_
  refine WPL.nil ?_
  refine WPC.block ?_
  refine WPC.loopS (fun m e Γ => ∃ j : Nat, m = n - j ∧ j ≤ n ∧ (∀ x ∈ xs.take j, f x = false) ∧ e = [(0, .slice a n c), (1, .func (.func k) #[] q), (7, .int .i64 (n : Int)), (8, .int .i64 (j : Int))] ∧ Γ = [sl p a (xs.flatMap encRR), C]) (n) ⟨0, rfl, by omega, by simp, rfl, rfl⟩ sbb Imp.pk ?_
  rintro m e Γ ⟨j, rfl, hj, hv, rfl, rfl⟩
  refine WPC.seqR ?_
  refine stp ?_
  refine WPL.nil ?_
  refine WPC.seq ?_
  refine WPC.cond rfl (fun h0 => ?_) (fun h0 => ?_)
  · simp only [decide_eq_true_eq] at h0
    have hj' : j < n := by omega
    have hp : Pl a := hs.at (by omega) (by omega)
    obtain ⟨x, hx⟩ : ∃ x, xs[j]? = some x := ⟨xs[j]'(by omega), by simp⟩
    refine WPC.skip ?_
    refine thenQ_n ?_
    refine WPC.seq ?_
    refine WPC.block ?_
    refine WPC.seqR ?_
    iterate 2 refine stp ?_
    refine WPL.nil ?_
    refine WPC.seqR ?_
    iterate 3 refine stp ?_
    refine L_s (q_idxN (i := j) sl_sl_keep_record rfl rfl hj' hp) rfl ?_
    refine L_s (q_ldFlat ld_keep_record rfl mm encRR_len hx) rfl ?_
    refine WPL.cons rfl (C1.call (c_callV rfl (by first | assumption | rfl) (by first | assumption | rfl) (by first | assumption | rfl) rfl) (hcl x) pkk rfl ?_)
    rintro _ _ ⟨rfl, rfl⟩
    refine WPL.putS ?_
    refine WPL.nil ?_
    refine WPC.cond rfl (fun h1 => ?_) (fun h1 => ?_)
    · try simp only [decide_eq_true_eq, decide_eq_false_iff_not, beq_iff_eq, bne_iff_ne, beq_eq_false_iff_ne, bne_eq_false_iff_eq, Bool.not_eq_true', Bool.not_eq_false', Bool.not_eq_eq_eq_not, Bool.not_true, Bool.not_false, ne_eq, Decidable.not_not, Int.not_lt, Int.not_le, gt_iff_lt, ge_iff_le] at h1
      refine WPC.seqR ?_
      iterate 2 refine stp ?_
      refine WPL.nil ?_
      refine WPC.ret ?_
      refine blockQ_r ?_
      refine thenQ_r ?_
      refine thenQ_r ?_
      refine blockQ_r ?_
      refine thenQ_r ?_
      exact endR_r rfl (.tmp rfl .nil) Imp.pk ⟨⟨j, rfl, .inr ⟨j, x, rfl, hx, h1, hv⟩⟩, rfl⟩
    · try simp only [decide_eq_true_eq, decide_eq_false_iff_not, beq_iff_eq, bne_iff_ne, beq_eq_false_iff_ne, bne_eq_false_iff_eq, Bool.not_eq_true', Bool.not_eq_false', Bool.not_eq_eq_eq_not, Bool.not_true, Bool.not_false, ne_eq, Decidable.not_not, Int.not_lt, Int.not_le, gt_iff_lt, ge_iff_le] at h1
      refine WPC.skip ?_
      refine blockQ_n ?_
      refine thenQ_n ?_
      refine WPC.region ?_
      iterate 2 refine stp ?_
      refine WPL.nil ?_
      refine thenQ_n ?_
      exact ⟨rfl, _, _, _, by omega, ⟨j + 1, rfl, by omega, by intro y hy; rw [take_succ hx, List.mem_append] at hy; rcases hy with hy | hy; exact hv y hy; rw [List.mem_singleton] at hy; rw [hy]; exact h1, rfl, rfl⟩, sbb, Imp.pk⟩
  · simp only [decide_eq_false_iff_not] at h0
    have hj' : j = n := by omega
    refine WPC.exit ?_
    refine thenQ_e ?_
    refine thenQ_e ?_
    refine blockQ_here ?_
    refine thenQ_n ?_
    refine WPC.seqR ?_
    refine stp ?_
    refine WPL.nil ?_
    refine WPC.ret ?_
    subst hj'
    exact endR_r rfl (.tmp rfl .nil) Imp.pk ⟨⟨-1, rfl, .inl ⟨rfl, by rwa [← hl, List.take_length] at hv⟩⟩, rfl⟩

theorem c_Right1 (x : RE) : Trip Tryd.prog 46 #[.agg (encE x).toArray] [] fun r Δ => r = .bool x.bad ∧ Δ = [] := by
  refine Trip.start 17 [.tmp 2] [(0, .agg (encE x).toArray)] Tryd.func46 rfl Tryd.ntmps46 rfl ⟨rfl, trivial⟩ rfl ?_
  refine WPC.seqR ?_
  refine nw fun b1 => ?_
  refine stp ?_
  refine WPL.nil ?_
  refine WPC.seqR ?_
  iterate 4 refine stp ?_
  apply WPL.joinO (e' := [(1, _), (2, _)]) 6 10 4 rfl
  · intro g1_3
    try simp only [decide_eq_true_eq, decide_eq_false_iff_not, beq_iff_eq, bne_iff_ne, beq_eq_false_iff_ne, bne_eq_false_iff_eq, Bool.not_eq_true', Bool.not_eq_false', Bool.not_eq_eq_eq_not, Bool.not_true, Bool.not_false, ne_eq, Decidable.not_not, Int.not_lt, Int.not_le, gt_iff_lt, ge_iff_le] at g1_3
    refine L_no rfl rfl rfl rfl ?_
    refine L_no rfl rfl rfl rfl ?_
    refine L_no rfl rfl rfl rfl ?_
    refine stp ?_
    first | exact WPL.jn rfl rfl sbb | exact WPL.jnI rfl rfl sbb Imp.pk
  · intro g1_3
    try simp only [decide_eq_true_eq, decide_eq_false_iff_not, beq_iff_eq, bne_iff_ne, beq_eq_false_iff_ne, bne_eq_false_iff_eq, Bool.not_eq_true', Bool.not_eq_false', Bool.not_eq_eq_eq_not, Bool.not_true, Bool.not_false, ne_eq, Decidable.not_not, Int.not_lt, Int.not_le, gt_iff_lt, ge_iff_le] at g1_3
    iterate 3 refine stpY rfl rfl ?_
    refine stp ?_
    first | exact WPL.jn rfl rfl sbb | exact WPL.jnI rfl rfl sbb Imp.pk
  refine stp ?_
  apply WPL.joinO (e' := [(2, _)]) 11 16 5 rfl
  · intro g1_8
    try simp only [decide_eq_true_eq, decide_eq_false_iff_not, beq_iff_eq, bne_iff_ne, beq_eq_false_iff_ne, bne_eq_false_iff_eq, Bool.not_eq_true', Bool.not_eq_false', Bool.not_eq_eq_eq_not, Bool.not_true, Bool.not_false, ne_eq, Decidable.not_not, Int.not_lt, Int.not_le, gt_iff_lt, ge_iff_le] at g1_8
    refine L_no rfl rfl rfl rfl ?_
    refine L_no rfl rfl rfl rfl ?_
    refine L_no rfl rfl rfl rfl ?_
    refine L_no rfl rfl rfl rfl ?_
    refine stp ?_
    first | exact WPL.jn rfl rfl sbb | exact WPL.jnI rfl rfl sbb Imp.pk
  · intro g1_8
    try simp only [decide_eq_true_eq, decide_eq_false_iff_not, beq_iff_eq, bne_iff_ne, beq_eq_false_iff_ne, bne_eq_false_iff_eq, Bool.not_eq_true', Bool.not_eq_false', Bool.not_eq_eq_eq_not, Bool.not_true, Bool.not_false, ne_eq, Decidable.not_not, Int.not_lt, Int.not_le, gt_iff_lt, ge_iff_le] at g1_8
    iterate 4 refine stpY rfl rfl ?_
    refine stp ?_
    first | exact WPL.jn rfl rfl sbb | exact WPL.jnI rfl rfl sbb Imp.pk
  refine stp ?_
  refine WPL.nil ?_
  refine WPC.ret ?_
  exact endR_r rfl (.tmp rfl .nil) Imp.pk ⟨by simp only [packV]; unfold RE.bad; rfl, rfl⟩

theorem c_ContE {p : Bool} {a : Option Addr} {n c : Nat} {es : List RE} (hs : Sok 3 a n c (es.flatMap encE)) (hn : n < 9223372036854775808) : Trip Tryd.prog 47 #[.slice a n c, .func (.func 46) #[] #[]] [sl p a (es.flatMap encE)] fun r Δ => r = .bool (es.any RE.bad) ∧ Δ = [sl p a (es.flatMap encE)] := by
  refine Trip.start 9 [.tmp 4] [(0, .slice a n c), (1, .func (.func 46) #[] #[])] Tryd.func47 rfl Tryd.ntmps47 rfl ⟨rfl, rfl, trivial⟩ rfl ?_
  refine WPC.seqR ?_
  refine stp ?_
  refine WPL.nil ?_
  refine WPC.seqR ?_
  iterate 2 refine stp ?_
  skip
  refine kall rfl (Trip.imp (bytes_nil.trans (Imp.perm (.swap _ _ _))) (c_IndexE (C := bytes []) hs (by omega) rfl rfl rfl (fun x => Trip.mono ((c_Right1 x).frame [bytes []]) (by rintro _ _ ⟨_, ⟨rfl, rfl⟩, rfl⟩; exact ⟨rfl, rfl⟩)))) ?_
  rintro _ _ ⟨⟨i, rfl, hi⟩, rfl⟩
  have hi2 := idx_of hi
  have hge : decide (i ≥ 0) = es.any RE.bad := by
    rcases hi2 with ⟨h1, -, h2⟩ | ⟨j, h1, -, -, h2⟩
    · rw [h2]; simp; omega
    · rw [h2]; simp; omega
  iterate 2 refine stp ?_
  refine WPL.nil ?_
  refine WPC.ret ?_
  exact endR_r rfl (.tmp rfl .nil) Imp.pk ⟨by simp only [packV]; rw [hge], rfl⟩

theorem c_RightK (s : SV) (hok : s.ok) : Trip Tryd.prog 24 #[.agg (stV s).toArray] [s.ents] fun r Δ => r = .bool (decide s.ks.right) ∧ Δ = [s.ents] := by
  have hfin := rightE_eq hok
  refine Trip.start 31 [.tmp 2] [(0, .agg (stV s).toArray)] Tryd.func24 rfl Tryd.ntmps24 rfl ⟨rfl, trivial⟩ rfl ?_
  refine WPC.seqR ?_
  refine nw fun b1 => ?_
  refine stp ?_
  refine WPL.nil ?_
  refine WPC.seqR ?_
  refine stp ?_
  refine WPL.nil ?_
  refine WPC.seqR ?_
  iterate 4 refine stp ?_
  apply WPL.joinA (e' := [(1, _), (2, _), (3, _)]) 7 12 5 rfl
  · intro g2_3
    try simp only [decide_eq_true_eq, decide_eq_false_iff_not, beq_iff_eq, bne_iff_ne, beq_eq_false_iff_ne, bne_eq_false_iff_eq, Bool.not_eq_true', Bool.not_eq_false', Bool.not_eq_eq_eq_not, Bool.not_true, Bool.not_false, ne_eq, Decidable.not_not, Int.not_lt, Int.not_le, gt_iff_lt, ge_iff_le] at g2_3
    iterate 4 refine stpY rfl rfl ?_
    refine stp ?_
    first | exact WPL.jn rfl rfl sbb | exact WPL.jnI rfl rfl sbb Imp.pk
  · intro g2_3
    try simp only [decide_eq_true_eq, decide_eq_false_iff_not, beq_iff_eq, bne_iff_ne, beq_eq_false_iff_ne, bne_eq_false_iff_eq, Bool.not_eq_true', Bool.not_eq_false', Bool.not_eq_eq_eq_not, Bool.not_true, Bool.not_false, ne_eq, Decidable.not_not, Int.not_lt, Int.not_le, gt_iff_lt, ge_iff_le] at g2_3
    refine L_no rfl rfl rfl rfl ?_
    refine L_no rfl rfl rfl rfl ?_
    refine L_no rfl rfl rfl rfl ?_
    refine L_no rfl rfl rfl rfl ?_
    refine stp ?_
    first | exact WPL.jn rfl rfl sbb | exact WPL.jnI rfl rfl sbb Imp.pk
  refine stp ?_
  apply WPL.joinA (e' := [(1, _), (2, _), (3, _)]) 13 17 4 rfl
  · intro g2_9
    try simp only [decide_eq_true_eq, decide_eq_false_iff_not, beq_iff_eq, bne_iff_ne, beq_eq_false_iff_ne, bne_eq_false_iff_eq, Bool.not_eq_true', Bool.not_eq_false', Bool.not_eq_eq_eq_not, Bool.not_true, Bool.not_false, ne_eq, Decidable.not_not, Int.not_lt, Int.not_le, gt_iff_lt, ge_iff_le] at g2_9
    iterate 3 refine stpY rfl rfl ?_
    refine stp ?_
    first | exact WPL.jn rfl rfl sbb | exact WPL.jnI rfl rfl sbb Imp.pk
  · intro g2_9
    try simp only [decide_eq_true_eq, decide_eq_false_iff_not, beq_iff_eq, bne_iff_ne, beq_eq_false_iff_ne, bne_eq_false_iff_eq, Bool.not_eq_true', Bool.not_eq_false', Bool.not_eq_eq_eq_not, Bool.not_true, Bool.not_false, ne_eq, Decidable.not_not, Int.not_lt, Int.not_le, gt_iff_lt, ge_iff_le] at g2_9
    refine L_no rfl rfl rfl rfl ?_
    refine L_no rfl rfl rfl rfl ?_
    refine L_no rfl rfl rfl rfl ?_
    refine stp ?_
    first | exact WPL.jn rfl rfl sbb | exact WPL.jnI rfl rfl sbb Imp.pk
  refine stp ?_
  apply WPL.joinA (e' := [(1, _), (2, _), (3, _)]) 18 22 4 rfl
  · intro g2_14
    try simp only [decide_eq_true_eq, decide_eq_false_iff_not, beq_iff_eq, bne_iff_ne, beq_eq_false_iff_ne, bne_eq_false_iff_eq, Bool.not_eq_true', Bool.not_eq_false', Bool.not_eq_eq_eq_not, Bool.not_true, Bool.not_false, ne_eq, Decidable.not_not, Int.not_lt, Int.not_le, gt_iff_lt, ge_iff_le] at g2_14
    iterate 3 refine stpY rfl rfl ?_
    refine stp ?_
    first | exact WPL.jn rfl rfl sbb | exact WPL.jnI rfl rfl sbb Imp.pk
  · intro g2_14
    try simp only [decide_eq_true_eq, decide_eq_false_iff_not, beq_iff_eq, bne_iff_ne, beq_eq_false_iff_ne, bne_eq_false_iff_eq, Bool.not_eq_true', Bool.not_eq_false', Bool.not_eq_eq_eq_not, Bool.not_true, Bool.not_false, ne_eq, Decidable.not_not, Int.not_lt, Int.not_le, gt_iff_lt, ge_iff_le] at g2_14
    refine L_no rfl rfl rfl rfl ?_
    refine L_no rfl rfl rfl rfl ?_
    refine L_no rfl rfl rfl rfl ?_
    refine stp ?_
    first | exact WPL.jn rfl rfl sbb | exact WPL.jnI rfl rfl sbb Imp.pk
  refine stp ?_
  apply WPL.joinA (e' := [(2, _)]) 23 30 7 rfl
  · intro g2_19
    try simp only [decide_eq_true_eq, decide_eq_false_iff_not, beq_iff_eq, bne_iff_ne, beq_eq_false_iff_ne, bne_eq_false_iff_eq, Bool.not_eq_true', Bool.not_eq_false', Bool.not_eq_eq_eq_not, Bool.not_true, Bool.not_false, ne_eq, Decidable.not_not, Int.not_lt, Int.not_le, gt_iff_lt, ge_iff_le] at g2_19
    iterate 4 refine stpY rfl rfl ?_
    refine L_eyes rfl rfl rfl (C1.call (c_call Tryd.func47 rfl rfl rfl) (c_ContE hok.sk hok.n) pkk rfl ?_)
    rintro _ _ ⟨rfl, rfl⟩
    refine WPL.putS ?_
    refine stpY rfl rfl ?_
    refine stp ?_
    first | exact WPL.jn rfl rfl sbb | exact WPL.jnI rfl rfl sbb Imp.pk
  · intro g2_19
    try simp only [decide_eq_true_eq, decide_eq_false_iff_not, beq_iff_eq, bne_iff_ne, beq_eq_false_iff_ne, bne_eq_false_iff_eq, Bool.not_eq_true', Bool.not_eq_false', Bool.not_eq_eq_eq_not, Bool.not_true, Bool.not_false, ne_eq, Decidable.not_not, Int.not_lt, Int.not_le, gt_iff_lt, ge_iff_le] at g2_19
    refine L_no rfl rfl rfl rfl ?_
    refine L_no rfl rfl rfl rfl ?_
    refine L_no rfl rfl rfl rfl ?_
    refine L_no rfl rfl rfl rfl ?_
    refine L_no rfl rfl rfl rfl ?_
    refine L_no rfl rfl rfl rfl ?_
    refine stp ?_
    first | exact WPL.jn rfl rfl sbb | exact WPL.jnI rfl rfl sbb Imp.pk
  refine stp ?_
  refine WPL.nil ?_
  refine WPC.ret ?_
  exact endR_r rfl (.tmp rfl .nil) Imp.pk ⟨by simp only [packV]; rw [hfin], rfl⟩

theorem c_ksame (r : RR) (s : SV) (hok : s.ok) (hsn : s.n < 1000000000) (hb : r.x.b.ok) (hr : r.at_ < 18446744073709551616) (hs2 : s.base < 1152921504606846976) : Trip Tryd.prog 55 #[.agg (encRR r).toArray, .agg (lgV s).toArray] [r.x.b.at_, s.ents, s.dat] fun v Δ => v = .bool (sameE s r) ∧ Δ = [r.x.b.at_, s.ents, s.dat] := by
  have hon := hok.n
  refine Trip.start 39 [.tmp 4] [(0, .agg (encRR r).toArray), (1, .agg (lgV s).toArray)] Tryd.func55 rfl Tryd.ntmps55 rfl ⟨rfl, rfl, trivial⟩ rfl ?_
  refine WPC.seqR ?_
  refine nw fun b1 => ?_
  refine nw fun b2 => ?_
  refine stp ?_
  refine WPL.nil ?_
  refine WPC.seqR ?_
  iterate 3 refine stp ?_
  refine kall rfl (c_Entry hok.sk (by omega) (by omega) (r.at_ : Int) (by omega)) ?_
  rintro _ _ ⟨rfl, rfl⟩
  iterate 3 refine stp ?_
  refine nw fun bx => ?_
  refine sto ?_
  refine stp ?_
  refine WPL.nil ?_
  obtain ⟨hxo, hxi⟩ := hok.get (r.at_ : Int)
  have hfin := sameE_eq s r
  obtain ⟨x, hx⟩ : ∃ x, (lgEntry (s.base : Int) s.es (r.at_ : Int)).getD RE.zero = x := ⟨_, rfl⟩
  rw [hx] at hxo hxi hfin ⊢
  refine WPC.seqR ?_
  refine WPL.imp ((Imp.pk (Δ := [s.dat, cells true bx 0 (encE x), cells true b1 0 (encRR r), r.x.b.at_, s.ents])).trans (hxi _)) ?_
  iterate 2 refine stp ?_
  apply WPL.joinA (e' := [(2, _), (4, _), (5, _)]) 15 22 7 rfl
  · intro g2_1
    try simp only [decide_eq_true_eq, decide_eq_false_iff_not, beq_iff_eq, bne_iff_ne, beq_eq_false_iff_ne, bne_eq_false_iff_eq, Bool.not_eq_true', Bool.not_eq_false', Bool.not_eq_eq_eq_not, Bool.not_true, Bool.not_false, ne_eq, Decidable.not_not, Int.not_lt, Int.not_le, gt_iff_lt, ge_iff_le] at g2_1
    iterate 6 refine stpY rfl rfl ?_
    refine stp ?_
    first | exact WPL.jn rfl rfl sbb | exact WPL.jnI rfl rfl sbb Imp.pk
  · intro g2_1
    try simp only [decide_eq_true_eq, decide_eq_false_iff_not, beq_iff_eq, bne_iff_ne, beq_eq_false_iff_ne, bne_eq_false_iff_eq, Bool.not_eq_true', Bool.not_eq_false', Bool.not_eq_eq_eq_not, Bool.not_true, Bool.not_false, ne_eq, Decidable.not_not, Int.not_lt, Int.not_le, gt_iff_lt, ge_iff_le] at g2_1
    refine L_no rfl rfl rfl rfl ?_
    refine L_no rfl rfl rfl rfl ?_
    refine L_no rfl rfl rfl rfl ?_
    refine L_no rfl rfl rfl rfl ?_
    refine L_no rfl rfl rfl rfl ?_
    refine L_no rfl rfl rfl rfl ?_
    refine stp ?_
    first | exact WPL.jn rfl rfl sbb | exact WPL.jnI rfl rfl sbb Imp.pk
  refine stp ?_
  apply WPL.joinA (e' := [(2, _), (4, _), (5, _)]) 23 30 7 rfl
  · intro g2_9
    try simp only [decide_eq_true_eq, decide_eq_false_iff_not, beq_iff_eq, bne_iff_ne, beq_eq_false_iff_ne, bne_eq_false_iff_eq, Bool.not_eq_true', Bool.not_eq_false', Bool.not_eq_eq_eq_not, Bool.not_true, Bool.not_false, ne_eq, Decidable.not_not, Int.not_lt, Int.not_le, gt_iff_lt, ge_iff_le] at g2_9
    iterate 6 refine stpY rfl rfl ?_
    refine stp ?_
    first | exact WPL.jn rfl rfl sbb | exact WPL.jnI rfl rfl sbb Imp.pk
  · intro g2_9
    try simp only [decide_eq_true_eq, decide_eq_false_iff_not, beq_iff_eq, bne_iff_ne, beq_eq_false_iff_ne, bne_eq_false_iff_eq, Bool.not_eq_true', Bool.not_eq_false', Bool.not_eq_eq_eq_not, Bool.not_true, Bool.not_false, ne_eq, Decidable.not_not, Int.not_lt, Int.not_le, gt_iff_lt, ge_iff_le] at g2_9
    refine L_no rfl rfl rfl rfl ?_
    refine L_no rfl rfl rfl rfl ?_
    refine L_no rfl rfl rfl rfl ?_
    refine L_no rfl rfl rfl rfl ?_
    refine L_no rfl rfl rfl rfl ?_
    refine L_no rfl rfl rfl rfl ?_
    refine stp ?_
    first | exact WPL.jn rfl rfl sbb | exact WPL.jnI rfl rfl sbb Imp.pk
  refine stp ?_
  apply WPL.joinA (e' := [(4, _)]) 31 38 7 rfl
  · intro g2_17
    try simp only [decide_eq_true_eq, decide_eq_false_iff_not, beq_iff_eq, bne_iff_ne, beq_eq_false_iff_ne, bne_eq_false_iff_eq, Bool.not_eq_true', Bool.not_eq_false', Bool.not_eq_eq_eq_not, Bool.not_true, Bool.not_false, ne_eq, Decidable.not_not, Int.not_lt, Int.not_le, gt_iff_lt, ge_iff_le] at g2_17
    iterate 5 refine stpY rfl rfl ?_
    refine L_eyes rfl rfl rfl (C1.call (c_call Tryd.func49 rfl rfl rfl) (c_Equal (p := false) (q := false) hxo hb) pkk rfl ?_)
    rintro _ _ ⟨rfl, rfl⟩
    refine WPL.putS ?_
    refine stp ?_
    first | exact WPL.jn rfl rfl sbb | exact WPL.jnI rfl rfl sbb Imp.pk
  · intro g2_17
    try simp only [decide_eq_true_eq, decide_eq_false_iff_not, beq_iff_eq, bne_iff_ne, beq_eq_false_iff_ne, bne_eq_false_iff_eq, Bool.not_eq_true', Bool.not_eq_false', Bool.not_eq_eq_eq_not, Bool.not_true, Bool.not_false, ne_eq, Decidable.not_not, Int.not_lt, Int.not_le, gt_iff_lt, ge_iff_le] at g2_17
    refine L_no rfl rfl rfl rfl ?_
    refine L_no rfl rfl rfl rfl ?_
    refine L_no rfl rfl rfl rfl ?_
    refine L_no rfl rfl rfl rfl ?_
    refine L_no rfl rfl rfl rfl ?_
    refine L_no rfl rfl rfl rfl ?_
    refine stp ?_
    first | exact WPL.jn rfl rfl sbb | exact WPL.jnI rfl rfl sbb Imp.pk
  refine stp ?_
  refine WPL.nil ?_
  refine WPC.ret ?_
  exact endR_r rfl (.tmp rfl .nil) Imp.pk ⟨by simp only [packV]; rw [hfin], rfl⟩

end Go.Sl
/- Walks: what is compared. -/
namespace Go.Sl
open Go Go.RowKit Go.Proofs
set_option linter.unusedSimpArgs false
set_option linter.unusedVariables false
attribute [local irreducible] faB szB ldB zB zL slB mkB arB plB intB cells objc star stars buf slv grp whole Sat WPC WPL WPA WPO WPQ Trip Q1 E1 S1 C1

theorem u8_inj {x y : By} (h : u8 x = u8 y) : x = y := by
  simp only [u8, Value.int.injEq, true_and] at h
  exact Fin.ext (by omega)
theorem take_snoc_eq {α : Type} {k : Nat} {xs ys : List α} {x y : α} (h : xs.take k = ys.take k) (hx : xs[k]? = some x) (hy : ys[k]? = some y) : xs.take (k + 1) = ys.take (k + 1) ↔ x = y := by
  rw [take_succ hx, take_succ hy, h]
  constructor
  · intro e; simpa using e
  · intro e; rw [e]

theorem c_Same01 {a a2 : Option Addr} {c c2 : Nat} {p q : Bool} {xs ys : List By} (hs : Sok 1 a xs.length c (xs.map u8)) (ht : Sok 1 a2 ys.length c2 (ys.map u8)) (hx : xs.length ≤ 9223372036854775807) : Trip Tryd.prog 45 #[.slice a xs.length c, .slice a2 ys.length c2] [sl p a (xs.map u8), sl q a2 (ys.map u8)] fun r Δ => r = .bool (decide (xs = ys)) ∧ Δ = [sl p a (xs.map u8), sl q a2 (ys.map u8)] := by
  refine Trip.start 26 [.tmp 4] [(0, .slice a xs.length c), (1, .slice a2 ys.length c2)] Tryd.func45 rfl Tryd.ntmps45 rfl ⟨rfl, rfl, trivial⟩ rfl ?_
  refine WPC.seqR ?_
  refine stp ?_
  refine WPL.nil ?_
  refine WPC.seq ?_
  refine WPC.seqR ?_
  iterate 5 refine stp ?_
  refine WPL.nil ?_
  refine WPC.cond rfl (fun h0 => ?_) (fun h0 => ?_)
  · have hne : ¬ xs = ys := fun h => by subst h; simp at h0
    refine WPC.seqR ?_
    refine stp ?_
    refine WPL.nil ?_
    refine WPC.ret ?_
    refine thenQ_r ?_
    exact endR_r rfl (.tmp rfl .nil) Imp.pk ⟨by simp only [packV, hne, decide_false], rfl⟩
  · have hl : xs.length = ys.length := by simp at h0; omega
    refine WPC.skip ?_
    refine thenQ_n ?_
    refine WPC.seq ?_
    refine WPC.seqR ?_
    refine stp ?_
    refine WPL.nil ?_
    refine WPC.block ?_
    refine WPC.loopS (fun m e Γ => ∃ k : Nat, m = xs.length - k ∧ k ≤ xs.length ∧ xs.take k = ys.take k ∧ e = [(0, .slice a xs.length c), (1, .slice a2 ys.length c2), (5, .int .i64 (k : Int))] ∧ Γ = [sl p a (xs.map u8), sl q a2 (ys.map u8)]) (xs.length) ⟨0, rfl, by omega, rfl, rfl, rfl⟩ sbb Imp.pk ?_
    rintro m e Γ ⟨k, rfl, hk, heq, rfl, rfl⟩
    refine WPC.seq ?_
    refine WPC.seqR ?_
    iterate 4 refine stp ?_
    refine WPL.nil ?_
    refine WPC.cond rfl (fun h1 => ?_) (fun h1 => ?_)
    · simp only [decide_eq_true_eq, Int.ofNat_lt] at h1
      have hp : Pl a := hs.at (by omega) (by omega)
      have hp2 : Pl a2 := ht.at (by omega) (by omega)
      obtain ⟨x, hx1⟩ : ∃ x, xs[k]? = some x := ⟨xs[k], by simp [h1]⟩
      obtain ⟨y, hy1⟩ : ∃ y, ys[k]? = some y := ⟨ys[k]'(by omega), by simp⟩
      have hstep := take_snoc_eq heq hx1 hy1
      refine WPC.skip ?_
      refine thenQ_n ?_
      refine WPC.seq ?_
      refine WPC.block ?_
      refine WPC.seqQ mixed (by kernel_rfl) ?_
      iterate 2 refine stq ?_
      refine WPQ.cons (q_idxN (i := k) sl_sl_uint8 rfl rfl h1 hp) rfl ?_
      refine WPQ.cons (q_ldMap (f := u8) ld_uint8 rfl mm hx1) rfl ?_
      iterate 2 refine stq ?_
      refine WPQ.cons (q_idxN (i := k) sl_sl_uint8 rfl rfl (by omega) hp2) rfl ?_
      refine WPQ.cons (q_ldMap (f := u8) ld_uint8 rfl mm hy1) rfl ?_
      refine stq ?_
      refine WPQ.nil ?_
      refine WPC.cond rfl (fun h2 => ?_) (fun h2 => ?_)
      · have hne : ¬ xs = ys := fun h => by subst h; rw [hx1] at hy1; obtain rfl := Option.some.inj hy1; simp at h2
        refine WPC.seqR ?_
        refine stp ?_
        refine WPL.nil ?_
        refine WPC.ret ?_
        refine blockQ_r ?_
        refine thenQ_r ?_
        refine thenQ_r ?_
        refine blockQ_r ?_
        refine thenQ_r ?_
        exact endR_r rfl (.tmp rfl .nil) Imp.pk ⟨by simp only [packV, hne, decide_false], rfl⟩
      · have hxy : x = y := Fin.ext (by simp at h2; omega)
        refine WPC.skip ?_
        refine blockQ_n ?_
        refine thenQ_n ?_
        refine WPC.region ?_
        iterate 3 refine stp ?_
        refine WPL.nil ?_
        refine thenQ_n ?_
        exact ⟨rfl, _, _, _, by omega, ⟨k + 1, rfl, by omega, hstep.2 hxy, rfl, rfl⟩, sbb, Imp.pk⟩
    · simp only [decide_eq_false_iff_not, Int.ofNat_lt] at h1
      have hk2 : k = xs.length := by omega
      refine WPC.exit ?_
      refine thenQ_e ?_
      refine thenQ_e ?_
      refine blockQ_here ?_
      refine thenQ_n ?_
      refine WPC.seqR ?_
      refine stp ?_
      refine WPL.nil ?_
      refine WPC.ret ?_
      have he : xs = ys := by rw [hk2, List.take_length, List.take_of_length_le (by omega)] at heq; exact heq
      exact endR_r rfl (.tmp rfl .nil) Imp.pk ⟨by simp only [packV, he, decide_true], rfl⟩

theorem c_Entries {a a2 : Option Addr} {n n2 c c2 : Nat} {p q : Bool} {xs ys : List RE} (hs : Sok 3 a n c (xs.flatMap encE)) (ht : Sok 3 a2 n2 c2 (ys.flatMap encE)) (hn : n < 9223372036854775808) (hb : ∀ e ∈ xs, e.b.ok ∧ e.b.bs.length ≤ 1000) (hb2 : ∀ e ∈ ys, e.b.ok) : Trip Tryd.prog 20 #[.slice a n c, .slice a2 n2 c2] [sl p a (xs.flatMap encE), sl q a2 (ys.flatMap encE), bytes (xs.map RE.b), bytes (ys.map RE.b)] fun r Δ => r = .bool (decide (xs.map RE.pl = ys.map RE.pl)) ∧ Δ = [sl p a (xs.flatMap encE), sl q a2 (ys.flatMap encE), bytes (xs.map RE.b), bytes (ys.map RE.b)] := by
  have hl1 : xs.length = n := by have := hs.len; rw [flat_length encE_len] at this; omega
  have hl2 : ys.length = n2 := by have := ht.len; rw [flat_length encE_len] at this; omega
  refine Trip.start 55 [.tmp 4] [(0, .slice a n c), (1, .slice a2 n2 c2)] Tryd.func20 rfl Tryd.ntmps20 rfl ⟨rfl, rfl, trivial⟩ rfl ?_
  refine WPC.seqR ?_
  refine stp ?_
  refine WPL.nil ?_
  refine WPC.seq ?_
  refine WPC.seqR ?_
  iterate 5 refine stp ?_
  refine WPL.nil ?_
  refine WPC.cond rfl (fun h0 => ?_) (fun h0 => ?_)
  · have hne : ¬ xs.map RE.pl = ys.map RE.pl := fun h => by have := congrArg List.length h; simp only [List.length_map] at this; simp at h0; omega
    refine WPC.seqR ?_
    refine stp ?_
    refine WPL.nil ?_
    refine WPC.ret ?_
    refine thenQ_r ?_
    exact endR_r rfl (.tmp rfl .nil) Imp.pk ⟨by simp only [packV, hne, decide_false], rfl⟩
  · have hl : xs.length = ys.length := by simp at h0; omega
    refine WPC.skip ?_
    refine thenQ_n ?_
    refine WPC.seq ?_
    refine WPC.seqR ?_
    refine stp ?_
    refine WPL.nil ?_
    refine WPC.block ?_
    refine WPC.loopS (fun m e Γ => ∃ k : Nat, m = n - k ∧ k ≤ n ∧ (xs.map RE.pl).take k = (ys.map RE.pl).take k ∧ e = [(0, .slice a n c), (1, .slice a2 n2 c2), (4, .bool false), (5, .int .i64 (k : Int))] ∧ Γ = [sl p a (xs.flatMap encE), sl q a2 (ys.flatMap encE), bytes (xs.map RE.b), bytes (ys.map RE.b)]) (n) ⟨0, rfl, by omega, rfl, rfl, rfl⟩ sbb Imp.pk ?_
    rintro m e Γ ⟨k, rfl, hk, heq, rfl, rfl⟩
    refine WPC.seq ?_
    refine WPC.seqR ?_
    iterate 4 refine stp ?_
    refine WPL.nil ?_
    refine WPC.cond rfl (fun h1 => ?_) (fun h1 => ?_)
    · simp only [decide_eq_true_eq, Int.ofNat_lt] at h1
      have hp : Pl a := hs.at (by omega) (by omega)
      have hp2 : Pl a2 := ht.at (by omega) (by omega)
      obtain ⟨x, hx1⟩ : ∃ x, xs[k]? = some x := ⟨xs[k]'(by omega), by simp⟩
      obtain ⟨y, hy1⟩ : ∃ y, ys[k]? = some y := ⟨ys[k]'(by omega), by simp⟩
      have hstep := take_snoc_eq (x := x.pl) (y := y.pl) heq (by simp [hx1]) (by simp [hy1])
      have hxm := List.mem_of_getElem? hx1
      have hym := List.mem_of_getElem? hy1
      have hxo := (hb x hxm).1
      have hyo := hb2 y hym
      have hxn := hxo.n
      have hyn := hyo.n
      have hxb := (hb x hxm).2
      unfold BS.ok at hxo hyo
      rw [hxn] at hxo
      rw [hyn] at hyo
      have exV : bsV x.b = .slice x.b.a x.b.bs.length x.b.c := by simp only [bsV, hxn]
      have eyV : bsV y.b = .slice y.b.a y.b.bs.length y.b.c := by simp only [bsV, hyn]
      have x0 : (xs.flatMap encE)[k * 3 + 0]? = some (.int .u64 (x.t : Int)) := flat_get encE_len xs k 0 hx1 (by omega)
      have x1 : (xs.flatMap encE)[k * 3 + 1]? = some (.int .i64 x.k) := flat_get encE_len xs k 1 hx1 (by omega)
      have x2 : (xs.flatMap encE)[k * 3 + 2]? = some (.slice x.b.a x.b.bs.length x.b.c) := exV ▸ flat_get encE_len xs k 2 hx1 (by omega)
      have y0 : (ys.flatMap encE)[k * 3 + 0]? = some (.int .u64 (y.t : Int)) := flat_get encE_len ys k 0 hy1 (by omega)
      have y1 : (ys.flatMap encE)[k * 3 + 1]? = some (.int .i64 y.k) := flat_get encE_len ys k 1 hy1 (by omega)
      have y2 : (ys.flatMap encE)[k * 3 + 2]? = some (.slice y.b.a y.b.bs.length y.b.c) := eyV ▸ flat_get encE_len ys k 2 hy1 (by omega)
      refine WPC.skip ?_
      refine thenQ_n ?_
      refine WPC.seq ?_
      refine WPC.block ?_
      refine WPC.seqD mixed ?_
      refine atP 0 rfl ?_
      refine atP 1 rfl ?_
      refine WPA.takeP 2 rfl (q_idxN (i := k) sl_sl_api_Entry rfl rfl (by omega) hp) (by kernel_rfl) (by kernel_rfl) (by kernel_rfl) rfl rfl (.nil _) ?_
      refine WPA.putS ?_
      refine atP 3 rfl ?_
      refine WPA.takeL 4 rfl (Ent.mem mm) (q_load1 (i := k * 3 + 0) ld_uint64 rfl (.head _) rfl x0) (by kernel_rfl) (by kernel_rfl) (by kernel_rfl) rfl rfl (.nil _) ?_
      refine WPA.putS ?_
      refine atP 5 rfl ?_
      refine atP 6 rfl ?_
      refine WPA.takeP 7 rfl (q_idxN (i := k) sl_sl_api_Entry rfl rfl (by omega) hp2) (by kernel_rfl) (by kernel_rfl) (by kernel_rfl) rfl rfl (.cons (Ent.mem mm) (.nil _)) ?_
      refine WPA.putS ?_
      refine atP 8 rfl ?_
      refine WPA.takeL 9 rfl (Ent.mem mm) (q_load1 (i := k * 3 + 0) ld_uint64 rfl (.head _) rfl y0) (by kernel_rfl) (by kernel_rfl) (by kernel_rfl) rfl rfl (.cons (Ent.mem mm) (.nil _)) ?_
      refine WPA.putS ?_
      refine atP 10 rfl ?_
      refine atP 11 rfl ?_
      refine WPA.split 28 _ rfl (fun g6_11 => ?_) (fun g6_11 => ?_)
      · have hne : ¬ xs.map RE.pl = ys.map RE.pl := fun h => by have h3 := congrArg (fun l => l[k]?) h; simp only [List.getElem?_map, hx1, hy1, Option.map_some, Option.some.injEq] at h3; obtain ⟨z1, z2, z3⟩ := pl_ne h3; rw [z1] at g6_11; simp at g6_11
        refine WPA.takeN 12 rfl rfl rfl rfl rfl (by kernel_rfl) (by kernel_rfl) (by kernel_rfl) rfl (.cons (Ent.mem mm) (.cons (Ent.mem mm) (.nil _))) ?_
        refine WPA.putS ?_
        refine WPA.takeN 13 rfl rfl rfl rfl rfl (by kernel_rfl) (by kernel_rfl) (by kernel_rfl) rfl (.cons (Ent.mem mm) (.cons (Ent.mem mm) (.nil _))) ?_
        refine WPA.putS ?_
        refine WPA.takeN 14 rfl rfl rfl rfl rfl (by kernel_rfl) (by kernel_rfl) (by kernel_rfl) rfl (.cons (Ent.mem mm) (.cons (Ent.mem mm) (.nil _))) ?_
        refine WPA.putS ?_
        refine WPA.takeN 15 rfl rfl rfl rfl rfl (by kernel_rfl) (by kernel_rfl) (by kernel_rfl) rfl (.cons (Ent.mem mm) (.cons (Ent.mem mm) (.nil _))) ?_
        refine WPA.putS ?_
        refine WPA.takeN 16 rfl rfl rfl rfl rfl (by kernel_rfl) (by kernel_rfl) (by kernel_rfl) rfl (.cons (Ent.mem mm) (.cons (Ent.mem mm) (.nil _))) ?_
        refine WPA.putS ?_
        refine WPA.takeN 17 rfl rfl rfl rfl rfl (by kernel_rfl) (by kernel_rfl) (by kernel_rfl) rfl (.cons (Ent.mem mm) (.cons (Ent.mem mm) (.nil _))) ?_
        refine WPA.putS ?_
        refine WPA.takeN 18 rfl rfl rfl rfl rfl (by kernel_rfl) (by kernel_rfl) (by kernel_rfl) rfl (.cons (Ent.mem mm) (.cons (Ent.mem mm) (.nil _))) ?_
        refine WPA.putS ?_
        refine WPA.takeN 19 rfl rfl rfl rfl rfl (by kernel_rfl) (by kernel_rfl) (by kernel_rfl) rfl (.cons (Ent.mem mm) (.cons (Ent.mem mm) (.nil _))) ?_
        refine WPA.putS ?_
        refine WPA.takeN 20 rfl rfl rfl rfl rfl (by kernel_rfl) (by kernel_rfl) (by kernel_rfl) rfl (.cons (Ent.mem mm) (.cons (Ent.mem mm) (.nil _))) ?_
        refine WPA.putS ?_
        refine WPA.takeN 21 rfl rfl rfl rfl rfl (by kernel_rfl) (by kernel_rfl) (by kernel_rfl) rfl (.cons (Ent.mem mm) (.cons (Ent.mem mm) (.nil _))) ?_
        refine WPA.putS ?_
        refine WPA.takeN 22 rfl rfl rfl rfl rfl (by kernel_rfl) (by kernel_rfl) (by kernel_rfl) rfl (.cons (Ent.mem mm) (.cons (Ent.mem mm) (.nil _))) ?_
        refine WPA.putS ?_
        refine atP 23 rfl ?_
        refine atP 24 rfl ?_
        refine WPA.split 41 _ rfl (fun g6_24 => ?_) (fun g6_24 => ?_)
        · skip
          refine WPA.takeN 25 rfl rfl rfl rfl rfl (by kernel_rfl) (by kernel_rfl) (by kernel_rfl) rfl (.cons (Ent.mem mm) (.cons (Ent.mem mm) (.nil _))) ?_
          refine WPA.putS ?_
          refine WPA.takeN 26 rfl rfl rfl rfl rfl (by kernel_rfl) (by kernel_rfl) (by kernel_rfl) rfl (.cons (Ent.mem mm) (.cons (Ent.mem mm) (.nil _))) ?_
          refine WPA.putS ?_
          refine WPA.takeN 27 rfl rfl rfl rfl rfl (by kernel_rfl) (by kernel_rfl) (by kernel_rfl) rfl (.cons (Ent.mem mm) (.cons (Ent.mem mm) (.nil _))) ?_
          refine WPA.putS ?_
          refine WPA.takeN 28 rfl rfl rfl rfl rfl (by kernel_rfl) (by kernel_rfl) (by kernel_rfl) rfl (.cons (Ent.mem mm) (.cons (Ent.mem mm) (.nil _))) ?_
          refine WPA.putS ?_
          refine WPA.takeN 29 rfl rfl rfl rfl rfl (by kernel_rfl) (by kernel_rfl) (by kernel_rfl) rfl (.cons (Ent.mem mm) (.cons (Ent.mem mm) (.nil _))) ?_
          refine WPA.putS ?_
          refine WPA.takeN 30 rfl rfl rfl rfl rfl (by kernel_rfl) (by kernel_rfl) (by kernel_rfl) rfl (.cons (Ent.mem mm) (.cons (Ent.mem mm) (.nil _))) ?_
          refine WPA.putS ?_
          refine WPA.takeN 31 rfl rfl rfl rfl rfl (by kernel_rfl) (by kernel_rfl) (by kernel_rfl) rfl (.cons (Ent.mem mm) (.cons (Ent.mem mm) (.nil _))) ?_
          refine WPA.putS ?_
          refine WPA.takeN 32 rfl rfl rfl rfl rfl (by kernel_rfl) (by kernel_rfl) (by kernel_rfl) rfl (.cons (Ent.mem mm) (.cons (Ent.mem mm) (.nil _))) ?_
          refine WPA.putS ?_
          refine WPA.takeN 33 rfl rfl rfl rfl rfl (by kernel_rfl) (by kernel_rfl) (by kernel_rfl) rfl (.cons (Ent.mem mm) (.cons (Ent.mem mm) (.nil _))) ?_
          refine WPA.putS ?_
          refine WPA.takeN 34 rfl rfl rfl rfl rfl (by kernel_rfl) (by kernel_rfl) (by kernel_rfl) rfl (.cons (Ent.mem mm) (.cons (Ent.mem mm) (.nil _))) ?_
          refine WPA.putS ?_
          skip
          refine WPA.takeN 35 rfl rfl rfl rfl rfl (by kernel_rfl) (by kernel_rfl) (by kernel_rfl) rfl (.cons (Ent.mem mm) (.cons (Ent.mem mm) (.nil _))) ?_
          refine WPA.putS ?_
          refine WPA.takeN 36 rfl rfl rfl rfl rfl (by kernel_rfl) (by kernel_rfl) (by kernel_rfl) rfl (.cons (Ent.mem mm) (.cons (Ent.mem mm) (.nil _))) ?_
          refine WPA.putS ?_
          refine atP 37 rfl ?_
          refine WPA.done (by kernel_rfl) ?_
          refine WPC.cond rfl (fun h2 => ?_) (fun h2 => ?_)
          · skip
            refine WPC.seqR ?_
            refine stp ?_
            refine WPL.nil ?_
            refine WPC.prune [(0, _), (1, _), (4, _), (5, _), (11, _), (12, _), (13, _), (14, _), (17, _), (18, _), (19, _), (20, _), (21, _), (22, _), (23, _), (24, _), (25, _), (26, _), (27, _), (28, _), (29, _), (30, _), (31, _), (32, _), (33, _), (34, _), (35, _), (36, _), (37, _), (38, _), (39, _), (40, _), (41, _), (42, _), (43, _), (44, _), (45, _), (46, _), (47, _), (48, _), (49, _), (50, _), (51, _), (52, _), (53, _), (54, _)] sbb ?_
            refine WPC.ret ?_
            refine blockQ_r ?_
            refine thenQ_r ?_
            refine thenQ_r ?_
            refine blockQ_r ?_
            refine thenQ_r ?_
            exact endR_r rfl (.tmp rfl .nil) Imp.pk ⟨by simp only [packV, hne, decide_false], rfl⟩
          · skip
            simp at h2
        · skip
          simp at g6_24
      · have e1 : x.t = y.t := by simp at g6_11; omega
        refine atPY 12 rfl rfl rfl ?_
        refine atPY 13 rfl rfl rfl ?_
        refine WPA.takePY 14 rfl rfl rfl rfl (q_idxN (i := k) sl_sl_api_Entry rfl rfl (by omega) hp) (by kernel_rfl) (by kernel_rfl) (by kernel_rfl) rfl (.cons (Ent.mem mm) (.cons (Ent.mem mm) (.nil _))) ?_
        refine WPA.putS ?_
        refine atPY 15 rfl rfl rfl ?_
        refine WPA.takeLY 16 rfl (Ent.mem mm) rfl rfl rfl (q_load1 (i := k * 3 + 1) ld_int rfl (.head _) rfl x1) (by kernel_rfl) (by kernel_rfl) (by kernel_rfl) rfl (.cons (Ent.mem mm) (.cons (Ent.mem mm) (.nil _))) ?_
        refine WPA.putS ?_
        refine atPY 17 rfl rfl rfl ?_
        refine atPY 18 rfl rfl rfl ?_
        refine WPA.takePY 19 rfl rfl rfl rfl (q_idxN (i := k) sl_sl_api_Entry rfl rfl (by omega) hp2) (by kernel_rfl) (by kernel_rfl) (by kernel_rfl) rfl (.cons (Ent.mem mm) (.cons (Ent.mem mm) (.cons (Ent.mem mm) (.nil _)))) ?_
        refine WPA.putS ?_
        refine atPY 20 rfl rfl rfl ?_
        refine WPA.takeLY 21 rfl (Ent.mem mm) rfl rfl rfl (q_load1 (i := k * 3 + 1) ld_int rfl (.head _) rfl y1) (by kernel_rfl) (by kernel_rfl) (by kernel_rfl) rfl (.cons (Ent.mem mm) (.cons (Ent.mem mm) (.cons (Ent.mem mm) (.nil _)))) ?_
        refine WPA.putS ?_
        refine atPY 22 rfl rfl rfl ?_
        refine atP 23 rfl ?_
        refine atP 24 rfl ?_
        refine WPA.split 41 _ rfl (fun g6_24 => ?_) (fun g6_24 => ?_)
        · have hne : ¬ xs.map RE.pl = ys.map RE.pl := fun h => by have h3 := congrArg (fun l => l[k]?) h; simp only [List.getElem?_map, hx1, hy1, Option.map_some, Option.some.injEq] at h3; obtain ⟨z1, z2, z3⟩ := pl_ne h3; rw [z2] at g6_24; simp at g6_24
          refine WPA.takeN 25 rfl rfl rfl rfl rfl (by kernel_rfl) (by kernel_rfl) (by kernel_rfl) rfl (.cons (Ent.mem mm) (.cons (Ent.mem mm) (.cons (Ent.mem mm) (.cons (Ent.mem mm) (.nil _))))) ?_
          refine WPA.putS ?_
          refine WPA.takeN 26 rfl rfl rfl rfl rfl (by kernel_rfl) (by kernel_rfl) (by kernel_rfl) rfl (.cons (Ent.mem mm) (.cons (Ent.mem mm) (.cons (Ent.mem mm) (.cons (Ent.mem mm) (.nil _))))) ?_
          refine WPA.putS ?_
          refine WPA.takeN 27 rfl rfl rfl rfl rfl (by kernel_rfl) (by kernel_rfl) (by kernel_rfl) rfl (.cons (Ent.mem mm) (.cons (Ent.mem mm) (.cons (Ent.mem mm) (.cons (Ent.mem mm) (.nil _))))) ?_
          refine WPA.putS ?_
          refine WPA.takeN 28 rfl rfl rfl rfl rfl (by kernel_rfl) (by kernel_rfl) (by kernel_rfl) rfl (.cons (Ent.mem mm) (.cons (Ent.mem mm) (.cons (Ent.mem mm) (.cons (Ent.mem mm) (.nil _))))) ?_
          refine WPA.putS ?_
          refine WPA.takeN 29 rfl rfl rfl rfl rfl (by kernel_rfl) (by kernel_rfl) (by kernel_rfl) rfl (.cons (Ent.mem mm) (.cons (Ent.mem mm) (.cons (Ent.mem mm) (.cons (Ent.mem mm) (.nil _))))) ?_
          refine WPA.putS ?_
          refine WPA.takeN 30 rfl rfl rfl rfl rfl (by kernel_rfl) (by kernel_rfl) (by kernel_rfl) rfl (.cons (Ent.mem mm) (.cons (Ent.mem mm) (.cons (Ent.mem mm) (.cons (Ent.mem mm) (.nil _))))) ?_
          refine WPA.putS ?_
          refine WPA.takeN 31 rfl rfl rfl rfl rfl (by kernel_rfl) (by kernel_rfl) (by kernel_rfl) rfl (.cons (Ent.mem mm) (.cons (Ent.mem mm) (.cons (Ent.mem mm) (.cons (Ent.mem mm) (.nil _))))) ?_
          refine WPA.putS ?_
          refine WPA.takeN 32 rfl rfl rfl rfl rfl (by kernel_rfl) (by kernel_rfl) (by kernel_rfl) rfl (.cons (Ent.mem mm) (.cons (Ent.mem mm) (.cons (Ent.mem mm) (.cons (Ent.mem mm) (.nil _))))) ?_
          refine WPA.putS ?_
          refine WPA.takeN 33 rfl rfl rfl rfl rfl (by kernel_rfl) (by kernel_rfl) (by kernel_rfl) rfl (.cons (Ent.mem mm) (.cons (Ent.mem mm) (.cons (Ent.mem mm) (.cons (Ent.mem mm) (.nil _))))) ?_
          refine WPA.putS ?_
          refine WPA.takeN 34 rfl rfl rfl rfl rfl (by kernel_rfl) (by kernel_rfl) (by kernel_rfl) rfl (.cons (Ent.mem mm) (.cons (Ent.mem mm) (.cons (Ent.mem mm) (.cons (Ent.mem mm) (.nil _))))) ?_
          refine WPA.putS ?_
          skip
          refine WPA.takeN 35 rfl rfl rfl rfl rfl (by kernel_rfl) (by kernel_rfl) (by kernel_rfl) rfl (.cons (Ent.mem mm) (.cons (Ent.mem mm) (.cons (Ent.mem mm) (.cons (Ent.mem mm) (.nil _))))) ?_
          refine WPA.putS ?_
          refine WPA.takeN 36 rfl rfl rfl rfl rfl (by kernel_rfl) (by kernel_rfl) (by kernel_rfl) rfl (.cons (Ent.mem mm) (.cons (Ent.mem mm) (.cons (Ent.mem mm) (.cons (Ent.mem mm) (.nil _))))) ?_
          refine WPA.putS ?_
          refine atP 37 rfl ?_
          refine WPA.done (by kernel_rfl) ?_
          refine WPC.cond rfl (fun h2 => ?_) (fun h2 => ?_)
          · skip
            refine WPC.seqR ?_
            refine stp ?_
            refine WPL.nil ?_
            refine WPC.prune [(0, _), (1, _), (4, _), (5, _), (11, _), (12, _), (13, _), (14, _), (17, _), (18, _), (19, _), (20, _), (21, _), (22, _), (23, _), (24, _), (25, _), (26, _), (27, _), (28, _), (29, _), (30, _), (31, _), (32, _), (33, _), (34, _), (35, _), (36, _), (37, _), (38, _), (39, _), (40, _), (41, _), (42, _), (43, _), (44, _), (45, _), (46, _), (47, _), (48, _), (49, _), (50, _), (51, _), (52, _), (53, _), (54, _)] sbb ?_
            refine WPC.ret ?_
            refine blockQ_r ?_
            refine thenQ_r ?_
            refine thenQ_r ?_
            refine blockQ_r ?_
            refine thenQ_r ?_
            exact endR_r rfl (.tmp rfl .nil) Imp.pk ⟨by simp only [packV, hne, decide_false], rfl⟩
          · skip
            simp at h2
        · have e2 : x.k = y.k := by simpa using g6_24
          refine atPY 25 rfl rfl rfl ?_
          refine atPY 26 rfl rfl rfl ?_
          refine WPA.takePY 27 rfl rfl rfl rfl (q_idxN (i := k) sl_sl_api_Entry rfl rfl (by omega) hp) (by kernel_rfl) (by kernel_rfl) (by kernel_rfl) rfl (.cons (Ent.mem mm) (.cons (Ent.mem mm) (.cons (Ent.mem mm) (.cons (Ent.mem mm) (.nil _))))) ?_
          refine WPA.putS ?_
          refine atPY 28 rfl rfl rfl ?_
          refine WPA.takeLY 29 rfl (Ent.mem mm) rfl rfl rfl (q_load1 (i := k * 3 + 2) ld_sl_uint8 rfl (.head _) rfl x2) (by kernel_rfl) (by kernel_rfl) (by kernel_rfl) rfl (.cons (Ent.mem mm) (.cons (Ent.mem mm) (.cons (Ent.mem mm) (.cons (Ent.mem mm) (.nil _))))) ?_
          refine WPA.putS ?_
          refine atPY 30 rfl rfl rfl ?_
          refine atPY 31 rfl rfl rfl ?_
          refine WPA.takePY 32 rfl rfl rfl rfl (q_idxN (i := k) sl_sl_api_Entry rfl rfl (by omega) hp2) (by kernel_rfl) (by kernel_rfl) (by kernel_rfl) rfl (.cons (Ent.mem mm) (.cons (Ent.mem mm) (.cons (Ent.mem mm) (.cons (Ent.mem mm) (.cons (Ent.mem mm) (.nil _)))))) ?_
          refine WPA.putS ?_
          refine atPY 33 rfl rfl rfl ?_
          refine WPA.takeLY 34 rfl (Ent.mem mm) rfl rfl rfl (q_load1 (i := k * 3 + 2) ld_sl_uint8 rfl (.head _) rfl y2) (by kernel_rfl) (by kernel_rfl) (by kernel_rfl) rfl (.cons (Ent.mem mm) (.cons (Ent.mem mm) (.cons (Ent.mem mm) (.cons (Ent.mem mm) (.cons (Ent.mem mm) (.nil _)))))) ?_
          refine WPA.putS ?_
          refine WPA.imp (((Imp.pk (Δ := [bytes (xs.map RE.b), sl p a (xs.flatMap encE), bytes (ys.map RE.b), sl q a2 (ys.flatMap encE)])).trans (bytes_one (List.mem_map.2 ⟨x, hxm, rfl⟩))).trans ((Imp.pk (Δ := [bytes (ys.map RE.b), x.b.at_, bytes (xs.map RE.b), sl p a (xs.flatMap encE), sl q a2 (ys.flatMap encE)])).trans (bytes_one (List.mem_map.2 ⟨y, hym, rfl⟩)))) ?_
          refine WPA.oneY 35 [] (by kernel_rfl) rfl rfl rfl rfl (by repeat (first | exact .nil | refine .anc rfl ?_ | refine .keep mm ?_)) (C1.call (c_call Tryd.func45 rfl rfl rfl) (c_Same01 (p := false) (q := false) hxo hyo (by omega)) pkk rfl ?_)
          rintro _ _ ⟨rfl, rfl⟩
          refine ⟨(.nil _), ?_⟩
          refine WPA.putS ?_
          refine atPY 36 rfl rfl rfl ?_
          refine atP 37 rfl ?_
          refine WPA.done (by kernel_rfl) ?_
          refine WPC.cond rfl (fun h2 => ?_) (fun h2 => ?_)
          · have hne : ¬ xs.map RE.pl = ys.map RE.pl := fun h => by have h3 := congrArg (fun l => l[k]?) h; simp only [List.getElem?_map, hx1, hy1, Option.map_some, Option.some.injEq] at h3; obtain ⟨z1, z2, z3⟩ := pl_ne h3; rw [z3] at h2; simp at h2
            refine WPC.seqR ?_
            refine stp ?_
            refine WPL.nil ?_
            refine WPC.prune [(0, _), (1, _), (4, _), (5, _), (11, _), (12, _), (13, _), (14, _), (17, _), (18, _), (19, _), (20, _), (21, _), (22, _), (23, _), (24, _), (25, _), (26, _), (27, _), (28, _), (29, _), (30, _), (31, _), (32, _), (33, _), (34, _), (35, _), (36, _), (37, _), (38, _), (39, _), (40, _), (41, _), (42, _), (43, _), (44, _), (45, _), (46, _), (47, _), (48, _), (49, _), (50, _), (51, _), (52, _), (53, _), (54, _)] sbb ?_
            refine WPC.ret ?_
            refine blockQ_r ?_
            refine thenQ_r ?_
            refine thenQ_r ?_
            refine blockQ_r ?_
            refine thenQ_r ?_
            exact endR_r rfl (.tmp rfl .nil) Imp.pk ⟨by simp only [packV, hne, decide_false], rfl⟩
          · have e3 : x.b.bs = y.b.bs := by simpa using h2
            have hxy : x.pl = y.pl := by unfold RE.pl; rw [e1, e2, e3]
            refine WPC.skip ?_
            refine blockQ_n ?_
            refine thenQ_n ?_
            refine WPC.region ?_
            iterate 3 refine stp ?_
            refine WPL.nil ?_
            refine thenQ_n ?_
            exact ⟨rfl, _, _, _, by omega, ⟨k + 1, rfl, by omega, hstep.2 hxy, rfl, rfl⟩, sbb, Imp.pk⟩
    · simp only [decide_eq_false_iff_not, Int.ofNat_lt] at h1
      have hk2 : k = n := by omega
      refine WPC.exit ?_
      refine thenQ_e ?_
      refine thenQ_e ?_
      refine blockQ_here ?_
      refine thenQ_n ?_
      refine WPC.seqR ?_
      refine stp ?_
      refine WPL.nil ?_
      refine WPC.ret ?_
      have he : xs.map RE.pl = ys.map RE.pl := by rw [List.take_of_length_le (by rw [List.length_map]; omega), List.take_of_length_le (by rw [List.length_map]; omega)] at heq; exact heq
      exact endR_r rfl (.tmp rfl .nil) Imp.pk ⟨by simp only [packV, he, decide_true], rfl⟩

end Go.Sl
/- A struct's field of many cells. -/
namespace Go.Sl
open Go Go.RowKit
theorem q_fieldN {P : Program} {s : St} {Γ : List A} {d : Option Tmp} {ty : TypeId} {pos : String} {af : Array Edge} {g : Option (Nat × Bool)} {x : Operand} {T : TypeId} {f off k : Nat} {cs us : List Value} (hT : ∃ fs fl, P.underlying T = some (.struct fs) ∧ fs[f]? = some fl ∧ fl.offset = off ∧ ldB P fl.type = some (some k)) (hx : ev s x = some (.agg cs.toArray)) (hu : cs.toArray.extract off (off + k) = us.toArray) :
    Q1 P ⟨d, .field T x f, ty, pos, af, g⟩ s Γ (.agg us.toArray) := fun _ w _ e _ => by
  obtain ⟨fs, fl, h1, h2, rfl, h3⟩ := hT
  have h4 := (isAgg_of h3 w).1
  have h5 := run_size ((isAgg_of h3 w).2.1 k rfl) w
  simp at h4
  have hp : (Go.part fl.type cs.toArray fl.offset).run P w = .ok (.agg us.toArray) w := by
    unfold Go.part
    simp [h4, h5]
    have := congrArg Array.toList hu
    simpa using this
  simp [execOp, e _ _ hx, Instr.field, underlying, h1, h2, asAgg, hp]
def fieldB (P : Program) (T : TypeId) (f off k : Nat) : Bool := match P.underlying T with
  | some (.struct fs) => match fs[f]? with
    | some fl => decide (fl.offset = off) && decide (ldB P fl.type = some (some k))
    | none => false
  | _ => false
theorem fieldB_of {P : Program} {T : TypeId} {f off k : Nat} (h : fieldB P T f off k = true) : ∃ fs fl, P.underlying T = some (.struct fs) ∧ fs[f]? = some fl ∧ fl.offset = off ∧ ldB P fl.type = some (some k) := by
  unfold fieldB at h
  split at h
  · rename_i fs e1
    split at h
    · rename_i fl e2
      simp only [Bool.and_eq_true, decide_eq_true_eq] at h
      exact ⟨fs, fl, e1, e2, h.1, h.2⟩
    · cases h
  · cases h
end Go.Sl
/- Walks: states compared. -/
namespace Go.Sl
open Go Go.RowKit Go.Proofs
set_option linter.unusedSimpArgs false
set_option linter.unusedVariables false
attribute [local irreducible] faB szB ldB zB zL slB mkB arB plB intB cells objc star stars buf slv grp whole Sat WPC WPL WPA WPO WPQ Trip Q1 E1 S1 C1

theorem c_Same09 (s t : SV) (hs : s.ok) (ht : t.ok) (hb : ∀ e ∈ s.es, e.b.bs.length ≤ 1000) : Trip Tryd.prog 16 #[.int .u64 (s.base : Int), .int .u64 (s.bt : Int), .slice s.a s.n s.c, .agg (lgV t).toArray] [s.ents, s.dat, t.ents, t.dat] fun r Δ => r = .bool (decide (s.lg = t.lg)) ∧ Δ = [s.ents, s.dat, t.ents, t.dat] := by
  have hfin : (((s.base : Int) == (t.base : Int)) && ((s.bt : Int) == (t.bt : Int)) && decide (s.es.map RE.pl = t.es.map RE.pl)) = decide (s.lg = t.lg) := same09_eq
  refine Trip.start 27 [.tmp 8] [(0, .int .u64 (s.base : Int)), (1, .int .u64 (s.bt : Int)), (2, .slice s.a s.n s.c), (3, .agg (lgV t).toArray)] Tryd.func16 rfl Tryd.ntmps16 rfl ⟨rfl, rfl, rfl, rfl, trivial⟩ rfl ?_
  refine WPC.seqR ?_
  refine nw fun b1 => ?_
  refine stp ?_
  refine WPL.nil ?_
  refine WPC.seqR ?_
  iterate 3 refine stp ?_
  refine kall rfl (c_Entries (p := false) (q := false) hs.sk ht.sk hs.n (fun e he => ⟨hs.b e he, hb e he⟩) ht.b) ?_
  rintro _ _ ⟨rfl, rfl⟩
  refine stp ?_
  refine WPL.nil ?_
  refine WPC.seqR ?_
  iterate 5 refine stp ?_
  apply WPL.joinA (e' := [(8, _), (9, _)]) 18 23 5 rfl
  · intro g2_4
    try simp only [decide_eq_true_eq, decide_eq_false_iff_not, beq_iff_eq, bne_iff_ne, beq_eq_false_iff_ne, bne_eq_false_iff_eq, Bool.not_eq_true', Bool.not_eq_false', Bool.not_eq_eq_eq_not, Bool.not_true, Bool.not_false, ne_eq, Decidable.not_not, Int.not_lt, Int.not_le, gt_iff_lt, ge_iff_le] at g2_4
    iterate 4 refine stpY rfl rfl ?_
    refine stp ?_
    first | exact WPL.jn rfl rfl sbb | exact WPL.jnI rfl rfl sbb Imp.pk
  · intro g2_4
    try simp only [decide_eq_true_eq, decide_eq_false_iff_not, beq_iff_eq, bne_iff_ne, beq_eq_false_iff_ne, bne_eq_false_iff_eq, Bool.not_eq_true', Bool.not_eq_false', Bool.not_eq_eq_eq_not, Bool.not_true, Bool.not_false, ne_eq, Decidable.not_not, Int.not_lt, Int.not_le, gt_iff_lt, ge_iff_le] at g2_4
    refine L_no rfl rfl rfl rfl ?_
    refine L_no rfl rfl rfl rfl ?_
    refine L_no rfl rfl rfl rfl ?_
    refine L_no rfl rfl rfl rfl ?_
    refine stp ?_
    first | exact WPL.jn rfl rfl sbb | exact WPL.jnI rfl rfl sbb Imp.pk
  refine stp ?_
  apply WPL.joinA (e' := [(8, _)]) 24 26 2 rfl
  · intro g2_10
    try simp only [decide_eq_true_eq, decide_eq_false_iff_not, beq_iff_eq, bne_iff_ne, beq_eq_false_iff_ne, bne_eq_false_iff_eq, Bool.not_eq_true', Bool.not_eq_false', Bool.not_eq_eq_eq_not, Bool.not_true, Bool.not_false, ne_eq, Decidable.not_not, Int.not_lt, Int.not_le, gt_iff_lt, ge_iff_le] at g2_10
    refine stpY rfl rfl ?_
    refine stp ?_
    first | exact WPL.jn rfl rfl sbb | exact WPL.jnI rfl rfl sbb Imp.pk
  · intro g2_10
    try simp only [decide_eq_true_eq, decide_eq_false_iff_not, beq_iff_eq, bne_iff_ne, beq_eq_false_iff_ne, bne_eq_false_iff_eq, Bool.not_eq_true', Bool.not_eq_false', Bool.not_eq_eq_eq_not, Bool.not_true, Bool.not_false, ne_eq, Decidable.not_not, Int.not_lt, Int.not_le, gt_iff_lt, ge_iff_le] at g2_10
    refine L_no rfl rfl rfl rfl ?_
    refine stp ?_
    first | exact WPL.jn rfl rfl sbb | exact WPL.jnI rfl rfl sbb Imp.pk
  refine stp ?_
  refine WPL.nil ?_
  refine WPC.ret ?_
  exact endR_r rfl (.tmp rfl .nil) Imp.pk ⟨by simp only [packV]; rw [hfin], rfl⟩

theorem c_LT09 (s : SV) (hs : s.ok) (hsn : s.n < 1000000000) : Trip Tryd.prog 40 #[.agg (lgV s).toArray] [s.ents] fun r Δ => r = .int .u64 ((s.lg.lastTerm : Nat) : Int) ∧ Δ = [s.ents] := by
  have hl := hs.len
  have hn := hs.n
  have hlt := lgLastTerm_eq s
  refine Trip.start 18 [.tmp 2] [(0, .agg (lgV s).toArray)] Tryd.func40 rfl Tryd.ntmps40 rfl ⟨rfl, trivial⟩ rfl ?_
  refine WPC.seqR ?_
  refine nw fun b1 => ?_
  refine stp ?_
  refine WPL.nil ?_
  refine WPC.seq ?_
  refine WPC.seqR ?_
  iterate 4 refine stp ?_
  refine WPL.nil ?_
  refine WPC.cond rfl (fun h0 => ?_) (fun h0 => ?_)
  · have h0 : s.n = 0 := by simp at h0; omega
    have he : s.es = [] := List.eq_nil_of_length_eq_zero (by omega)
    unfold lgLastTerm at hlt
    rw [he] at hlt
    rw [← hlt]
    refine WPC.seqR ?_
    iterate 3 refine stp ?_
    refine WPL.nil ?_
    refine WPC.ret ?_
    refine thenQ_r ?_
    exact endR_r rfl (.tmp rfl .nil) Imp.pk ⟨rfl, rfl⟩
  · have h0 : s.n ≠ 0 := by simp at h0; omega
    have hp : Pl s.a := hs.sk.at (by omega) (by omega)
    obtain ⟨x, hx⟩ : ∃ x, s.es[s.n - 1]? = some x := ⟨s.es[s.n - 1]'(by omega), by simp⟩
    have x0 : (s.es.flatMap encE)[(s.n - 1) * 3 + 0]? = some (.int .u64 (x.t : Int)) := flat_get encE_len s.es (s.n - 1) 0 hx (by omega)
    have hgl : s.es.getLast? = some x := by rw [List.getLast?_eq_getElem?, hl]; exact hx
    unfold lgLastTerm at hlt
    rw [hgl] at hlt
    rw [← hlt]
    refine WPC.skip ?_
    refine thenQ_n ?_
    refine WPC.seqR ?_
    iterate 5 refine stp ?_
    refine L_s (q_decN rfl rfl (by omega) (by omega)) rfl ?_
    refine L_s (q_idxN (i := s.n - 1) sl_sl_api_Entry rfl rfl (by omega) hp) rfl ?_
    refine stp ?_
    refine L_s (q_load1 (i := (s.n - 1) * 3 + 0) ld_uint64 rfl mm rfl x0) rfl ?_
    refine stp ?_
    refine WPL.nil ?_
    refine WPC.ret ?_
    exact endR_r rfl (.tmp rfl .nil) Imp.pk ⟨rfl, rfl⟩

theorem c_doc (s : SV) : Trip Tryd.prog 11 #[.agg (stV s).toArray] [] fun r Δ => r = .agg (stV s).toArray ∧ Δ = [] := by
  refine Trip.start 18 [.cell 2 42] [(0, .agg (stV s).toArray)] Tryd.func11 rfl Tryd.ntmps11 rfl ⟨rfl, trivial⟩ rfl ?_
  refine WPC.seqR ?_
  refine nw fun b1 => ?_
  refine nw fun b2 => ?_
  refine WPL.nil ?_
  refine WPC.seqR ?_
  iterate 13 refine stp ?_
  refine L_s (q_build (cs := [_, _, _]) pl_pursuivantref09_Log rfl rfl) rfl ?_
  refine L_s (q_build (cs := [_, _, _, _, _]) pl_pursuivantref14_State rfl rfl) rfl ?_
  refine sto ?_
  refine WPL.nil ?_
  refine WPC.ret ?_
  exact endR_r rfl (.cellN (us := [_, _, _, _, _]) rfl ld_pursuivantref14_State mm rfl rfl .nil) Imp.pk ⟨rfl, rfl⟩

theorem c_same14 (s t : SV) (hs : s.ok) (ht : t.ok) (hb : ∀ e ∈ s.es, e.b.bs.length ≤ 1000) : Trip Tryd.prog 13 #[.agg (stV s).toArray, .agg (stV t).toArray] [s.ents, s.dat, t.ents, t.dat] fun r Δ => r = .bool (decide (s.ks = t.ks)) ∧ Δ = [s.ents, s.dat, t.ents, t.dat] := by
  have hfin := same14_eq (s := s) (t := t)
  refine Trip.start 33 [.tmp 4] [(0, .agg (stV s).toArray), (1, .agg (stV t).toArray)] Tryd.func13 rfl Tryd.ntmps13 rfl ⟨rfl, rfl, trivial⟩ rfl ?_
  refine WPC.seqR ?_
  refine nw fun b1 => ?_
  refine nw fun b2 => ?_
  refine stp ?_
  refine WPL.nil ?_
  refine WPC.seqR ?_
  iterate 11 refine stp ?_
  refine kall rfl (c_Same09 s t hs ht hb) ?_
  rintro _ _ ⟨rfl, rfl⟩
  refine stp ?_
  refine WPL.nil ?_
  refine WPC.seqR ?_
  iterate 6 refine stp ?_
  apply WPL.joinA (e' := [(4, _), (5, _)]) 23 29 6 rfl
  · intro g2_5
    try simp only [decide_eq_true_eq, decide_eq_false_iff_not, beq_iff_eq, bne_iff_ne, beq_eq_false_iff_ne, bne_eq_false_iff_eq, Bool.not_eq_true', Bool.not_eq_false', Bool.not_eq_eq_eq_not, Bool.not_true, Bool.not_false, ne_eq, Decidable.not_not, Int.not_lt, Int.not_le, gt_iff_lt, ge_iff_le] at g2_5
    iterate 5 refine stpY rfl rfl ?_
    refine stp ?_
    first | exact WPL.jn rfl rfl sbb | exact WPL.jnI rfl rfl sbb Imp.pk
  · intro g2_5
    try simp only [decide_eq_true_eq, decide_eq_false_iff_not, beq_iff_eq, bne_iff_ne, beq_eq_false_iff_ne, bne_eq_false_iff_eq, Bool.not_eq_true', Bool.not_eq_false', Bool.not_eq_eq_eq_not, Bool.not_true, Bool.not_false, ne_eq, Decidable.not_not, Int.not_lt, Int.not_le, gt_iff_lt, ge_iff_le] at g2_5
    refine L_no rfl rfl rfl rfl ?_
    refine L_no rfl rfl rfl rfl ?_
    refine L_no rfl rfl rfl rfl ?_
    refine L_no rfl rfl rfl rfl ?_
    refine L_no rfl rfl rfl rfl ?_
    refine stp ?_
    first | exact WPL.jn rfl rfl sbb | exact WPL.jnI rfl rfl sbb Imp.pk
  refine stp ?_
  apply WPL.joinA (e' := [(4, _)]) 30 32 2 rfl
  · intro g2_12
    try simp only [decide_eq_true_eq, decide_eq_false_iff_not, beq_iff_eq, bne_iff_ne, beq_eq_false_iff_ne, bne_eq_false_iff_eq, Bool.not_eq_true', Bool.not_eq_false', Bool.not_eq_eq_eq_not, Bool.not_true, Bool.not_false, ne_eq, Decidable.not_not, Int.not_lt, Int.not_le, gt_iff_lt, ge_iff_le] at g2_12
    refine stpY rfl rfl ?_
    refine stp ?_
    first | exact WPL.jn rfl rfl sbb | exact WPL.jnI rfl rfl sbb Imp.pk
  · intro g2_12
    try simp only [decide_eq_true_eq, decide_eq_false_iff_not, beq_iff_eq, bne_iff_ne, beq_eq_false_iff_ne, bne_eq_false_iff_eq, Bool.not_eq_true', Bool.not_eq_false', Bool.not_eq_eq_eq_not, Bool.not_true, Bool.not_false, ne_eq, Decidable.not_not, Int.not_lt, Int.not_le, gt_iff_lt, ge_iff_le] at g2_12
    refine L_no rfl rfl rfl rfl ?_
    refine stp ?_
    first | exact WPL.jn rfl rfl sbb | exact WPL.jnI rfl rfl sbb Imp.pk
  refine stp ?_
  refine WPL.nil ?_
  refine WPC.ret ?_
  exact endR_r rfl (.tmp rfl .nil) Imp.pk ⟨by simp only [packV]; rw [hfin], rfl⟩

theorem c_term (s : SV) (hs : s.ok) (hsn : s.n < 1000000000) : Trip Tryd.prog 12 #[.agg (stV s).toArray] [s.ents] fun r Δ => r = .int .u64 ((max s.term s.lg.lastTerm : Nat) : Int) ∧ Δ = [s.ents] := by
  have hmx : max (s.term : Int) (s.lg.lastTerm : Int) = ((max s.term s.lg.lastTerm : Nat) : Int) := by omega
  refine Trip.start 12 [.tmp 2] [(0, .agg (stV s).toArray)] Tryd.func12 rfl Tryd.ntmps12 rfl ⟨rfl, trivial⟩ rfl ?_
  refine WPC.seqR ?_
  refine nw fun b1 => ?_
  refine stp ?_
  refine WPL.nil ?_
  refine WPC.seqR ?_
  refine stp ?_
  refine kall rfl (c_doc s) ?_
  rintro _ _ ⟨rfl, rfl⟩
  refine L_s (q_fieldN (off := 2) (k := 3) (cs := stV s) (us := lgV s) (fieldB_of (by kernel_rfl)) rfl rfl) rfl ?_
  refine nw fun bl => ?_
  refine sto ?_
  refine WPL.nil ?_
  refine WPC.seqD mixed ?_
  refine atP 0 rfl ?_
  refine atL 1 rfl ?_
  refine atL 2 rfl ?_
  refine WPA.oneE 3 [(1, [_])] (by kernel_rfl) rfl rfl (by repeat (first | exact .nil | refine .anc rfl ?_ | refine .keep mm ?_)) (C1.call (c_call Tryd.func40 rfl rfl rfl) (c_LT09 s hs hsn) pkk rfl ?_)
  rintro _ _ ⟨rfl, rfl⟩
  refine ⟨(.cons (Ent.mem mm) (.nil _)), ?_⟩
  refine WPA.putS ?_
  refine atP 4 rfl ?_
  refine atP 5 rfl ?_
  refine WPA.done (by kernel_rfl) ?_
  refine WPC.ret ?_
  exact endR_r rfl (.tmp rfl .nil) Imp.pk ⟨by simp only [packV]; rw [hmx], rfl⟩

end Go.Sl
/- Walks: marks, trims. -/
namespace Go.Sl
open Go Go.RowKit Go.Proofs
set_option linter.unusedSimpArgs false
set_option linter.unusedVariables false
attribute [local irreducible] faB szB ldB zB zL slB mkB arB plB intB cells objc star stars buf slv grp whole Sat WPC WPL WPA WPO WPQ Trip Q1 E1 S1 C1

theorem c_kmark {b db jb : Nat} {K : KP} {d : DK} (s : SV) (hv : -1 ≤ s.vote ∧ s.vote < 16) (hat : K.at_ + 2 ≤ d.seen.length) (hd : d.ok) (hpl : d.pend.length < 700000) : Trip Tryd.prog 26 #[.pointer (some ⟨b, 0, none⟩), .agg (stV s).toArray] [kpr b db jb K, disk db d, tblA] fun r Δ => r = .int .i64 (kmark d K s.ks).2.2 ∧ Δ = [kpr b db jb (kmark d K s.ks).2.1, disk db (kmark d K s.ks).1] := by
  refine kpr_open fun L hL => ?_
  obtain ⟨sa, sc, hs, ha, hc⟩ := L
  obtain ⟨hsl, hheld, hro⟩ := hL
  dsimp only at hsl hheld hro
  have hlen : hs.length = K.held.length := by rw [← hheld, List.length_map]
  have hdn := hd.n
  have hhl := headB_len s.ks
  refine Trip.start 34 [.tmp 4] [(0, .pointer (some ⟨b, 0, none⟩)), (1, .agg (stV s).toArray)] Tryd.func26 rfl Tryd.ntmps26 rfl ⟨rfl, rfl, trivial⟩ rfl ?_
  refine WPC.seqR ?_
  refine nw fun b1 => ?_
  refine stp ?_
  refine WPL.nil ?_
  refine WPC.seqR ?_
  refine stp ?_
  refine kall rfl (c_head s (by omega)) ?_
  rintro _ _ ⟨a, c, rfl, hsh, rfl⟩
  refine stp ?_
  refine WPL.nil ?_
  refine WPC.seqR ?_
  iterate 6 refine stp ?_
  refine sto ?_
  refine WPL.nil ?_
  refine WPC.seq ?_
  refine WPC.seqR ?_
  iterate 5 refine stp ?_
  refine kall rfl (c_Equal (p := false) (q := false) hsh hsl) ?_
  rintro _ _ ⟨rfl, rfl⟩
  refine WPL.nil ?_
  refine WPC.cond rfl (fun h0 => ?_) (fun h0 => ?_)
  · have h0 : headB s.ks = K.slot := by simpa using h0
    have ek : kmark d K s.ks = (d, ({ K with base := s.base } : KP), 0) := by unfold kmark; rw [if_pos h0]; rfl
    rw [ek]
    refine WPC.seqR ?_
    refine stp ?_
    refine WPL.nil ?_
    refine WPC.ret ?_
    refine thenQ_r ?_
    exact endR_r rfl (.tmp rfl .nil) ((Imp.pk).trans (kpr_close (b := b) (db := db) (jb := jb) (K := ({ K with base := s.base } : KP)) ⟨sa, sc, hs, ha, hc⟩ ⟨hsl, hheld, hro⟩ (Γ := [disk db d]))) ⟨rfl, rfl⟩
  · have h0 : headB s.ks ≠ K.slot := by simpa using h0
    have ek : kmark d K s.ks = ((save d (K.at_ : Int) (headB s.ks)).1, ({ K with base := s.base, slot := headB s.ks } : KP), (save d (K.at_ : Int) (headB s.ks)).2) := by unfold kmark; rw [if_neg h0]; rfl
    rw [ek]
    refine WPC.skip ?_
    refine thenQ_n ?_
    refine WPC.seqR ?_
    iterate 4 refine stp ?_
    refine sto ?_
    refine WPL.nil ?_
    refine WPC.seqD mixed ?_
    refine atP 0 rfl ?_
    refine atP 1 rfl ?_
    refine atP 2 rfl ?_
    refine atL 3 rfl ?_
    refine atP 4 rfl ?_
    refine atP 5 rfl ?_
    refine atP 6 rfl ?_
    refine atL 7 rfl ?_
    refine atP 8 rfl ?_
    refine WPA.oneE 9 [] (by kernel_rfl) rfl rfl (by repeat (first | exact .nil | refine .anc rfl ?_ | refine .keep mm ?_)) (C1.call (c_call Tryd.func50 rfl rfl rfl) (c_Save (i := (K.at_ : Int)) (by omega) hd (by omega) (by omega) hsh) pkk rfl ?_)
    rintro _ _ ⟨rfl, rfl⟩
    refine ⟨(.nil _), ?_⟩
    refine WPA.putS ?_
    refine atP 10 rfl ?_
    refine WPA.done (by kernel_rfl) ?_
    refine WPC.ret ?_
    exact endR_r rfl (.tmp rfl .nil) ((Imp.pk).trans (kpr_close (b := b) (db := db) (jb := jb) (K := ({ K with base := s.base, slot := headB s.ks } : KP)) ⟨a, c, hs, ha, hc⟩ ⟨hsh, hheld, hro⟩ (Γ := [disk db (save d (K.at_ : Int) (headB s.ks)).1]))) ⟨rfl, rfl⟩

theorem c_DeleteR {a : Option Addr} {n c k : Nat} {rs : List RR} {sp : List Value} (hs : Sok 4 a n c (rs.flatMap encRR)) (hn : rs.length = n) (hk : k ≤ n) (hn2 : n ≤ 1000) (hsp : sp.length = (c - n) * 4) : Trip Tryd.prog 53 #[.slice a n c, .int .i64 0, .int .i64 (k : Int)] [cells true (blk a) (off a) (rs.flatMap encRR ++ sp)] fun r Δ => ∃ sp', r = .slice a (n - k) c ∧ sp'.length = (c - (n - k)) * 4 ∧ Δ = [cells true (blk a) (off a) (((rs.drop k).flatMap encRR) ++ sp')] := by
  have hcap := hs.cap
  refine Trip.start 33 [.tmp 6] [(0, .slice a n c), (1, .int .i64 0), (2, .int .i64 (k : Int))] Tryd.func53 rfl Tryd.ntmps53 rfl ⟨rfl, rfl, rfl, trivial⟩ rfl ?_
  refine WPC.seqR ?_
  refine stp ?_
  refine WPL.nil ?_
  refine WPC.seqR ?_
  iterate 6 refine stp ?_
  refine WPL.nil ?_
  refine WPC.seq ?_
  refine WPC.seqR ?_
  iterate 3 refine stp ?_
  refine WPL.nil ?_
  refine WPC.cond rfl (fun h0 => ?_) (fun h0 => ?_)
  · have hk0 : k = 0 := by simp at h0; omega
    subst hk0
    refine WPC.seqR ?_
    iterate 2 refine stp ?_
    refine WPL.nil ?_
    refine WPC.ret ?_
    refine thenQ_r ?_
    exact endR_r rfl (.tmp rfl .nil) Imp.pk ⟨sp, rfl, hsp, rfl⟩
  · have hk0 : 0 < k := by simp at h0; omega
    have hp : Pl a := hs.at (by omega) (by omega)
    obtain ⟨ab, ao, rfl⟩ : ∃ ab ao, a = some ⟨ab, ao, none⟩ := ⟨blk a, off a, hp⟩
    dsimp only [blk, off]
    refine WPC.skip ?_
    refine thenQ_n ?_
    refine WPC.seqR ?_
    iterate 3 refine stp ?_
    refine WPL.nil ?_
    refine WPC.seqD mixed ?_
    refine atP 0 rfl ?_
    refine atP 1 rfl ?_
    refine WPA.takeP 2 rfl (q_sliceHi (j := 0) sl_sl_keep_record rfl rfl (by omega)) (by kernel_rfl) (by kernel_rfl) (by kernel_rfl) rfl rfl (.nil _) ?_
    refine WPA.putS ?_
    refine atP 3 rfl ?_
    refine atP 4 rfl ?_
    refine WPA.takeP 5 rfl (q_sliceLoC (l := k) sl_sl_keep_record rfl rfl hk hcap) (by kernel_rfl) (by kernel_rfl) (by kernel_rfl) rfl rfl (.nil _) ?_
    refine WPA.putS ?_
    refine WPA.oneE 6 [] (by kernel_rfl) rfl rfl (by repeat (first | exact .nil | refine .anc rfl ?_ | refine .keep mm ?_)) (E1.wpo (e_appendRoom (b := ab) (o := ao) (i := 0) (n := 0) (c := c) (m := n - k) (vs := (rs.flatMap encRR ++ sp)) (news := ((rs.drop k).flatMap encRR)) mk_sl_keep_record rfl rfl (rd_cutR mm hk hn hcap) (encRR_one _) (by omega) (by show 0 + (0 + (n - k)) * 4 ≤ _; rw [List.length_append, flat_length encRR_len, hn, hsp]; omega) uu) rfl ?_)
    rintro _ _ ⟨rfl, rfl⟩
    rw [show ao + 0 = ao from rfl, show 0 + (n - k) = n - k by omega, show ((rs.flatMap encRR ++ sp).take (0 + 0 * [Value.int .u64 0, Value.int .u64 0, Value.int .i64 0, Value.slice none 0 0].length) ++ ((rs.drop k).flatMap encRR) ++ (rs.flatMap encRR ++ sp).drop (0 + (n - k) * [Value.int .u64 0, Value.int .u64 0, Value.int .i64 0, Value.slice none 0 0].length)) = (((rs.drop k).flatMap encRR) ++ (rs.flatMap encRR ++ sp).drop ((n - k) * 4)) by simp]
    refine ⟨(.nil _), ?_⟩
    refine WPA.putS ?_
    refine atP 7 rfl ?_
    refine WPA.done (by kernel_rfl) ?_
    refine WPC.seqR ?_
    iterate 4 refine stp ?_
    refine L_s (q_sliceLH (l := n - k) (j := n) sl_sl_keep_record rfl rfl rfl (by omega) hcap) rfl ?_
    rw [cut_pl (Pl.mk ab ao) (show c ≠ n - k by omega)]
    simp only [blk_some, off_some]
    refine WPL.cons rfl (E1.wpo (e_clear (b := ab) (o := ao) (i := (n - k) * 4) (m := n - (n - k)) (vs := (((rs.drop k).flatMap encRR) ++ (rs.flatMap encRR ++ sp).drop ((n - k) * 4))) mk_sl_keep_record (by decide) (by simp [Value.oneCell']) rfl (by omega) (by show (n - k) * 4 + (n - (n - k)) * 4 ≤ _; rw [List.length_append, List.length_drop, List.length_append, flat_length encRR_len, flat_length encRR_len, List.length_drop, hn, hsp]; omega) uu) rfl ?_)
    rintro _ _ ⟨rfl, rfl⟩
    rw [show n - (n - k) = k by omega, show ((((rs.drop k).flatMap encRR) ++ (rs.flatMap encRR ++ sp).drop ((n - k) * 4)).take ((n - k) * 4) ++ repZ [Value.int .u64 0, Value.int .u64 0, Value.int .i64 0, Value.slice none 0 0] k ++ (((rs.drop k).flatMap encRR) ++ (rs.flatMap encRR ++ sp).drop ((n - k) * 4)).drop ((n - k) * 4 + k * [Value.int .u64 0, Value.int .u64 0, Value.int .i64 0, Value.slice none 0 0].length)) = ((rs.drop k).flatMap encRR) ++ (repZ [Value.int .u64 0, Value.int .u64 0, Value.int .i64 0, Value.slice none 0 0] k ++ sp) from del_listR hk hn]
    refine WPL.putN ?_
    refine WPL.nil ?_
    refine WPC.prune [(0, _), (6, _)] sbb ?_
    refine WPC.seqR ?_
    iterate 2 refine stp ?_
    refine WPL.nil ?_
    refine WPC.ret ?_
    exact endR_r rfl (.tmp rfl .nil) Imp.pk ⟨repZ [Value.int .u64 0, Value.int .u64 0, Value.int .i64 0, Value.slice none 0 0] k ++ sp, rfl, by rw [List.length_append, repZ_length, hsp]; show k * 4 + _ = _; omega, rfl⟩

theorem c_trim1 {b1 : Nat} (s : SV) (x : RR) : Trip Tryd.prog 52 #[.agg (encRR x).toArray, .pointer (some ⟨b1, 0, none⟩)] [cells true b1 0 (lgV s)] fun r Δ => r = .bool (decide ((x.at_ : Int) > (s.base : Int))) ∧ Δ = [cells true b1 0 (lgV s)] := by
  refine Trip.start 9 [.tmp 3] [(0, .agg (encRR x).toArray), (1, .pointer (some ⟨b1, 0, none⟩))] Tryd.func52 rfl Tryd.ntmps52 rfl ⟨rfl, rfl, trivial⟩ rfl ?_
  refine WPC.seqR ?_
  refine nw fun b1 => ?_
  refine stp ?_
  refine WPL.nil ?_
  refine WPC.seqR ?_
  iterate 6 refine stp ?_
  refine WPL.nil ?_
  refine WPC.ret ?_
  exact endR_r rfl (.tmp rfl .nil) Imp.pk ⟨rfl, rfl⟩

theorem c_ktrim {b db jb : Nat} {K : KP} {d : DK} (s : SV) (hj : K.j.ok d) (hd : d.ok) (hpl : d.pend.length < 700000) (hnx : K.j.next < 4294967296) (hkl : K.held.length ≤ 1000) : Trip Tryd.prog 28 #[.pointer (some ⟨b, 0, none⟩), .agg (lgV s).toArray] [kpr b db jb K, jour jb db K.j, disk db d, tblA] fun r Δ => r = .int .i64 (ktrim d K s.lg).2.2 ∧ Δ = [kpr b db jb (ktrim d K s.lg).2.1, jour jb db (ktrim d K s.lg).2.1.j, disk db (ktrim d K s.lg).1] := by
  refine kpr_open fun L hL => ?_
  obtain ⟨sa, sc, hs, ha, hc⟩ := L
  obtain ⟨hsl, hheld, hro⟩ := hL
  dsimp only at hsl hheld hro
  have hlen : hs.length = K.held.length := by rw [← hheld, List.length_map]
  refine Trip.start 36 [.tmp 4] [(0, .pointer (some ⟨b, 0, none⟩)), (1, .agg (lgV s).toArray)] Tryd.func28 rfl Tryd.ntmps28 rfl ⟨rfl, rfl, trivial⟩ rfl ?_
  refine WPC.seqR ?_
  refine nw fun b1 => ?_
  refine stp ?_
  refine WPL.nil ?_
  refine WPC.seqR ?_
  refine WPL.imp (Imp.pk (Δ := [buf 4 ha hs.length hc (hs.flatMap encRR), cells true b1 0 (lgV s), cells true b 0 (kprC db jb K ⟨sa, sc, hs, ha, hc⟩), Sl.sl false sa (K.slot.map u8), bytes (hs.map (·.x.b)), jour jb db K.j, disk db d, tblA])) ?_
  refine WPL.bufOpen fun sp hsb hsp => ?_
  iterate 5 refine stp ?_
  refine kall rfl (c_IndexR (f := fun x : RR => decide ((x.at_ : Int) > (s.base : Int))) (C := cells true b1 0 (lgV s)) hsb (by omega) rfl rfl rfl (fun x => c_trim1 s x)) ?_
  rintro _ _ ⟨⟨i, rfl, hi⟩, rfl⟩
  have hN := ktrimN_of hheld hi
  refine stp ?_
  refine WPL.nil ?_
  refine WPC.seq ?_
  refine WPC.seqR ?_
  refine WPL.imp ((Imp.pk (Δ := [Sl.sl true ha (hs.flatMap encRR), cells true (blk ha) (off ha + (hs.flatMap encRR).length) sp, cells true b1 0 (lgV s), cells true b 0 (kprC db jb K ⟨sa, sc, hs, ha, hc⟩), Sl.sl false sa (K.slot.map u8), bytes (hs.map (·.x.b)), jour jb db K.j, disk db d, tblA])).trans (Imp.bufClose hsb hsp)) ?_
  iterate 2 refine stp ?_
  refine WPL.nil ?_
  refine WPC.midS (fun e Γ => (ktrimN K s.lg) ≤ hs.length ∧ e = [(0, .pointer (some ⟨b, 0, none⟩)), (4, .int .i64 0), (5, .int .i64 ((ktrimN K s.lg) : Int))] ∧ Γ = [buf 4 ha hs.length hc (hs.flatMap encRR), cells true b1 0 (lgV s), cells true b 0 (kprC db jb K ⟨sa, sc, hs, ha, hc⟩), Sl.sl false sa (K.slot.map u8), bytes (hs.map (·.x.b)), jour jb db K.j, disk db d, tblA]) ?_ ?_
  · refine WPC.cond rfl (fun h0 => ?_) (fun h0 => ?_)
    · have hi0 : i < 0 := by simpa using h0
      have hN0 : ((hs.length : Nat) : Int) = ((ktrimN K s.lg) : Int) := by rcases hN with h | h; rw [h.2]; omega
      have hNl : (ktrimN K s.lg) ≤ hs.length := by omega
      refine WPC.region ?_
      iterate 5 refine stp ?_
      rw [hN0]
      refine stp ?_
      refine WPL.nil ?_
      refine thenQ_n ?_
      exact ⟨rfl, _, _, ⟨hNl, rfl, rfl⟩, sbb, Imp.pk⟩
    · have hi0 : 0 ≤ i := by simp at h0; omega
      have hN0 : i = ((ktrimN K s.lg) : Int) := by rcases hN with h | h; omega; exact h.1
      have hNl : (ktrimN K s.lg) ≤ hs.length := by rcases hN with h | h; omega; exact h.2
      rw [hN0]
      refine WPC.skip ?_
      refine thenQ_n ?_
      exact ⟨rfl, _, _, ⟨hNl, rfl, rfl⟩, sbb, Imp.pk⟩
  · rintro e Γ ⟨hNl, rfl, rfl⟩
    refine WPC.seq ?_
    refine WPC.seqR ?_
    iterate 2 refine stp ?_
    refine WPL.nil ?_
    refine WPC.cond rfl (fun h1 => ?_) (fun h1 => ?_)
    · have hz : (ktrimN K s.lg) = 0 := by simp at h1; omega
      have ek : ktrim d K s.lg = (d, K, 0) := by unfold ktrim; rw [if_pos hz]
      rw [ek]
      refine WPC.seqR ?_
      refine stp ?_
      refine WPL.nil ?_
      refine WPC.ret ?_
      refine thenQ_r ?_
      exact endR_r rfl (.tmp rfl .nil) ((Imp.pk).trans (kpr_close (b := b) (db := db) (jb := jb) (K := K) ⟨sa, sc, hs, ha, hc⟩ ⟨hsl, hheld, hro⟩ (Γ := [jour jb db K.j, disk db d]))) ⟨rfl, rfl⟩
    · have hz : (ktrimN K s.lg) ≠ 0 := by simp at h1; omega
      have ek : ktrim d K s.lg = ((jtrim d K.j ((ktrimN K s.lg) : Int)).1, ({ K with held := K.held.drop (ktrimN K s.lg), j := (jtrim d K.j ((ktrimN K s.lg) : Int)).2.1 } : KP), (jtrim d K.j ((ktrimN K s.lg) : Int)).2.2) := by unfold ktrim; rw [if_neg hz]
      rw [ek]
      refine WPC.skip ?_
      refine thenQ_n ?_
      refine WPC.seqR ?_
      refine WPL.imp (Imp.pk (Δ := [buf 4 ha hs.length hc (hs.flatMap encRR), cells true b 0 (kprC db jb K ⟨sa, sc, hs, ha, hc⟩), Sl.sl false sa (K.slot.map u8), bytes (hs.map (·.x.b)), jour jb db K.j, disk db d, tblA])) ?_
      refine WPL.bufAll fun sp hsb hsp hpc => ?_
      iterate 6 refine stp ?_
      refine kall rfl (c_DeleteR (n := hs.length) (c := hc) (k := (ktrimN K s.lg)) hsb rfl hNl (by omega) hsp) ?_
      rintro _ _ ⟨sp', rfl, hsp', rfl⟩
      rw [show hs.length - (ktrimN K s.lg) = (hs.drop (ktrimN K s.lg)).length by simp]
      iterate 2 refine stp ?_
      refine sto ?_
      refine WPL.nil ?_
      refine WPC.seqR ?_
      iterate 5 refine stp ?_
      refine kall rfl (c_JTrim (i := ((ktrimN K s.lg) : Int)) hj hd (by omega) hnx) ?_
      rintro _ _ ⟨rfl, rfl⟩
      refine stp ?_
      refine WPL.nil ?_
      refine WPC.ret ?_
      rw [show hs.length - (ktrimN K s.lg) = (hs.drop (ktrimN K s.lg)).length by simp] at hsp'
      have hs4 : Sok 4 ha (hs.drop (ktrimN K s.lg)).length hc ((hs.drop (ktrimN K s.lg)).flatMap encRR) := ⟨flat_length encRR_len _, by rw [List.length_drop]; exact Nat.le_trans (Nat.sub_le _ _) hsb.cap, by rcases hsb.pl with h | h; (left; exact List.eq_nil_of_length_eq_zero (by have := congrArg List.length h; rw [flat_length encRR_len] at this; rw [flat_length encRR_len, List.length_drop]; simp only [List.length_nil] at this; omega)); exact .inr h⟩
      exact endR_r rfl (.tmp rfl .nil) ((Imp.pk (Δ := [cells true (blk ha) (off ha) ((hs.drop (ktrimN K s.lg)).flatMap encRR ++ sp'), cells true b 0 (kprC db jb ({ K with held := K.held.drop (ktrimN K s.lg), j := (jtrim d K.j ((ktrimN K s.lg) : Int)).2.1 } : KP) ⟨sa, sc, (hs.drop (ktrimN K s.lg)), ha, hc⟩), Sl.sl false sa (K.slot.map u8), bytes (hs.map (·.x.b)), jour jb db (jtrim d K.j ((ktrimN K s.lg) : Int)).2.1, disk db (jtrim d K.j ((ktrimN K s.lg) : Int)).1])).trans ((Imp.bufI hs4 hpc hsp').trans ((Imp.pk (Δ := [bytes (hs.map (·.x.b)), buf 4 ha (hs.drop (ktrimN K s.lg)).length hc ((hs.drop (ktrimN K s.lg)).flatMap encRR), cells true b 0 (kprC db jb ({ K with held := K.held.drop (ktrimN K s.lg), j := (jtrim d K.j ((ktrimN K s.lg) : Int)).2.1 } : KP) ⟨sa, sc, (hs.drop (ktrimN K s.lg)), ha, hc⟩), Sl.sl false sa (K.slot.map u8), jour jb db (jtrim d K.j ((ktrimN K s.lg) : Int)).2.1, disk db (jtrim d K.j ((ktrimN K s.lg) : Int)).1])).trans ((bytes_sub (ys := (hs.drop (ktrimN K s.lg)).map (·.x.b)) (fun y hy => by obtain ⟨r, hr, rfl⟩ := List.mem_map.1 hy; exact List.mem_map.2 ⟨r, List.mem_of_mem_drop hr, rfl⟩)).trans ((Imp.pk).trans (kpr_close (b := b) (db := db) (jb := jb) (K := ({ K with held := K.held.drop (ktrimN K s.lg), j := (jtrim d K.j ((ktrimN K s.lg) : Int)).2.1 } : KP)) ⟨sa, sc, (hs.drop (ktrimN K s.lg)), ha, hc⟩ ⟨hsl, by rw [List.map_drop, hheld], fun r hr => hro r (List.mem_of_mem_drop hr)⟩ (Γ := [jour jb db (jtrim d K.j ((ktrimN K s.lg) : Int)).2.1, disk db (jtrim d K.j ((ktrimN K s.lg) : Int)).1]))))))) ⟨rfl, rfl⟩

end Go.Sl
/- Walks: cuts. -/
namespace Go.Sl
open Go Go.RowKit Go.Proofs
set_option linter.unusedSimpArgs false
set_option linter.unusedVariables false
attribute [local irreducible] faB szB ldB zB zL slB mkB arB plB intB cells objc star stars buf slv grp whole Sat WPC WPL WPA WPO WPQ Trip Q1 E1 S1 C1

theorem c_kcut {b db jb : Nat} {K : KP} {d : DK} (s : SV) (hok : s.ok) (hsz : s.n < 1000000000) (hsb : s.base < 1152921504606846976) (hj : K.j.ok d) (hd : d.ok) (hpl : d.pend.length < 700000) (hnx : K.j.next < 4294967296) (hkl : K.held.length ≤ 1000) : Trip Tryd.prog 30 #[.pointer (some ⟨b, 0, none⟩), .agg (lgV s).toArray] [kpr b db jb K, jour jb db K.j, disk db d, tblA, s.ents, s.dat] fun r Δ => r = .int .i64 (kcut d K s.lg).2.2 ∧ Δ = [kpr b db jb (kcut d K s.lg).2.1, jour jb db (kcut d K s.lg).2.1.j, disk db (kcut d K s.lg).1] := by
  refine kpr_open fun L hL => ?_
  obtain ⟨sa, sc, hs, ha, hc⟩ := L
  obtain ⟨hsl, hheld, hro⟩ := hL
  dsimp only at hsl hheld hro
  have hlen : hs.length = K.held.length := by rw [← hheld, List.length_map]
  have hon := hok.n
  refine Trip.start 68 [.tmp 4] [(0, .pointer (some ⟨b, 0, none⟩)), (1, .agg (lgV s).toArray)] Tryd.func30 rfl Tryd.ntmps30 rfl ⟨rfl, rfl, trivial⟩ rfl ?_
  refine WPC.seqR ?_
  refine nw fun b1 => ?_
  refine stp ?_
  refine WPL.nil ?_
  refine WPC.seqR ?_
  refine WPL.imp (Imp.pk (Δ := [buf 4 ha hs.length hc (hs.flatMap encRR), cells true b1 0 (lgV s), cells true b 0 (kprC db jb K ⟨sa, sc, hs, ha, hc⟩), Sl.sl false sa (K.slot.map u8), bytes (hs.map (·.x.b)), s.ents, s.dat, jour jb db K.j, disk db d, tblA])) ?_
  refine WPL.bufOpen fun sp hsbu hsp => ?_
  refine stp ?_
  refine WPL.nil ?_
  refine WPC.seqCutS (fun e Γ => ∃ k : Nat, k ≤ hs.length ∧ k = sameN s.base K.held (s.es.map RE.pl) 0 ∧ e = [(0, .pointer (some ⟨b, 0, none⟩)), (4, .int .i64 0), (5, .int .i64 (k : Int))] ∧ Γ = [Sl.sl true ha (hs.flatMap encRR), cells true (blk ha) (off ha + (hs.flatMap encRR).length) sp, cells true b1 0 (lgV s), cells true b 0 (kprC db jb K ⟨sa, sc, hs, ha, hc⟩), Sl.sl false sa (K.slot.map u8), bytes (hs.map (·.x.b)), s.ents, s.dat, jour jb db K.j, disk db d, tblA]) ?_ ?_
  · refine WPC.block ?_
    refine WPC.loopS (fun m e Γ => ∃ k : Nat, m = hs.length - k ∧ k ≤ hs.length ∧ sameN s.base (K.held.drop k) ((s.es.map RE.pl).drop k) k = sameN s.base K.held (s.es.map RE.pl) 0 ∧ e = [(0, .pointer (some ⟨b, 0, none⟩)), (3, .pointer (some ⟨b1, 0, none⟩)), (4, .int .i64 0), (5, .int .i64 (k : Int))] ∧ Γ = [Sl.sl true ha (hs.flatMap encRR), cells true (blk ha) (off ha + (hs.flatMap encRR).length) sp, cells true b1 0 (lgV s), cells true b 0 (kprC db jb K ⟨sa, sc, hs, ha, hc⟩), Sl.sl false sa (K.slot.map u8), bytes (hs.map (·.x.b)), s.ents, s.dat, jour jb db K.j, disk db d, tblA]) (hs.length) ⟨0, rfl, by omega, rfl, rfl, rfl⟩ sbb Imp.pk ?_
    rintro m e Γ ⟨k, rfl, hk, hsn, rfl, rfl⟩
    refine WPC.seq ?_
    refine WPC.seqD mixed ?_
    refine atP 0 rfl ?_
    refine atP 1 rfl ?_
    refine atP 2 rfl ?_
    refine atP 3 rfl ?_
    refine atL 4 rfl ?_
    refine atP 5 rfl ?_
    refine atP 6 rfl ?_
    refine atP 7 rfl ?_
    refine WPA.split 14 _ rfl (fun g2_7 => ?_) (fun g2_7 => ?_)
    · have hlt : k < hs.length := by simpa using g2_7
      have hp : Pl ha := hsbu.at (by omega) (by omega)
      obtain ⟨r, hr⟩ : ∃ r, hs[k]? = some r := ⟨hs[k], by simp [hlt]⟩
      have hrm := List.mem_of_getElem? hr
      have hrp : K.held[k]? = some r.pl := by rw [← hheld, List.getElem?_map, hr]; rfl
      have hst := sameN_step (s := s) hrp
      rw [hsn] at hst
      have hget : (hs.flatMap encRR)[k * 4]? = some (.int .u64 (r.at_ : Int)) := flat_get encRR_len hs k 0 hr (by omega)
      refine atPY 8 rfl rfl rfl ?_
      refine atPY 9 rfl rfl rfl ?_
      refine atPY 10 rfl rfl rfl ?_
      refine atLY 11 rfl rfl rfl ?_
      refine atPY 12 rfl rfl rfl ?_
      refine WPA.takePY 13 rfl rfl rfl rfl (q_idxN (i := k) sl_sl_keep_record rfl rfl hlt hp) (by kernel_rfl) (by kernel_rfl) (by kernel_rfl) rfl (.cons (Ent.mem mm) (.cons (Ent.mem mm) (.nil _))) ?_
      refine WPA.putS ?_
      refine atPY 14 rfl rfl rfl ?_
      refine WPA.takeLY 15 rfl (Ent.mem mm) rfl rfl rfl (q_load1 (i := k * 4) ld_uint64 rfl (.head _) rfl hget) (by kernel_rfl) (by kernel_rfl) (by kernel_rfl) rfl (.cons (Ent.mem mm) (.cons (Ent.mem mm) (.nil _))) ?_
      refine WPA.putS ?_
      refine atPY 16 rfl rfl rfl ?_
      refine atLY 17 rfl rfl rfl ?_
      refine atPY 18 rfl rfl rfl ?_
      refine atPY 19 rfl rfl rfl ?_
      refine atPY 20 rfl rfl rfl ?_
      refine atPY 21 rfl rfl rfl ?_
      refine atPY 22 rfl rfl rfl ?_
      refine atP 23 rfl ?_
      refine atP 24 rfl ?_
      refine WPA.split 31 _ rfl (fun g2_24 => ?_) (fun g2_24 => ?_)
      · have hat : r.at_ = s.base + 1 + k := by simp at g2_24; omega
        refine atPY 25 rfl rfl rfl ?_
        refine atPY 26 rfl rfl rfl ?_
        refine atPY 27 rfl rfl rfl ?_
        refine atLY 28 rfl rfl rfl ?_
        refine atPY 29 rfl rfl rfl ?_
        refine WPA.takePY 30 rfl rfl rfl rfl (q_idxN (i := k) sl_sl_keep_record rfl rfl hlt hp) (by kernel_rfl) (by kernel_rfl) (by kernel_rfl) rfl (.cons (Ent.mem mm) (.cons (Ent.mem mm) (.cons (Ent.mem mm) (.cons (Ent.mem mm) (.cons (Ent.mem mm) (.nil _)))))) ?_
        refine WPA.putS ?_
        refine WPA.takeLY 31 rfl (Ent.mem mm) rfl rfl rfl (q_ldFlat ld_keep_record rfl (.head _) encRR_len hr) (by kernel_rfl) (by kernel_rfl) (by kernel_rfl) rfl (.cons (Ent.mem mm) (.cons (Ent.mem mm) (.cons (Ent.mem mm) (.cons (Ent.mem mm) (.cons (Ent.mem mm) (.nil _)))))) ?_
        refine WPA.putS ?_
        refine atLY 32 rfl rfl rfl ?_
        refine WPA.imp ((Imp.pk (Δ := [bytes (hs.map (·.x.b)), Sl.sl true ha (hs.flatMap encRR), cells true (blk ha) (off ha + (hs.flatMap encRR).length) sp, cells true b1 0 (lgV s), cells true b 0 (kprC db jb K ⟨sa, sc, hs, ha, hc⟩), Sl.sl false sa (K.slot.map u8), s.ents, s.dat, jour jb db K.j, disk db d, tblA])).trans (bytes_one (List.mem_map.2 ⟨r, hrm, rfl⟩))) ?_
        refine WPA.oneY 33 [] (by kernel_rfl) rfl rfl rfl rfl (by repeat (first | exact .nil | refine .anc rfl ?_ | refine .keep mm ?_)) (C1.call (c_call Tryd.func55 rfl rfl rfl) (c_ksame r s hok hsz (hro r hrm) (by omega) hsb) pkk rfl ?_)
        rintro _ _ ⟨rfl, rfl⟩
        refine ⟨(.nil _), ?_⟩
        refine WPA.putS ?_
        refine atP 34 rfl ?_
        refine WPA.done (by kernel_rfl) ?_
        refine WPC.cond rfl (fun h0 => ?_) (fun h0 => ?_)
        · have hsm : sameE s r = true := by simpa using h0
          rw [if_pos ⟨hat, hsm⟩] at hst
          refine WPC.skip ?_
          refine thenQ_n ?_
          refine WPC.block ?_
          refine WPC.region ?_
          iterate 3 refine stp ?_
          refine WPL.nil ?_
          refine blockQ_n ?_
          refine thenQ_n ?_
          exact ⟨rfl, _, _, _, by omega, ⟨k + 1, rfl, by omega, hst.symm, rfl, rfl⟩, sbb, Imp.pk⟩
        · have hsm : ¬ sameE s r = true := by simpa using h0
          rw [if_neg (fun h => hsm h.2)] at hst
          have hfin : k = sameN s.base K.held (s.es.map RE.pl) 0 := hst.symm
          refine WPC.exit ?_
          refine thenQ_e ?_
          refine thenQ_e ?_
          refine blockQ_here ?_
          refine thenQ_n ?_
          exact ⟨rfl, _, _, ⟨k, hk, hfin, rfl, rfl⟩, sbb, Imp.pk⟩
      · have hat : ¬ r.at_ = s.base + 1 + k := by simp at g2_24; omega
        rw [if_neg (fun h => hat h.1)] at hst
        refine WPA.takeN 25 rfl rfl rfl rfl rfl (by kernel_rfl) (by kernel_rfl) (by kernel_rfl) rfl (.cons (Ent.mem mm) (.cons (Ent.mem mm) (.cons (Ent.mem mm) (.cons (Ent.mem mm) (.nil _))))) ?_
        refine WPA.putS ?_
        refine WPA.takeN 26 rfl rfl rfl rfl rfl (by kernel_rfl) (by kernel_rfl) (by kernel_rfl) rfl (.cons (Ent.mem mm) (.cons (Ent.mem mm) (.cons (Ent.mem mm) (.cons (Ent.mem mm) (.nil _))))) ?_
        refine WPA.putS ?_
        refine WPA.takeN 27 rfl rfl rfl rfl rfl (by kernel_rfl) (by kernel_rfl) (by kernel_rfl) rfl (.cons (Ent.mem mm) (.cons (Ent.mem mm) (.cons (Ent.mem mm) (.cons (Ent.mem mm) (.nil _))))) ?_
        refine WPA.putS ?_
        refine WPA.takeN 28 rfl rfl rfl rfl rfl (by kernel_rfl) (by kernel_rfl) (by kernel_rfl) rfl (.cons (Ent.mem mm) (.cons (Ent.mem mm) (.cons (Ent.mem mm) (.cons (Ent.mem mm) (.nil _))))) ?_
        refine WPA.putS ?_
        refine WPA.takeN 29 rfl rfl rfl rfl rfl (by kernel_rfl) (by kernel_rfl) (by kernel_rfl) rfl (.cons (Ent.mem mm) (.cons (Ent.mem mm) (.cons (Ent.mem mm) (.cons (Ent.mem mm) (.nil _))))) ?_
        refine WPA.putS ?_
        refine WPA.takeN 30 rfl rfl rfl rfl rfl (by kernel_rfl) (by kernel_rfl) (by kernel_rfl) rfl (.cons (Ent.mem mm) (.cons (Ent.mem mm) (.cons (Ent.mem mm) (.cons (Ent.mem mm) (.nil _))))) ?_
        refine WPA.putS ?_
        refine WPA.takeN 31 rfl rfl rfl rfl rfl (by kernel_rfl) (by kernel_rfl) (by kernel_rfl) rfl (.cons (Ent.mem mm) (.cons (Ent.mem mm) (.cons (Ent.mem mm) (.cons (Ent.mem mm) (.nil _))))) ?_
        refine WPA.putS ?_
        refine WPA.takeN 32 rfl rfl rfl rfl rfl (by kernel_rfl) (by kernel_rfl) (by kernel_rfl) rfl (.cons (Ent.mem mm) (.cons (Ent.mem mm) (.cons (Ent.mem mm) (.cons (Ent.mem mm) (.nil _))))) ?_
        refine WPA.putS ?_
        skip
        refine WPA.takeN 33 rfl rfl rfl rfl rfl (by kernel_rfl) (by kernel_rfl) (by kernel_rfl) rfl (.cons (Ent.mem mm) (.cons (Ent.mem mm) (.cons (Ent.mem mm) (.cons (Ent.mem mm) (.nil _))))) ?_
        refine WPA.putS ?_
        refine atP 34 rfl ?_
        refine WPA.done (by kernel_rfl) ?_
        refine WPC.cond rfl (fun h0 => ?_) (fun h0 => ?_)
        · skip
          simp at h0
        · have hfin : k = sameN s.base K.held (s.es.map RE.pl) 0 := hst.symm
          refine WPC.exit ?_
          refine thenQ_e ?_
          refine thenQ_e ?_
          refine blockQ_here ?_
          refine thenQ_n ?_
          exact ⟨rfl, _, _, ⟨k, hk, hfin, rfl, rfl⟩, sbb, Imp.pk⟩
    · have hge : ¬ k < hs.length := by simpa using g2_7
      have hfin : k = sameN s.base K.held (s.es.map RE.pl) 0 := by rw [← hsn, sameN_done (by omega)]
      refine WPA.takeN 8 rfl rfl rfl rfl rfl (by kernel_rfl) (by kernel_rfl) (by kernel_rfl) rfl (.cons (Ent.mem mm) (.nil _)) ?_
      refine WPA.putS ?_
      refine WPA.takeN 9 rfl rfl rfl rfl rfl (by kernel_rfl) (by kernel_rfl) (by kernel_rfl) rfl (.cons (Ent.mem mm) (.nil _)) ?_
      refine WPA.putS ?_
      refine WPA.takeN 10 rfl rfl rfl rfl rfl (by kernel_rfl) (by kernel_rfl) (by kernel_rfl) rfl (.cons (Ent.mem mm) (.nil _)) ?_
      refine WPA.putS ?_
      refine WPA.takeN 11 rfl rfl rfl rfl rfl (by kernel_rfl) (by kernel_rfl) (by kernel_rfl) rfl (.cons (Ent.mem mm) (.nil _)) ?_
      refine WPA.putS ?_
      refine WPA.takeN 12 rfl rfl rfl rfl rfl (by kernel_rfl) (by kernel_rfl) (by kernel_rfl) rfl (.cons (Ent.mem mm) (.nil _)) ?_
      refine WPA.putS ?_
      refine WPA.takeN 13 rfl rfl rfl rfl rfl (by kernel_rfl) (by kernel_rfl) (by kernel_rfl) rfl (.cons (Ent.mem mm) (.nil _)) ?_
      refine WPA.putS ?_
      refine WPA.takeN 14 rfl rfl rfl rfl rfl (by kernel_rfl) (by kernel_rfl) (by kernel_rfl) rfl (.cons (Ent.mem mm) (.nil _)) ?_
      refine WPA.putS ?_
      refine WPA.takeN 15 rfl rfl rfl rfl rfl (by kernel_rfl) (by kernel_rfl) (by kernel_rfl) rfl (.cons (Ent.mem mm) (.nil _)) ?_
      refine WPA.putS ?_
      refine WPA.takeN 16 rfl rfl rfl rfl rfl (by kernel_rfl) (by kernel_rfl) (by kernel_rfl) rfl (.cons (Ent.mem mm) (.nil _)) ?_
      refine WPA.putS ?_
      refine WPA.takeN 17 rfl rfl rfl rfl rfl (by kernel_rfl) (by kernel_rfl) (by kernel_rfl) rfl (.cons (Ent.mem mm) (.nil _)) ?_
      refine WPA.putS ?_
      refine WPA.takeN 18 rfl rfl rfl rfl rfl (by kernel_rfl) (by kernel_rfl) (by kernel_rfl) rfl (.cons (Ent.mem mm) (.nil _)) ?_
      refine WPA.putS ?_
      refine WPA.takeN 19 rfl rfl rfl rfl rfl (by kernel_rfl) (by kernel_rfl) (by kernel_rfl) rfl (.cons (Ent.mem mm) (.nil _)) ?_
      refine WPA.putS ?_
      refine WPA.takeN 20 rfl rfl rfl rfl rfl (by kernel_rfl) (by kernel_rfl) (by kernel_rfl) rfl (.cons (Ent.mem mm) (.nil _)) ?_
      refine WPA.putS ?_
      refine WPA.takeN 21 rfl rfl rfl rfl rfl (by kernel_rfl) (by kernel_rfl) (by kernel_rfl) rfl (.cons (Ent.mem mm) (.nil _)) ?_
      refine WPA.putS ?_
      refine WPA.takeN 22 rfl rfl rfl rfl rfl (by kernel_rfl) (by kernel_rfl) (by kernel_rfl) rfl (.cons (Ent.mem mm) (.nil _)) ?_
      refine WPA.putS ?_
      refine atP 23 rfl ?_
      refine atP 24 rfl ?_
      refine WPA.split 31 _ rfl (fun g2_24 => ?_) (fun g2_24 => ?_)
      · skip
        simp at g2_24
      · skip
        refine WPA.takeN 25 rfl rfl rfl rfl rfl (by kernel_rfl) (by kernel_rfl) (by kernel_rfl) rfl (.cons (Ent.mem mm) (.nil _)) ?_
        refine WPA.putS ?_
        refine WPA.takeN 26 rfl rfl rfl rfl rfl (by kernel_rfl) (by kernel_rfl) (by kernel_rfl) rfl (.cons (Ent.mem mm) (.nil _)) ?_
        refine WPA.putS ?_
        refine WPA.takeN 27 rfl rfl rfl rfl rfl (by kernel_rfl) (by kernel_rfl) (by kernel_rfl) rfl (.cons (Ent.mem mm) (.nil _)) ?_
        refine WPA.putS ?_
        refine WPA.takeN 28 rfl rfl rfl rfl rfl (by kernel_rfl) (by kernel_rfl) (by kernel_rfl) rfl (.cons (Ent.mem mm) (.nil _)) ?_
        refine WPA.putS ?_
        refine WPA.takeN 29 rfl rfl rfl rfl rfl (by kernel_rfl) (by kernel_rfl) (by kernel_rfl) rfl (.cons (Ent.mem mm) (.nil _)) ?_
        refine WPA.putS ?_
        refine WPA.takeN 30 rfl rfl rfl rfl rfl (by kernel_rfl) (by kernel_rfl) (by kernel_rfl) rfl (.cons (Ent.mem mm) (.nil _)) ?_
        refine WPA.putS ?_
        refine WPA.takeN 31 rfl rfl rfl rfl rfl (by kernel_rfl) (by kernel_rfl) (by kernel_rfl) rfl (.cons (Ent.mem mm) (.nil _)) ?_
        refine WPA.putS ?_
        refine WPA.takeN 32 rfl rfl rfl rfl rfl (by kernel_rfl) (by kernel_rfl) (by kernel_rfl) rfl (.cons (Ent.mem mm) (.nil _)) ?_
        refine WPA.putS ?_
        skip
        refine WPA.takeN 33 rfl rfl rfl rfl rfl (by kernel_rfl) (by kernel_rfl) (by kernel_rfl) rfl (.cons (Ent.mem mm) (.nil _)) ?_
        refine WPA.putS ?_
        refine atP 34 rfl ?_
        refine WPA.done (by kernel_rfl) ?_
        refine WPC.cond rfl (fun h0 => ?_) (fun h0 => ?_)
        · skip
          simp at h0
        · skip
          refine WPC.exit ?_
          refine thenQ_e ?_
          refine thenQ_e ?_
          refine blockQ_here ?_
          refine thenQ_n ?_
          exact ⟨rfl, _, _, ⟨k, hk, hfin, rfl, rfl⟩, sbb, Imp.pk⟩
  · rintro e Γ ⟨k, hk, hfin, rfl, rfl⟩
    obtain ⟨h2, h3, rfl, rfl⟩ : ∃ h2 h3 : List RR, hs = h2 ++ h3 ∧ h2.length = k := ⟨hs.take k, hs.drop k, by simp, by rw [List.length_take]; omega⟩
    have hh2 : K.held.take h2.length = h2.map RR.pl := by rw [← hheld, List.map_append]; exact List.take_left' (by rw [List.length_map])
    refine WPC.seqR ?_
    iterate 6 refine stp ?_
    refine L_s (q_subI (a := (((h2 ++ h3).length : Nat) : Int)) (b := ((h2.length : Nat) : Int)) rfl rfl (by omega)) rfl ?_
    rw [show (((h2 ++ h3).length : Nat) : Int) - ((h2.length : Nat) : Int) = ((K.held.length - h2.length : Nat) : Int) by omega]
    refine stp ?_
    refine WPL.nil ?_
    refine WPC.seq ?_
    refine WPC.seqR ?_
    iterate 2 refine stp ?_
    refine WPL.nil ?_
    refine WPC.cond rfl (fun h1 => ?_) (fun h1 => ?_)
    · have hz : K.held.length - h2.length = 0 := by simp at h1; omega
      have ek : kcut d K s.lg = (d, K, 0) := by unfold kcut; show (if K.held.length - sameN s.base K.held (s.es.map RE.pl) 0 = 0 then _ else _) = _; rw [← hfin, if_pos hz]
      rw [ek]
      refine WPC.seqR ?_
      refine stp ?_
      refine WPL.nil ?_
      refine WPC.ret ?_
      refine thenQ_r ?_
      exact endR_r rfl (.tmp rfl .nil) ((Imp.pk (Δ := [Sl.sl true ha ((h2 ++ h3).flatMap encRR), cells true (blk ha) (off ha + ((h2 ++ h3).flatMap encRR).length) sp, cells true b 0 (kprC db jb K ⟨sa, sc, h2 ++ h3, ha, hc⟩), Sl.sl false sa (K.slot.map u8), bytes ((h2 ++ h3).map (·.x.b)), jour jb db K.j, disk db d])).trans ((Imp.bufClose hsbu hsp).trans ((Imp.pk).trans (kpr_close (b := b) (db := db) (jb := jb) (K := K) ⟨sa, sc, h2 ++ h3, ha, hc⟩ ⟨hsl, hheld, hro⟩ (Γ := [jour jb db K.j, disk db d]))))) ⟨rfl, rfl⟩
    · have hz : K.held.length - h2.length ≠ 0 := by simp at h1; omega
      have ek : kcut d K s.lg = ((jcut d K.j ((K.held.length - h2.length : Nat) : Int)).1, ({ K with held := K.held.take h2.length, j := (jcut d K.j ((K.held.length - h2.length : Nat) : Int)).2.1 } : KP), (jcut d K.j ((K.held.length - h2.length : Nat) : Int)).2.2) := by unfold kcut; show (if K.held.length - sameN s.base K.held (s.es.map RE.pl) 0 = 0 then _ else _) = _; rw [← hfin, if_neg hz]; show (_, _, _) = _; rw [show sameN s.lg.base K.held s.lg.es 0 = h2.length from hfin.symm]
      rw [ek]
      refine WPC.skip ?_
      refine thenQ_n ?_
      refine WPC.seqR ?_
      iterate 6 refine stp ?_
      refine L_s (q_sliceHi (j := h2.length) (c := hc) sl_sl_keep_record rfl rfl (by have := hsbu.cap; omega)) rfl ?_
      iterate 2 refine stp ?_
      refine sto ?_
      refine WPL.nil ?_
      refine WPC.seqR ?_
      iterate 5 refine stp ?_
      refine kall rfl (c_JCut (i := ((K.held.length - h2.length : Nat) : Int)) hj hd (by omega) hnx) ?_
      rintro _ _ ⟨rfl, rfl⟩
      refine stp ?_
      refine WPL.nil ?_
      refine WPC.prune [(4, _)] sbb ?_
      refine WPC.ret ?_
      have ish := Imp.bufShrink (sz := 4) (m := h2.length) (n := (h2 ++ h3).length) (c := hc) (a := ha) (xs := h2.flatMap encRR) (ys := h3.flatMap encRR) (Γ := [cells true b 0 (kprC db jb ({ K with held := K.held.take h2.length, j := (jcut d K.j ((K.held.length - h2.length : Nat) : Int)).2.1 } : KP) ⟨sa, sc, h2, ha, hc⟩), Sl.sl false sa (K.slot.map u8), bytes ((h2 ++ h3).map (·.x.b)), jour jb db (jcut d K.j ((K.held.length - h2.length : Nat) : Int)).2.1, disk db (jcut d K.j ((K.held.length - h2.length : Nat) : Int)).1]) (by rw [flat_length encRR_len]) hk
      rw [← List.flatMap_append] at ish
      exact endR_r rfl (.tmp rfl .nil) ((Imp.pk (Δ := [Sl.sl true ha ((h2 ++ h3).flatMap encRR), cells true (blk ha) (off ha + ((h2 ++ h3).flatMap encRR).length) sp, cells true b 0 (kprC db jb ({ K with held := K.held.take h2.length, j := (jcut d K.j ((K.held.length - h2.length : Nat) : Int)).2.1 } : KP) ⟨sa, sc, h2, ha, hc⟩), Sl.sl false sa (K.slot.map u8), bytes ((h2 ++ h3).map (·.x.b)), jour jb db (jcut d K.j ((K.held.length - h2.length : Nat) : Int)).2.1, disk db (jcut d K.j ((K.held.length - h2.length : Nat) : Int)).1])).trans ((Imp.bufClose hsbu hsp).trans (ish.trans ((Imp.pk (Δ := [bytes ((h2 ++ h3).map (·.x.b)), buf 4 ha h2.length hc (h2.flatMap encRR), cells true b 0 (kprC db jb ({ K with held := K.held.take h2.length, j := (jcut d K.j ((K.held.length - h2.length : Nat) : Int)).2.1 } : KP) ⟨sa, sc, h2, ha, hc⟩), Sl.sl false sa (K.slot.map u8), jour jb db (jcut d K.j ((K.held.length - h2.length : Nat) : Int)).2.1, disk db (jcut d K.j ((K.held.length - h2.length : Nat) : Int)).1])).trans ((bytes_sub (ys := h2.map (·.x.b)) (fun y hy => by obtain ⟨r, hr, rfl⟩ := List.mem_map.1 hy; exact List.mem_map.2 ⟨r, List.mem_append_left _ hr, rfl⟩)).trans ((Imp.pk).trans (kpr_close (b := b) (db := db) (jb := jb) (K := ({ K with held := K.held.take h2.length, j := (jcut d K.j ((K.held.length - h2.length : Nat) : Int)).2.1 } : KP)) ⟨sa, sc, h2, ha, hc⟩ ⟨hsl, hh2.symm, fun r hr => hro r (List.mem_append_left _ hr)⟩ (Γ := [jour jb db (jcut d K.j ((K.held.length - h2.length : Nat) : Int)).2.1, disk db (jcut d K.j ((K.held.length - h2.length : Nat) : Int)).1])))))))) ⟨rfl, rfl⟩

end Go.Sl
/- Walks: additions. -/
namespace Go.Sl
open Go Go.RowKit Go.Proofs
set_option linter.unusedSimpArgs false
set_option linter.unusedVariables false
attribute [local irreducible] faB szB ldB zB zL slB mkB arB plB intB cells objc star stars buf slv grp whole Sat WPC WPL WPA WPO WPQ Trip Q1 E1 S1 C1

theorem c_JSync {b db : Nat} {j : JN} {d : DK} (hd : d.ok) (hpl : d.pend.length < 1000000) : Trip Tryd.prog 59 #[.pointer (some ⟨b, 0, none⟩)] [jour b db j, disk db d] fun r Δ => r = .tuple #[] ∧ Δ = [jour b db j, disk db d.sync] := by
  refine jour_open fun L hL => ?_
  obtain ⟨rs, la, lc⟩ := L
  obtain ⟨hheld, hrok⟩ := hL
  dsimp only at hheld hrok
  refine Trip.start 7 [] [(0, .pointer (some ⟨b, 0, none⟩))] Tryd.func59 rfl Tryd.ntmps59 rfl ⟨rfl, trivial⟩ rfl ?_
  refine WPC.region ?_
  iterate 4 refine stp ?_
  refine kall rfl (c_Sync hd hpl) ?_
  rintro _ _ ⟨rfl, rfl⟩
  refine WPL.nil ?_
  exact endR_n rfl .nil ((Imp.pk).trans (jour_close (b := b) (db := db) (j := j) ⟨rs, la, lc⟩ ⟨hheld, hrok⟩ (Γ := [disk db d.sync]))) ⟨rfl, rfl⟩

theorem c_kadd {b db jb N m : Nat} {K : KP} {d : DK} (s : SV) (hok : s.ok) (hsb : s.base < 1152921504606846976) (hr : s.ks.right) (hF : Fit N d K.j m) (hm : m < 600000) (hle : K.held.length ≤ s.es.length) (hes : s.es.length ≤ 1000) : Trip Tryd.prog 32 #[.pointer (some ⟨b, 0, none⟩), .agg (lgV s).toArray] [kpr b db jb K, jour jb db K.j, disk db d, tblA, s.ents, s.dat] fun r Δ => r = .int .i64 (kadd d K s.lg).2.2 ∧ Δ = [kpr b db jb (kadd d K s.lg).2.1, jour jb db (kadd d K s.lg).2.1.j, disk db (kadd d K s.lg).1] := by
  refine kpr_open fun L hL => ?_
  obtain ⟨sa, sc, hs, ha, hc⟩ := L
  obtain ⟨hsl, hheld, hro⟩ := hL
  dsimp only at hsl hheld hro
  have hlen : hs.length = K.held.length := by rw [← hheld, List.length_map]
  have hon := hok.len
  obtain ⟨hds, hdi⟩ := hok.drop (l := hs.length) (by omega)
  have hcap := hok.sk.cap
  have hrr := hr.2.2.2.2
  refine Trip.start 65 [.tmp 4] [(0, .pointer (some ⟨b, 0, none⟩)), (1, .agg (lgV s).toArray)] Tryd.func32 rfl Tryd.ntmps32 rfl ⟨rfl, rfl, trivial⟩ rfl ?_
  refine WPC.seqR ?_
  refine nw fun b1 => ?_
  refine stp ?_
  refine WPL.nil ?_
  refine WPC.seqQ mixed (by kernel_rfl) ?_
  iterate 7 refine stq ?_
  refine WPQ.cons (q_sliceLoC (l := hs.length) sl_sl_api_Entry rfl rfl (by omega) hcap) rfl ?_
  refine stq ?_
  refine WPQ.nil ?_
  refine WPC.imp ((Imp.pk (Δ := [s.ents, cells true b 0 [.pointer (some ⟨db, 0, none⟩), .pointer (some ⟨jb, 0, none⟩), .int .i64 (K.at_ : Int), .int .i64 (K.ring : Int), .slice sa K.slot.length sc, .int .u64 (K.base : Int), .slice ha hs.length hc], Sl.sl false sa (K.slot.map u8), buf 4 ha hs.length hc (hs.flatMap encRR), bytes (hs.map (·.x.b)), cells true b1 0 (lgV s), jour jb db K.j, disk db d, tblA, s.dat])).trans (hdi _)) ?_
  obtain ⟨na, hna⟩ : ∃ na, cut s.a s.c hs.length (hs.length * 3) = na := ⟨_, rfl⟩
  rw [hna] at hds ⊢
  refine WPC.seq ?_
  refine WPC.seqR ?_
  iterate 3 refine stp ?_
  refine WPL.nil ?_
  refine WPC.block ?_
  refine WPC.loopS (fun m_ e Γ => ∃ (i : Nat) (jk : JN) (dk : DK) (hk : List RR) (ha : Option Addr) (hc : Nat), m_ = s.n - hs.length - i ∧ i ≤ s.n - hs.length ∧ hk.length = hs.length + i ∧ Fit N dk jk (m + i) ∧ (∀ r ∈ hk, r.x.b.ok) ∧ kaddL s.base dk ({ K with held := hk.map RR.pl, j := jk } : KP) ((s.es.map RE.pl).drop hk.length) = kaddL s.base d K ((s.es.map RE.pl).drop K.held.length) ∧ e = [(0, .pointer (some ⟨b, 0, none⟩)), (3, .pointer (some ⟨b1, 0, none⟩)), (4, .int .i64 0), (5, .slice na (s.n - hs.length) (s.c - hs.length)), (18, .slice na (s.n - hs.length) (s.c - hs.length)), (19, .int .i64 ((s.n - hs.length : Nat) : Int)), (20, .int .i64 (i : Int))] ∧ Γ = [cells true b 0 [.pointer (some ⟨db, 0, none⟩), .pointer (some ⟨jb, 0, none⟩), .int .i64 (K.at_ : Int), .int .i64 (K.ring : Int), .slice sa K.slot.length sc, .int .u64 (K.base : Int), .slice ha hk.length hc], Sl.sl false sa (K.slot.map u8), buf 4 ha hk.length hc (hk.flatMap encRR), bytes (hk.map (·.x.b)), cells true b1 0 (lgV s), jour jb db jk, disk db dk, tblA, s.ents, s.dat, Sl.sl false na ((s.es.drop hs.length).flatMap encE)]) (s.n - hs.length) ⟨0, K.j, d, hs, ha, hc, rfl, by omega, rfl, hF, hro, by rw [hheld, hlen], rfl, rfl⟩ sbb Imp.pk ?_
  clear hheld
  rintro m_ e Γ ⟨i, jk, dk, hk, ha, hc, rfl, hi, hkl, hFk, hkr, hinv, rfl, rfl⟩
  have hpk := hFk.pend
  refine WPC.seqR ?_
  refine stp ?_
  refine WPL.nil ?_
  refine WPC.seq ?_
  refine WPC.cond rfl (fun h0 => ?_) (fun h0 => ?_)
  · simp only [decide_eq_true_eq, Int.ofNat_lt] at h0
    have hp : Pl na := hds.at (by omega) (by omega)
    obtain ⟨x, hx⟩ : ∃ x, (s.es.drop hs.length)[i]? = some x := ⟨(s.es.drop hs.length)[i]'(by rw [List.length_drop]; omega), by simp⟩
    have hx2 : s.es[hk.length]? = some x := by rw [List.getElem?_drop] at hx; rw [hkl]; exact hx
    have hxm := List.mem_of_getElem? hx2
    have hxo := hok.b x hxm
    obtain ⟨hx3, hx4, hx5⟩ := hrr x.pl (List.mem_map.2 ⟨x, hxm, rfl⟩)
    rw [drop_step (show (s.es.map RE.pl)[hk.length]? = some x.pl by rw [List.getElem?_map, hx2]; rfl)] at hinv
    simp only [kaddL, List.length_map] at hinv
    refine WPC.imp ((Imp.pk (Δ := [s.dat, cells true b 0 [.pointer (some ⟨db, 0, none⟩), .pointer (some ⟨jb, 0, none⟩), .int .i64 (K.at_ : Int), .int .i64 (K.ring : Int), .slice sa K.slot.length sc, .int .u64 (K.base : Int), .slice ha hk.length hc], Sl.sl false sa (K.slot.map u8), buf 4 ha hk.length hc (hk.flatMap encRR), bytes (hk.map (·.x.b)), cells true b1 0 (lgV s), jour jb db jk, disk db dk, tblA, s.ents, Sl.sl false na ((s.es.drop hs.length).flatMap encE)])).trans (bytes_one (List.mem_map.2 ⟨x, hxm, rfl⟩))) ?_
    refine WPC.skip ?_
    refine thenQ_n ?_
    refine WPC.seq ?_
    refine WPC.block ?_
    refine WPC.seqR ?_
    refine L_s (q_idxN (i := i) sl_sl_api_Entry rfl rfl h0 hp) rfl ?_
    refine L_s (q_ldFlat ld_api_Entry rfl mm encE_len hx) rfl ?_
    refine nw fun bx => ?_
    refine sto ?_
    refine WPL.nil ?_
    refine WPC.seqD mixed ?_
    refine atP 0 rfl ?_
    refine atL 1 rfl ?_
    refine atP 2 rfl ?_
    refine atP 3 rfl ?_
    refine atP 4 rfl ?_
    refine atP 5 rfl ?_
    refine atL 6 rfl ?_
    refine atP 7 rfl ?_
    refine atP 8 rfl ?_
    refine atP 9 rfl ?_
    rw [show (s.base : Int) + 1 + (hk.length : Int) = ((s.base + 1 + hk.length : Nat) : Int) by omega]
    refine atL 10 rfl ?_
    refine WPA.takeP 11 rfl (q_build (cs := [_, _, _, _]) pl_keep_record rfl rfl) (by kernel_rfl) (by kernel_rfl) (by kernel_rfl) rfl rfl (.cons (Ent.mem mm) (.cons (Ent.mem mm) (.cons (Ent.mem mm) (.nil _)))) ?_
    refine WPA.putS ?_
    refine WPA.oneE 12 [(10, [_]), (6, [_]), (1, [_])] (by kernel_rfl) rfl rfl (by repeat (first | exact .nil | refine .anc rfl ?_ | refine .keep mm ?_)) (E1.wpo (e_allocL zl_keep_record) rfl ?_)
    rintro _ _ ⟨bR, rfl, rfl⟩
    refine ⟨(.cons (Ent.mem mm) (.cons (Ent.mem mm) (.cons (Ent.mem mm) (.nil _)))), ?_⟩
    refine WPA.putS ?_
    refine WPA.oneE 13 [] (by kernel_rfl) rfl rfl (by repeat (first | exact .nil | refine .anc rfl ?_ | refine .keep mm ?_)) (S1.wpo (s_storeNz sz_keep_record rfl rfl (by simp [Value.oneCell']) rfl uu (by repeat constructor)) rfl ?_)
    refine ⟨(.nil _), ?_⟩
    refine WPA.putN ?_
    refine WPA.done (by kernel_rfl) ?_
    refine WPC.seqD mixed ?_
    refine atP 0 rfl ?_
    refine atP 1 rfl ?_
    refine atP 2 rfl ?_
    refine atP 3 rfl ?_
    refine atL 4 rfl ?_
    refine atL 5 rfl ?_
    refine WPA.oneE 6 [(4, [_])] (by kernel_rfl) rfl rfl (by repeat (first | exact .nil | refine .anc rfl ?_ | refine .keep mm ?_)) (E1.wpo (e_buildSlice (cs := [_, _, _, _]) mk_sl_keep_record (by decide) rfl rfl rfl) rfl ?_)
    rintro _ _ ⟨bE, rfl, rfl⟩
    refine ⟨(.cons (Ent.mem mm) (.nil _)), ?_⟩
    refine WPA.putS ?_
    refine WPA.oneE 7 [] (by kernel_rfl) rfl rfl (by repeat (first | exact .nil | refine .anc rfl ?_ | refine .keep mm ?_)) (E1.wpo (e_append (m := 1) (news := encRR (⟨s.base + 1 + hk.length, x⟩ : RR)) mk_sl_keep_record (by decide) rfl rfl pk1 (Rd.part (i := 0) (b := bE) (o := 0) (vs := encRR (⟨s.base + 1 + hk.length, x⟩ : RR)) mm rfl rfl rfl) (by simp [Value.oneCell']) (by omega) (by omega)) rfl ?_)
    rintro _ _ ⟨a4, c4, rfl, -, rfl⟩
    rw [← flat_snoc]
    refine ⟨(.nil _), ?_⟩
    refine WPA.putS ?_
    refine atP 8 rfl ?_
    refine atP 9 rfl ?_
    refine WPA.oneE 10 [] (by kernel_rfl) rfl rfl (by repeat (first | exact .nil | refine .anc rfl ?_ | refine .keep mm ?_)) (S1.wpo (s_store1k sz_sl_keep_record rfl rfl rfl rfl uu (by repeat constructor)) rfl ?_)
    refine ⟨(.nil _), ?_⟩
    refine WPA.putN ?_
    refine WPA.done (by kernel_rfl) ?_
    refine WPC.seqD mixed ?_
    refine atP 0 rfl ?_
    refine atP 1 rfl ?_
    refine atP 2 rfl ?_
    refine atL 3 rfl ?_
    refine atL 4 rfl ?_
    refine WPA.oneE 5 [(3, [_])] (by kernel_rfl) rfl rfl (by repeat (first | exact .nil | refine .anc rfl ?_ | refine .keep mm ?_)) (C1.call (c_call Tryd.func58 rfl rfl rfl) (c_recB (⟨s.base + 1 + hk.length, x⟩ : RR) ⟨hx3, hx4⟩ hxo (Nat.le_trans hx5 (by omega))) pkk rfl ?_)
    rintro _ _ ⟨a5, c5, rfl, hs5, rfl⟩
    refine ⟨(.cons (Ent.mem mm) (.nil _)), ?_⟩
    refine WPA.putS ?_
    refine WPA.oneE 6 [] (by kernel_rfl) rfl rfl (by repeat (first | exact .nil | refine .anc rfl ?_ | refine .keep mm ?_)) (C1.call (c_call Tryd.func57 rfl rfl rfl) (c_JAppend hFk.jok hFk.ok (by omega) hs5) pkk rfl ?_)
    rintro _ _ ⟨rfl, rfl⟩
    refine ⟨(.nil _), ?_⟩
    refine WPA.putS ?_
    refine atP 7 rfl ?_
    refine WPA.done (by kernel_rfl) ?_
    refine WPC.seqR ?_
    refine WPL.imp ((Imp.pk (Δ := [x.b.at_, bytes (hk.map (·.x.b)), cells true b 0 [.pointer (some ⟨db, 0, none⟩), .pointer (some ⟨jb, 0, none⟩), .int .i64 (K.at_ : Int), .int .i64 (K.ring : Int), .slice sa K.slot.length sc, .int .u64 (K.base : Int), .slice a4 (hk.length + 1) c4], Sl.sl false sa (K.slot.map u8), buf 4 a4 (hk.length + 1) c4 ((hk ++ [(⟨s.base + 1 + hk.length, x⟩ : RR)]).flatMap encRR), cells true b1 0 (lgV s), jour jb db (jappend dk jk (recB (RR.pl (⟨s.base + 1 + hk.length, x⟩ : RR)))).2.1, disk db (jappend dk jk (recB (RR.pl (⟨s.base + 1 + hk.length, x⟩ : RR)))).1, tblA, s.ents, s.dat, Sl.sl false na ((s.es.drop hs.length).flatMap encE)])).trans bytes_snoc) ?_
    rw [show hk.map (·.x.b) ++ [x.b] = (hk ++ [(⟨s.base + 1 + hk.length, x⟩ : RR)]).map (·.x.b) by simp, show hk.length + 1 = (hk ++ [(⟨s.base + 1 + hk.length, x⟩ : RR)]).length by simp]
    have hro2 : ∀ r ∈ (hk ++ [(⟨s.base + 1 + hk.length, x⟩ : RR)]), r.x.b.ok := by intro r hr; rcases List.mem_append.1 hr with hr | hr; exact hkr r hr; rw [List.mem_singleton.1 hr]; exact hxo
    have hmm : hk.map RR.pl ++ [RR.pl (⟨s.base + 1 + hk.length, x⟩ : RR)] = (hk ++ [(⟨s.base + 1 + hk.length, x⟩ : RR)]).map RR.pl := by simp
    change (if (jappend dk jk (recB (RR.pl (⟨s.base + 1 + hk.length, x⟩ : RR)))).2.2 ≠ 0 then ((jappend dk jk (recB (RR.pl (⟨s.base + 1 + hk.length, x⟩ : RR)))).1, ({ K with held := hk.map RR.pl ++ [RR.pl (⟨s.base + 1 + hk.length, x⟩ : RR)], j := (jappend dk jk (recB (RR.pl (⟨s.base + 1 + hk.length, x⟩ : RR)))).2.1 } : KP), (jappend dk jk (recB (RR.pl (⟨s.base + 1 + hk.length, x⟩ : RR)))).2.2) else kaddL s.base (jappend dk jk (recB (RR.pl (⟨s.base + 1 + hk.length, x⟩ : RR)))).1 { K with held := hk.map RR.pl ++ [RR.pl (⟨s.base + 1 + hk.length, x⟩ : RR)], j := (jappend dk jk (recB (RR.pl (⟨s.base + 1 + hk.length, x⟩ : RR)))).2.1 } _) = _ at hinv
    rw [hmm] at hinv
    iterate 2 refine stp ?_
    refine WPL.nil ?_
    refine WPC.prune [(0, _), (3, _), (4, _), (5, _), (7, _), (8, _), (9, _), (18, _), (19, _), (20, _), (21, _), (22, _), (23, _), (24, _), (25, _), (26, _), (27, _), (28, _), (29, _), (30, _), (31, _), (32, _), (33, _), (34, _), (35, _), (36, _), (37, _), (38, _), (39, _), (40, _), (41, _), (42, _), (43, _), (44, _), (45, _), (46, _), (47, _), (48, _), (49, _), (50, _), (51, _), (52, _), (53, _), (54, _)] sbb ?_
    refine WPC.cond rfl (fun h1 => ?_) (fun h1 => ?_)
    · have h1 : (jappend dk jk (recB (RR.pl (⟨s.base + 1 + hk.length, x⟩ : RR)))).2.2 ≠ 0 := by simpa using h1
      rw [if_pos h1] at hinv
      have ek : kadd d K s.lg = ((jappend dk jk (recB (RR.pl (⟨s.base + 1 + hk.length, x⟩ : RR)))).1, ({ K with held := (hk ++ [(⟨s.base + 1 + hk.length, x⟩ : RR)]).map RR.pl, j := (jappend dk jk (recB (RR.pl (⟨s.base + 1 + hk.length, x⟩ : RR)))).2.1 } : KP), (jappend dk jk (recB (RR.pl (⟨s.base + 1 + hk.length, x⟩ : RR)))).2.2) := kadd_err hinv h1
      rw [ek]
      refine WPC.seqR ?_
      iterate 2 refine stp ?_
      refine WPL.nil ?_
      refine WPC.prune [(0, _), (3, _), (4, _), (5, _), (7, _), (8, _), (9, _), (18, _), (19, _), (20, _), (21, _), (22, _), (23, _), (24, _), (25, _), (26, _), (27, _), (28, _), (29, _), (30, _), (31, _), (32, _), (33, _), (34, _), (35, _), (36, _), (37, _), (38, _), (39, _), (40, _), (41, _), (42, _), (43, _), (44, _), (45, _), (46, _), (47, _), (48, _), (49, _), (50, _), (51, _), (52, _), (53, _), (54, _), (55, _)] sbb ?_
      refine WPC.ret ?_
      refine blockQ_r ?_
      refine thenQ_r ?_
      refine thenQ_r ?_
      refine blockQ_r ?_
      refine thenQ_r ?_
      exact endR_r rfl (.tmp rfl .nil) ((Imp.pk).trans (kpr_close (b := b) (db := db) (jb := jb) (K := ({ K with held := (hk ++ [(⟨s.base + 1 + hk.length, x⟩ : RR)]).map RR.pl, j := (jappend dk jk (recB (RR.pl (⟨s.base + 1 + hk.length, x⟩ : RR)))).2.1 } : KP)) ⟨sa, sc, (hk ++ [(⟨s.base + 1 + hk.length, x⟩ : RR)]), a4, c4⟩ ⟨hsl, rfl, hro2⟩ (Γ := [jour jb db (jappend dk jk (recB (RR.pl (⟨s.base + 1 + hk.length, x⟩ : RR)))).2.1, disk db (jappend dk jk (recB (RR.pl (⟨s.base + 1 + hk.length, x⟩ : RR)))).1]))) ⟨rfl, rfl⟩
    · have h1 : (jappend dk jk (recB (RR.pl (⟨s.base + 1 + hk.length, x⟩ : RR)))).2.2 = 0 := by simpa using h1
      rw [if_neg (by rw [h1]; simp)] at hinv
      refine WPC.skip ?_
      refine blockQ_n ?_
      refine thenQ_n ?_
      refine WPC.region ?_
      iterate 2 refine stp ?_
      refine WPL.nil ?_
      refine thenQ_n ?_
      exact ⟨rfl, _, _, _, by omega, ⟨i + 1, (jappend dk jk (recB (RR.pl (⟨s.base + 1 + hk.length, x⟩ : RR)))).2.1, (jappend dk jk (recB (RR.pl (⟨s.base + 1 + hk.length, x⟩ : RR)))).1, (hk ++ [(⟨s.base + 1 + hk.length, x⟩ : RR)]), a4, c4, rfl, by omega, by simp [hkl]; omega, (hFk.append _).mono (by omega), hro2, by rw [List.length_append, List.length_singleton]; exact hinv, rfl, rfl⟩, sbb, Imp.pk⟩
  · simp only [decide_eq_false_iff_not, Int.ofNat_lt] at h0
    rw [List.drop_eq_nil_of_le (by rw [List.length_map]; omega)] at hinv
    simp only [kaddL] at hinv
    refine WPC.exit ?_
    refine thenQ_e ?_
    refine thenQ_e ?_
    refine blockQ_here ?_
    refine thenQ_n ?_
    refine WPC.seq ?_
    refine WPC.seqR ?_
    iterate 3 refine stp ?_
    refine WPL.nil ?_
    refine WPC.cond rfl (fun h2 => ?_) (fun h2 => ?_)
    · have hne : (s.es.map RE.pl).drop K.held.length ≠ [] := by rw [ne_eq, List.drop_eq_nil_iff, List.length_map]; simp at h2; omega
      have ek : kadd d K s.lg = (dk.sync, ({ K with held := hk.map RR.pl, j := jk } : KP), 0) := kadd_sync hinv hne
      rw [ek]
      refine WPC.region ?_
      iterate 4 refine stp ?_
      refine kall rfl (c_JSync hFk.ok (by omega)) ?_
      rintro _ _ ⟨rfl, rfl⟩
      refine WPL.nil ?_
      refine thenQ_n ?_
      refine WPC.seqR ?_
      refine stp ?_
      refine WPL.nil ?_
      refine WPC.ret ?_
      exact endR_r rfl (.tmp rfl .nil) ((Imp.pk).trans (kpr_close (b := b) (db := db) (jb := jb) (K := ({ K with held := hk.map RR.pl, j := jk } : KP)) ⟨sa, sc, hk, ha, hc⟩ ⟨hsl, rfl, hkr⟩ (Γ := [jour jb db jk, disk db dk.sync]))) ⟨rfl, rfl⟩
    · have hne : (s.es.map RE.pl).drop K.held.length = [] := by rw [List.drop_eq_nil_iff, List.length_map]; simp at h2; omega
      have ek : kadd d K s.lg = (dk, ({ K with held := hk.map RR.pl, j := jk } : KP), 0) := kadd_nil hinv hne
      rw [ek]
      refine WPC.skip ?_
      refine thenQ_n ?_
      refine WPC.seqR ?_
      refine stp ?_
      refine WPL.nil ?_
      refine WPC.ret ?_
      exact endR_r rfl (.tmp rfl .nil) ((Imp.pk).trans (kpr_close (b := b) (db := db) (jb := jb) (K := ({ K with held := hk.map RR.pl, j := jk } : KP)) ⟨sa, sc, hk, ha, hc⟩ ⟨hsl, rfl, hkr⟩ (Γ := [jour jb db jk, disk db dk]))) ⟨rfl, rfl⟩

end Go.Sl
