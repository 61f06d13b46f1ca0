/- Walks: crashes. -/
import Derived.Test.YtdbpjcplmfkgaaaDoorJE
namespace Go.Sl
open Go Go.RowKit Go.Proofs
set_option linter.unusedSimpArgs false
set_option linter.unusedVariables false
attribute [local irreducible] faB szB ldB zB zL slB mkB arB plB intB cells objc star stars buf slv grp whole Sat WPC WPL WPA WPO Trip

theorem c_Crash {b c : Nat} {d : DK} {q : Bool} {a : Option Addr} {ps : List Int} (hok : d.ok) (hpl : d.pend.length < 1000000) (hs : Sok 1 a ps.length c (ps.map (.int .i64))) : Trip Tryd.prog 13 #[.pointer (some ⟨b, 0, none⟩), .slice a ps.length c] [disk b d, sl q a (ps.map (.int .i64))] fun r Δ => r = .tuple #[] ∧ Δ = [disk b (d.crash ps), sl q a (ps.map (.int .i64))] := by
  refine disk_open fun L hL => ?_
  obtain ⟨sa, sc, ua, uc, pa, pc⟩ := L
  obtain ⟨hS, hU⟩ := hL
  dsimp only at hS hU
  refine Trip.start 57 [] [(0, .pointer (some ⟨b, 0, none⟩)), (1, .slice a ps.length c)] Tryd.func13 rfl Tryd.ntmps13 rfl ⟨rfl, rfl, trivial⟩ rfl ?_
  refine WPC.seq ?_
  refine WPC.seqR ?_
  refine L_s (q_move rfl) rfl ?_
  first | refine L_s (q_nilP rfl) rfl ?_ | refine L_s (q_nilF rfl) rfl ?_
  first | refine L_s (q_faK fa_disk_Disk_pending rfl) rfl ?_ | refine L_s (q_fa fa_disk_Disk_pending rfl) rfl ?_
  first | refine L_s (q_load1z ld_sl_disk_write rfl (by repeat (first | exact List.Mem.head _ | apply List.Mem.tail)) (by rfl)) rfl ?_ | refine L_s (q_load1 ld_sl_disk_write rfl (by repeat (first | exact List.Mem.head _ | apply List.Mem.tail)) rfl (by rfl)) rfl ?_
  refine WPL.imp (Imp.pick (Δ := [buf 65 pa d.pend.length pc (d.pend.flatMap encW), cells true b 0 (diskC d (⟨sa, sc, ua, uc, pa, pc⟩ : DL)), sl true sa (d.seen.flatMap encS), sl true ua (d.sure.flatMap encS), sl q a (ps.map (.int .i64))]) (by repeat (first | exact Pick.nil | apply Pick.keep (by repeat (first | exact List.Mem.head _ | apply List.Mem.tail)) (by first | exact Pers.cells _ _ _ | exact Pers.slv _ _ _ | exact Pers.bytes _) | apply Pick.cons (by repeat (first | exact Pick1.here | apply Pick1.there))))) ?_
  refine WPL.bufSl fun hP => ?_
  refine L_s (q_len rfl un_sl_disk_write rfl) rfl ?_
  refine L_s (q_move rfl) rfl ?_
  refine WPL.nil ?_
  refine WPC.block ?_
  refine WPC.loopS (fun m e Γ => ∃ (k : Nat) (us : List Sec), m = d.pend.length - k ∧ k ≤ d.pend.length ∧ us.length = d.sure.length ∧ crashL us (d.pend.drop k) (ps.drop k) = crashL d.sure d.pend ps ∧ e = [(0, .pointer (some ⟨b, 0, none⟩)), (1, .slice a ps.length c), (10, .slice pa d.pend.length pc), (11, .int .i64 (d.pend.length : Int)), (12, .int .i64 (k : Int))] ∧ Γ = [cells true b 0 (diskC d (⟨sa, sc, ua, uc, pa, pc⟩ : DL)), sl true sa (d.seen.flatMap encS), sl true ua (us.flatMap encS), sl true pa (d.pend.flatMap encW), sl q a (ps.map (.int .i64))]) (d.pend.length) ⟨0, d.sure, rfl, by omega, rfl, rfl, rfl, rfl⟩ (by repeat (first | exact trivial | refine ⟨rfl, ?_⟩)) (Imp.pick (by repeat (first | exact Pick.nil | apply Pick.keep (by repeat (first | exact List.Mem.head _ | apply List.Mem.tail)) (by first | exact Pers.cells _ _ _ | exact Pers.slv _ _ _) | apply Pick.cons (by repeat (first | exact Pick1.here | apply Pick1.there))))) ?_
  rintro m e Γ ⟨k, us, rfl, hk, hul, hfl, rfl, rfl⟩
  refine WPC.seqR ?_
  refine L_s (q_int rfl rfl rfl) rfl ?_
  refine WPL.nil ?_
  refine WPC.seq ?_
  refine WPC.cond rfl (fun h0 => ?_) (fun h0 => ?_)
  · simp only [decide_eq_true_eq, Int.ofNat_lt] at h0
    have hp : Pl pa := hP.at (by omega) (by omega)
    obtain ⟨w, hw⟩ : ∃ w, d.pend[k]? = some w := ⟨d.pend[k], by simp [h0]⟩
    have hwi : w.1 < d.sure.length := by rw [hok.same]; exact hok.idx w (List.mem_of_getElem? hw)
    have hpu : Pl ua := hU.at (by omega) (by omega)
    obtain ⟨s, hsu⟩ : ∃ s, us[w.1]? = some s := ⟨us[w.1]'(by omega), by simp⟩
    rw [drop_step hw] at hfl
    simp only [crashL, hsu, Option.getD_some, List.tail_drop] at hfl
    have hpv : (pickOf (ps.drop k)) ≤ 64 := pickOf_le _
    refine WPC.skip ?_
    refine thenQ_n ?_
    refine WPC.seq ?_
    refine WPC.block ?_
    refine WPC.seqR ?_
    refine L_s (q_move rfl) rfl ?_
    refine L_s (q_idxN (i := k) sl_sl_disk_write rfl rfl h0 hp) rfl ?_
    refine L_s (q_ldFlat ld_disk_write rfl (by repeat (first | exact List.Mem.head _ | apply List.Mem.tail)) encW_len hw) rfl ?_
    refine WPL.cons rfl (E1.wpo (e_allocL zl_disk_write) rfl ?_)
    rintro _ _ ⟨bw, rfl, rfl⟩
    refine WPL.putS ?_
    refine L_s (q_assign rfl) rfl ?_
    refine WPL.cons rfl (S1.wpo (s_storeAll (us := encW w) sz_disk_write rfl rfl (encW_one _) (encW_len _) rfl (by repeat (first | exact Upd.here | apply Upd.there))) rfl ?_)
    refine WPL.putN ?_
    refine WPL.nil ?_
    refine WPC.seqR ?_
    refine L_s (q_assign rfl) rfl ?_
    refine WPL.nil ?_
    refine WPC.seq ?_
    refine WPC.seqR ?_
    refine L_s (q_move rfl) rfl ?_
    refine L_s (q_move rfl) rfl ?_
    refine L_s (q_len rfl un_sl_int rfl) rfl ?_
    refine L_s (q_int rfl rfl rfl) rfl ?_
    refine WPL.nil ?_
    refine WPC.midS (fun e Γ => e = [(0, .pointer (some ⟨b, 0, none⟩)), (1, .slice a ps.length c), (5, .pointer (some ⟨bw, 0, none⟩)), (6, .int .i64 ((pickOf (ps.drop k)) : Int)), (10, .slice pa d.pend.length pc), (11, .int .i64 (d.pend.length : Int)), (12, .int .i64 (k : Int))] ∧ Γ = cells true bw 0 (encW w) :: [cells true b 0 (diskC d (⟨sa, sc, ua, uc, pa, pc⟩ : DL)), sl true sa (d.seen.flatMap encS), sl true ua (us.flatMap encS), sl true pa (d.pend.flatMap encW), sl q a (ps.map (.int .i64))]) ?_ ?_
    · refine WPC.cond rfl (fun h1 => ?_) (fun h1 => ?_)
      · simp only [decide_eq_true_eq, Int.ofNat_lt] at h1
        have hpa : Pl a := hs.at (by omega) (by omega)
        obtain ⟨pv, hpx⟩ : ∃ pv, ps[k]? = some pv := ⟨ps[k], by simp [h1]⟩
        have hpe : ((pickOf (ps.drop k)) : Int) = max 0 (min pv 64) := by rw [drop_step hpx]; simp only [pickOf]; omega
        refine WPC.region ?_
        refine L_s (q_move rfl) rfl ?_
        refine L_s (q_move rfl) rfl ?_
        refine L_s (q_idxN (i := k) sl_sl_int rfl rfl h1 hpa) rfl ?_
        refine L_s (q_ldMap ld_int rfl (by repeat (first | exact List.Mem.head _ | apply List.Mem.tail)) hpx) rfl ?_
        refine L_s (q_min2 rfl rfl) rfl ?_
        refine L_s (q_max2 rfl rfl) rfl ?_
        rw [← hpe]
        refine L_s (q_assign rfl) rfl ?_
        refine WPL.nil ?_
        refine thenQ_n ?_
        exact ⟨rfl, _, _, ⟨rfl, rfl⟩, (by repeat (first | exact trivial | refine ⟨rfl, ?_⟩)), Imp.pick (by repeat (first | exact Pick.nil | apply Pick.keep (by repeat (first | exact List.Mem.head _ | apply List.Mem.tail)) (by first | exact Pers.cells _ _ _ | exact Pers.slv _ _ _) | apply Pick.cons (by repeat (first | exact Pick1.here | apply Pick1.there))))⟩
      · simp only [decide_eq_false_iff_not, Int.ofNat_lt] at h1
        have hpe : (pickOf (ps.drop k)) = 0 := by rw [List.drop_eq_nil_of_le (by omega)]; rfl
        rw [hpe]
        refine WPC.skip ?_
        refine thenQ_n ?_
        exact ⟨rfl, _, _, ⟨rfl, rfl⟩, (by repeat (first | exact trivial | refine ⟨rfl, ?_⟩)), Imp.pick (by repeat (first | exact Pick.nil | apply Pick.keep (by repeat (first | exact List.Mem.head _ | apply List.Mem.tail)) (by first | exact Pers.cells _ _ _ | exact Pers.slv _ _ _) | apply Pick.cons (by repeat (first | exact Pick1.here | apply Pick1.there))))⟩
    · rintro e Γ ⟨rfl, rfl⟩
      refine WPC.draw mixed ?_
      refine WPA.takeP 0 rfl (q_move rfl) (by kernel_rfl) (by kernel_rfl) (by kernel_rfl) rfl rfl (.nil _) ?_
      refine WPA.putS ?_
      first | refine WPA.takeP 1 rfl (q_nilP rfl) (by kernel_rfl) (by kernel_rfl) (by kernel_rfl) rfl rfl (.nil _) ?_ | refine WPA.takeP 1 rfl (q_nilF rfl) (by kernel_rfl) (by kernel_rfl) (by kernel_rfl) rfl rfl (.nil _) ?_
      refine WPA.putS ?_
      first | refine WPA.takeP 2 rfl (q_faK fa_disk_Disk_sure rfl) (by kernel_rfl) (by kernel_rfl) (by kernel_rfl) rfl rfl (.nil _) ?_ | refine WPA.takeP 2 rfl (q_fa fa_disk_Disk_sure rfl) (by kernel_rfl) (by kernel_rfl) (by kernel_rfl) rfl rfl (.nil _) ?_
      refine WPA.putS ?_
      first | refine WPA.takeL 3 rfl (Ent.mem (by repeat (first | exact List.Mem.head _ | apply List.Mem.tail))) (q_load1z ld_sl_disk_sector rfl (.head _) (by rfl)) (by kernel_rfl) (by kernel_rfl) (by kernel_rfl) rfl rfl (.nil _) ?_ | refine WPA.takeL 3 rfl (Ent.mem (by repeat (first | exact List.Mem.head _ | apply List.Mem.tail))) (q_load1 ld_sl_disk_sector rfl (.head _) rfl (by rfl)) (by kernel_rfl) (by kernel_rfl) (by kernel_rfl) rfl rfl (.nil _) ?_
      refine WPA.putS ?_
      first | refine WPA.takeP 4 rfl (q_faK fa_disk_write_i rfl) (by kernel_rfl) (by kernel_rfl) (by kernel_rfl) rfl rfl (.cons (Ent.mem (by repeat (first | exact List.Mem.head _ | apply List.Mem.tail))) (.nil _)) ?_ | refine WPA.takeP 4 rfl (q_fa fa_disk_write_i rfl) (by kernel_rfl) (by kernel_rfl) (by kernel_rfl) rfl rfl (.cons (Ent.mem (by repeat (first | exact List.Mem.head _ | apply List.Mem.tail))) (.nil _)) ?_
      refine WPA.putS ?_
      first | refine WPA.takeL 5 rfl (Ent.mem (by repeat (first | exact List.Mem.head _ | apply List.Mem.tail))) (q_load1z ld_int rfl (.head _) (by rfl)) (by kernel_rfl) (by kernel_rfl) (by kernel_rfl) rfl rfl (.cons (Ent.mem (by repeat (first | exact List.Mem.head _ | apply List.Mem.tail))) (.nil _)) ?_ | refine WPA.takeL 5 rfl (Ent.mem (by repeat (first | exact List.Mem.head _ | apply List.Mem.tail))) (q_load1 ld_int rfl (.head _) rfl (by rfl)) (by kernel_rfl) (by kernel_rfl) (by kernel_rfl) rfl rfl (.cons (Ent.mem (by repeat (first | exact List.Mem.head _ | apply List.Mem.tail))) (.nil _)) ?_
      refine WPA.putS ?_
      refine WPA.takeP 6 rfl (q_idxN (i := w.1) sl_sl_disk_sector rfl rfl (show w.1 < d.sure.length from hwi) hpu) (by kernel_rfl) (by kernel_rfl) (by kernel_rfl) rfl rfl (.cons (Ent.mem (by repeat (first | exact List.Mem.head _ | apply List.Mem.tail))) (.cons (Ent.mem (by repeat (first | exact List.Mem.head _ | apply List.Mem.tail))) (.nil _))) ?_
      refine WPA.putS ?_
      refine WPA.takeP 7 rfl (q_sliceAll ar_disk_sector rfl) (by kernel_rfl) (by kernel_rfl) (by kernel_rfl) rfl rfl (.cons (Ent.mem (by repeat (first | exact List.Mem.head _ | apply List.Mem.tail))) (.cons (Ent.mem (by repeat (first | exact List.Mem.head _ | apply List.Mem.tail))) (.nil _))) ?_
      refine WPA.putS ?_
      first | refine WPA.takeP 8 rfl (q_faK fa_disk_write_b rfl) (by kernel_rfl) (by kernel_rfl) (by kernel_rfl) rfl rfl (.cons (Ent.mem (by repeat (first | exact List.Mem.head _ | apply List.Mem.tail))) (.cons (Ent.mem (by repeat (first | exact List.Mem.head _ | apply List.Mem.tail))) (.nil _))) ?_ | refine WPA.takeP 8 rfl (q_fa fa_disk_write_b rfl) (by kernel_rfl) (by kernel_rfl) (by kernel_rfl) rfl rfl (.cons (Ent.mem (by repeat (first | exact List.Mem.head _ | apply List.Mem.tail))) (.cons (Ent.mem (by repeat (first | exact List.Mem.head _ | apply List.Mem.tail))) (.nil _))) ?_
      refine WPA.putS ?_
      refine WPA.takeP 9 rfl (q_move rfl) (by kernel_rfl) (by kernel_rfl) (by kernel_rfl) rfl rfl (.cons (Ent.mem (by repeat (first | exact List.Mem.head _ | apply List.Mem.tail))) (.cons (Ent.mem (by repeat (first | exact List.Mem.head _ | apply List.Mem.tail))) (.nil _))) ?_
      refine WPA.putS ?_
      refine WPA.takeP 10 rfl (q_sliceAHi (j := (pickOf (ps.drop k))) ar_disk_sector rfl rfl hpv) (by kernel_rfl) (by kernel_rfl) (by kernel_rfl) rfl rfl (.cons (Ent.mem (by repeat (first | exact List.Mem.head _ | apply List.Mem.tail))) (.cons (Ent.mem (by repeat (first | exact List.Mem.head _ | apply List.Mem.tail))) (.nil _))) ?_
      refine WPA.putS ?_
      refine WPA.imp ((Imp.pick (Δ := [sl true ua (us.flatMap encS), cells true bw 0 (encW w), cells true b 0 (diskC d (⟨sa, sc, ua, uc, pa, pc⟩ : DL)), sl true sa (d.seen.flatMap encS), sl true pa (d.pend.flatMap encW), sl q a (ps.map (.int .i64))]) (by repeat (first | exact Pick.nil | apply Pick.keep (by repeat (first | exact List.Mem.head _ | apply List.Mem.tail)) (by first | exact Pers.cells _ _ _ | exact Pers.slv _ _ _ | exact Pers.bytes _) | apply Pick.cons (by repeat (first | exact Pick1.here | apply Pick1.there))))).trans (flat_focus (i := w.1) encS_len hsu)) ?_
      refine WPA.oneE 11 [] (by kernel_rfl) rfl rfl (by repeat (first | exact .nil | refine .anc rfl ?_ | refine .keep (by repeat (first | exact List.Mem.head _ | apply List.Mem.tail)) ?_)) (E1.wpo (e_copyRd (b := blk ua) (o := off ua + w.1 * 64) (i := 0) (m := (pickOf (ps.drop k))) (vs := encS s) (news := (encS w.2).take (pickOf (ps.drop k))) sl_sl_uint8 rfl rfl (Rd.part (i := 1) (b := bw) (o := 0) (vs := encW w) (by repeat (first | exact List.Mem.head _ | apply List.Mem.tail)) rfl (by rw [List.length_take, encS_len]; omega) (take_part w (pickOf (ps.drop k)))) hpv (take_one _ _ (encS_one _)) (by rw [encS_len]; omega) (by repeat (first | exact Upd.here | apply Upd.there))) rfl ?_)
      rintro _ _ ⟨rfl, rfl⟩
      rw [Nat.mul_one, Nat.zero_add, List.take_zero, List.nil_append, torn_enc]
      refine ⟨(.nil _), ?_⟩
      refine WPA.putS ?_
      refine WPA.done (by kernel_rfl) ?_
      refine blockQ_n ?_
      refine thenQ_n ?_
      refine WPC.region ?_
      refine WPL.imp ((Imp.pick (Δ := [cells true (blk ua) (off ua + w.1 * 64) (encS (torn (pickOf (ps.drop k)) w.2 s)), flatBut true (blk ua) (off ua) w.1 64 us encS, cells true b 0 (diskC d (⟨sa, sc, ua, uc, pa, pc⟩ : DL)), sl true sa (d.seen.flatMap encS), sl true pa (d.pend.flatMap encW), sl q a (ps.map (.int .i64))]) (by repeat (first | exact Pick.nil | apply Pick.keep (by repeat (first | exact List.Mem.head _ | apply List.Mem.tail)) (by first | exact Pers.cells _ _ _ | exact Pers.slv _ _ _ | exact Pers.bytes _) | apply Pick.cons (by repeat (first | exact Pick1.here | apply Pick1.there))))).trans (flat_put (i := w.1) (xs := us) (y := torn (pickOf (ps.drop k)) w.2 s) encS_len (by omega))) ?_
      first | refine L_s (q_inc rfl rfl (by omega)) rfl ?_ | refine L_s (q_addI rfl rfl (by omega)) rfl ?_ | refine L_s (q_int rfl rfl rfl) rfl ?_
      refine L_s (q_move rfl) rfl ?_
      refine WPL.nil ?_
      refine thenQ_n ?_
      exact ⟨rfl, _, _, _, by omega, ⟨k + 1, us.set w.1 (torn (pickOf (ps.drop k)) w.2 s), rfl, by omega, by rw [List.length_set]; exact hul, hfl, rfl, rfl⟩, (by repeat (first | exact trivial | refine ⟨rfl, ?_⟩)), Imp.pick (by repeat (first | exact Pick.nil | apply Pick.keep (by repeat (first | exact List.Mem.head _ | apply List.Mem.tail)) (by first | exact Pers.cells _ _ _ | exact Pers.slv _ _ _) | apply Pick.cons (by repeat (first | exact Pick1.here | apply Pick1.there))))⟩
  · simp only [decide_eq_false_iff_not, Int.ofNat_lt] at h0
    rw [List.drop_eq_nil_of_le (by omega)] at hfl
    have hfl2 : us = crashL d.sure d.pend ps := hfl
    refine WPC.exit ?_
    refine thenQ_e ?_
    refine thenQ_e ?_
    refine blockQ_here ?_
    refine thenQ_n ?_
    refine WPC.seqR ?_
    refine L_s (q_move rfl) rfl ?_
    refine L_s (q_move rfl) rfl ?_
    refine L_s (q_move rfl) rfl ?_
    first | refine L_s (q_nilP rfl) rfl ?_ | refine L_s (q_nilF rfl) rfl ?_
    first | refine L_s (q_faK fa_disk_Disk_pending rfl) rfl ?_ | refine L_s (q_fa fa_disk_Disk_pending rfl) rfl ?_
    refine WPL.cons rfl (S1.wpo (s_store1k sz_sl_disk_write rfl rfl rfl rfl (by repeat (first | exact Upd.here | apply Upd.there)) (by repeat constructor)) rfl ?_)
    refine WPL.putN ?_
    first | refine L_s (q_nilP rfl) rfl ?_ | refine L_s (q_nilF rfl) rfl ?_
    first | refine L_s (q_faK fa_disk_Disk_fuse rfl) rfl ?_ | refine L_s (q_fa fa_disk_Disk_fuse rfl) rfl ?_
    refine WPL.cons rfl (S1.wpo (s_store1k sz_int rfl rfl rfl rfl (by repeat (first | exact Upd.here | apply Upd.there)) (by repeat constructor)) rfl ?_)
    refine WPL.putN ?_
    first | refine L_s (q_nilP rfl) rfl ?_ | refine L_s (q_nilF rfl) rfl ?_
    first | refine L_s (q_faK fa_disk_Disk_down rfl) rfl ?_ | refine L_s (q_fa fa_disk_Disk_down rfl) rfl ?_
    refine WPL.cons rfl (S1.wpo (s_store1k sz_bool rfl rfl rfl rfl (by repeat (first | exact Upd.here | apply Upd.there)) (by repeat constructor)) rfl ?_)
    refine WPL.putN ?_
    refine WPL.nil ?_
    refine WPC.region ?_
    refine L_s (q_move rfl) rfl ?_
    refine L_s (q_move rfl) rfl ?_
    first | refine L_s (q_nilP rfl) rfl ?_ | refine L_s (q_nilF rfl) rfl ?_
    first | refine L_s (q_faK fa_disk_Disk_sure rfl) rfl ?_ | refine L_s (q_fa fa_disk_Disk_sure rfl) rfl ?_
    first | refine L_s (q_load1z ld_sl_disk_sector rfl (by repeat (first | exact List.Mem.head _ | apply List.Mem.tail)) (by rfl)) rfl ?_ | refine L_s (q_load1 ld_sl_disk_sector rfl (by repeat (first | exact List.Mem.head _ | apply List.Mem.tail)) rfl (by rfl)) rfl ?_
    refine WPL.cons rfl (C1.call (c_call Tryd.func38 rfl rfl rfl) (c_CloneS (p := true) (xs := us) (n := d.sure.length) (c := uc) ⟨by rw [flat_length encS_len, hul], hU.cap, by rcases hU.pl with h | h; (left; exact List.eq_nil_of_length_eq_zero (by rw [flat_length encS_len, hul, ← flat_length encS_len, h]; rfl)); exact .inr h⟩ (by rw [hok.same]; exact hok.n)) (by repeat (first | exact Pick.nil | apply Pick.keep (by repeat (first | exact List.Mem.head _ | apply List.Mem.tail)) (by first | exact Pers.cells _ _ _ | exact Pers.slv _ _ _) | apply Pick.cons (by repeat (first | exact Pick1.here | apply Pick1.there)))) rfl ?_)
    rintro _ _ ⟨a', c', rfl, rfl⟩
    refine WPL.bufSl fun hs' => ?_
    refine WPL.putS ?_
    first | refine L_s (q_nilP rfl) rfl ?_ | refine L_s (q_nilF rfl) rfl ?_
    first | refine L_s (q_faK fa_disk_Disk_seen rfl) rfl ?_ | refine L_s (q_fa fa_disk_Disk_seen rfl) rfl ?_
    refine WPL.cons rfl (S1.wpo (s_store1z sz_sl_disk_sector rfl rfl rfl rfl (by repeat (first | exact Upd.here | apply Upd.there)) (by repeat constructor)) rfl ?_)
    refine WPL.putN ?_
    refine WPL.nil ?_
    have hU2 : Sok 64 ua us.length uc (us.flatMap encS) := ⟨flat_length encS_len _, by rw [hul]; exact hU.cap, by rcases hU.pl with h | h; (left; exact List.eq_nil_of_length_eq_zero (by rw [flat_length encS_len, hul, ← flat_length encS_len, h]; rfl)); exact .inr h⟩
    have hc := disk_close (b := b) (d := ⟨us, us, [], -1, false⟩) ⟨a', c', ua, uc, none, 0⟩ ⟨by rw [← hul] at hs'; exact hs', hU2⟩ (Γ := [sl q a (ps.map (.int .i64))])
    simp only [diskC, hul] at hc
    unfold DK.crash
    rw [← hfl2]
    exact endR_n rfl .nil (Imp.bufNil.trans ((Imp.pick (by repeat (first | exact Pick.nil | apply Pick.keep (by repeat (first | exact List.Mem.head _ | apply List.Mem.tail)) (by first | exact Pers.cells _ _ _ | exact Pers.slv _ _ _ | exact Pers.bytes _) | apply Pick.cons (by repeat (first | exact Pick1.here | apply Pick1.there))))).trans hc)) ⟨rfl, rfl⟩

end Go.Sl
