/- Walks: writing, reading, syncing. -/
import Derived.Test.YtdbpjcplmfkgaaaDoorJD
namespace Go.Sl
open Go Go.RowKit Go.Proofs
set_option linter.unusedSimpArgs false
set_option linter.unusedVariables false
attribute [local irreducible] faB szB ldB zB zL slB mkB arB plB intB cells objc star stars buf slv grp whole Sat WPC WPL WPA WPO Trip

theorem c_Write {b c : Nat} {d : DK} {a : Option Addr} {i : Int} {xs : List By} (hok : d.ok) (hpl : d.pend.length < 1000000) (hs : Sok 1 a xs.length c (xs.map u8)) : Trip Tryd.prog 36 #[.pointer (some ⟨b, 0, none⟩), .int .i64 i, .slice a xs.length c] [disk b d, sl false a (xs.map u8)] fun r Δ => r = .int .i64 (d.write i xs).2 ∧ Δ = [disk b (d.write i xs).1] := by
  refine disk_open fun L hL => ?_
  obtain ⟨sa, sc, ua, uc, pa, pc⟩ := L
  obtain ⟨hS, hU⟩ := hL
  dsimp only at hS hU
  refine Trip.start 45 [.tmp 6] [(0, .pointer (some ⟨b, 0, none⟩)), (1, .int .i64 i), (2, .slice a xs.length c)] Tryd.func36 rfl Tryd.ntmps36 rfl ⟨rfl, rfl, rfl, trivial⟩ rfl ?_
  refine WPC.seqR ?_
  refine L_s (q_assign rfl) rfl ?_
  refine WPL.nil ?_
  refine WPC.seq ?_
  refine WPC.block ?_
  refine WPC.seqR ?_
  refine L_s (q_move rfl) rfl ?_
  refine L_s (q_move rfl) rfl ?_
  refine WPL.cons rfl (C1.call (c_call Tryd.func62 rfl rfl rfl) (c_has_ (L := (⟨sa, sc, ua, uc, pa, pc⟩ : DL)) i) (by repeat (first | exact Pick.nil | apply Pick.keep (by repeat (first | exact List.Mem.head _ | apply List.Mem.tail)) (by first | exact Pers.cells _ _ _ | exact Pers.slv _ _ _) | apply Pick.cons (by repeat (first | exact Pick1.here | apply Pick1.there)))) rfl ?_)
  rintro _ _ ⟨rfl, rfl⟩
  refine WPL.putS ?_
  refine L_s (q_not rfl) rfl ?_
  refine L_s (q_assign rfl) rfl ?_
  refine WPL.nil ?_
  refine WPC.cond rfl (fun h0 => ?_) (fun h0 => ?_)
  · have ew : d.write i xs = (d, 40) := by unfold DK.write; rw [if_pos (by simp at h0; omega)]
    rw [ew]
    refine WPC.seqR ?_
    refine L_s (q_assign rfl) rfl ?_
    refine WPL.nil ?_
    refine WPC.ret ?_
    refine blockQ_r ?_
    refine thenQ_r ?_
    exact endR_r rfl (.tmp rfl .nil) ((Imp.pick (by repeat (first | exact Pick.nil | apply Pick.keep (by repeat (first | exact List.Mem.head _ | apply List.Mem.tail)) (by first | exact Pers.cells _ _ _ | exact Pers.slv _ _ _ | exact Pers.bytes _) | apply Pick.cons (by repeat (first | exact Pick1.here | apply Pick1.there))))).trans (disk_close (b := b) (d := d) (⟨sa, sc, ua, uc, pa, pc⟩ : DL) ⟨hS, hU⟩ (Γ := []))) ⟨rfl, rfl⟩
  · have hin : 0 ≤ i ∧ i < (d.seen.length : Int) := by simpa using h0
    obtain ⟨k, rfl⟩ : ∃ k : Nat, i = (k : Int) := ⟨i.toNat, by omega⟩
    have hk : k < d.seen.length := by omega
    refine WPC.seqR ?_
    refine L_s (q_move rfl) rfl ?_
    refine L_s (q_len rfl un_sl_uint8 rfl) rfl ?_
    refine L_s (q_int rfl rfl rfl) rfl ?_
    refine L_s (q_assign rfl) rfl ?_
    refine WPL.nil ?_
    refine WPC.cond rfl (fun h1 => ?_) (fun h1 => ?_)
    · have ew : d.write k xs = (d, 2) := by unfold DK.write; rw [if_neg (by omega), if_pos (by simp at h1; omega)]
      rw [ew]
      refine WPC.seqR ?_
      refine L_s (q_assign rfl) rfl ?_
      refine WPL.nil ?_
      refine WPC.ret ?_
      refine blockQ_r ?_
      refine thenQ_r ?_
      exact endR_r rfl (.tmp rfl .nil) ((Imp.pick (by repeat (first | exact Pick.nil | apply Pick.keep (by repeat (first | exact List.Mem.head _ | apply List.Mem.tail)) (by first | exact Pers.cells _ _ _ | exact Pers.slv _ _ _ | exact Pers.bytes _) | apply Pick.cons (by repeat (first | exact Pick1.here | apply Pick1.there))))).trans (disk_close (b := b) (d := d) (⟨sa, sc, ua, uc, pa, pc⟩ : DL) ⟨hS, hU⟩ (Γ := []))) ⟨rfl, rfl⟩
    · have hx64 : xs.length ≤ 64 := by simp at h1; omega
      refine WPC.seqR ?_
      refine L_s (q_move rfl) rfl ?_
      refine WPL.cons rfl (C1.call (c_call Tryd.func56 rfl rfl rfl) (c_done (L := (⟨sa, sc, ua, uc, pa, pc⟩ : DL)) hok.fr) (by repeat (first | exact Pick.nil | apply Pick.keep (by repeat (first | exact List.Mem.head _ | apply List.Mem.tail)) (by first | exact Pers.cells _ _ _ | exact Pers.slv _ _ _) | apply Pick.cons (by repeat (first | exact Pick1.here | apply Pick1.there)))) rfl ?_)
      rintro _ _ ⟨rfl, rfl⟩
      refine WPL.putS ?_
      refine L_s (q_not rfl) rfl ?_
      refine L_s (q_assign rfl) rfl ?_
      refine WPL.nil ?_
      refine WPC.cond rfl (fun h2 => ?_) (fun h2 => ?_)
      · have ew : d.write k xs = (d.done, 43) := by unfold DK.write; rw [if_neg (by omega), if_neg (by omega), if_pos (by simpa using h2)]
        rw [ew]
        refine WPC.seqR ?_
        refine L_s (q_assign rfl) rfl ?_
        refine WPL.nil ?_
        refine WPC.ret ?_
        refine blockQ_r ?_
        refine thenQ_r ?_
        exact endR_r rfl (.tmp rfl .nil) ((Imp.pick (by repeat (first | exact Pick.nil | apply Pick.keep (by repeat (first | exact List.Mem.head _ | apply List.Mem.tail)) (by first | exact Pers.cells _ _ _ | exact Pers.slv _ _ _ | exact Pers.bytes _) | apply Pick.cons (by repeat (first | exact Pick1.here | apply Pick1.there))))).trans (disk_close (b := b) (d := d.done) (⟨sa, sc, ua, uc, pa, pc⟩ : DL) ⟨hS, hU⟩ (Γ := []))) ⟨rfl, rfl⟩
      · have ew : d.write k xs = ((d.done.put k (pad xs)), 0) := by unfold DK.write; rw [if_neg (by omega), if_neg (by omega), if_neg (by simpa using h2), Int.toNat_natCast]
        rw [ew]
        refine WPC.skip ?_
        refine blockQ_n ?_
        refine thenQ_n ?_
        refine WPC.seqR ?_
        refine L_s (q_move rfl) rfl ?_
        refine L_s (show Q1 _ _ _ _ (.agg (encW (k, Sec.zero)).toArray) from q_build (cs := encW (k, Sec.zero)) pl_disk_write rfl rfl) rfl ?_
        refine WPL.cons rfl (E1.wpo (e_allocL zl_disk_write) rfl ?_)
        rintro _ _ ⟨bw, rfl, rfl⟩
        refine WPL.putS ?_
        refine WPL.cons rfl (S1.wpo (s_storeAll (us := encW (k, Sec.zero)) sz_disk_write rfl rfl (encW_one _) (encW_len _) rfl (by repeat (first | exact Upd.here | apply Upd.there))) rfl ?_)
        refine WPL.putN ?_
        refine WPL.nil ?_
        refine WPC.seqR ?_
        first | refine L_s (q_faK fa_disk_write_b rfl) rfl ?_ | refine L_s (q_fa fa_disk_write_b rfl) rfl ?_
        refine L_s (q_sliceAll ar_disk_sector rfl) rfl ?_
        refine L_s (q_move rfl) rfl ?_
        refine WPL.cons rfl (E1.wpo (e_copyRd (b := bw) (o := 0) (i := 1) (vs := encW (k, Sec.zero)) (news := xs.map u8) sl_sl_uint8 rfl rfl (Rd.mem (p := false) hs (hs.none0 (by omega)) (by repeat (first | exact List.Mem.head _ | apply List.Mem.tail))) (by omega) (u8_one _) (by rw [encW_len]; omega) (by repeat (first | exact Upd.here | apply Upd.there))) rfl ?_)
        rintro _ _ ⟨rfl, rfl⟩
        rw [Nat.mul_one, pad_copy k xs hx64]
        refine WPL.putS ?_
        refine WPL.nil ?_
        refine WPC.seqD mixed ?_
        refine WPA.takeP 0 rfl (q_move rfl) (by kernel_rfl) (by kernel_rfl) (by kernel_rfl) rfl rfl (.nil _) ?_
        refine WPA.putS ?_
        first | refine WPA.takeP 1 rfl (q_nilP rfl) (by kernel_rfl) (by kernel_rfl) (by kernel_rfl) rfl rfl (.nil _) ?_ | refine WPA.takeP 1 rfl (q_nilF rfl) (by kernel_rfl) (by kernel_rfl) (by kernel_rfl) rfl rfl (.nil _) ?_
        refine WPA.putS ?_
        first | refine WPA.takeP 2 rfl (q_faK fa_disk_Disk_seen rfl) (by kernel_rfl) (by kernel_rfl) (by kernel_rfl) rfl rfl (.nil _) ?_ | refine WPA.takeP 2 rfl (q_fa fa_disk_Disk_seen rfl) (by kernel_rfl) (by kernel_rfl) (by kernel_rfl) rfl rfl (.nil _) ?_
        refine WPA.putS ?_
        have hp : Pl sa := hS.at (by omega) (by omega)
        first | refine WPA.takeL 3 rfl (Ent.mem (by repeat (first | exact List.Mem.head _ | apply List.Mem.tail))) (q_load1z ld_sl_disk_sector rfl (.head _) (by rfl)) (by kernel_rfl) (by kernel_rfl) (by kernel_rfl) rfl rfl (.nil _) ?_ | refine WPA.takeL 3 rfl (Ent.mem (by repeat (first | exact List.Mem.head _ | apply List.Mem.tail))) (q_load1 ld_sl_disk_sector rfl (.head _) rfl (by rfl)) (by kernel_rfl) (by kernel_rfl) (by kernel_rfl) rfl rfl (.nil _) ?_
        refine WPA.putS ?_
        refine WPA.takeP 4 rfl (q_move rfl) (by kernel_rfl) (by kernel_rfl) (by kernel_rfl) rfl rfl (.cons (Ent.mem (by repeat (first | exact List.Mem.head _ | apply List.Mem.tail))) (.nil _)) ?_
        refine WPA.putS ?_
        first | refine WPA.takeP 5 rfl (q_faK fa_disk_write_b rfl) (by kernel_rfl) (by kernel_rfl) (by kernel_rfl) rfl rfl (.cons (Ent.mem (by repeat (first | exact List.Mem.head _ | apply List.Mem.tail))) (.nil _)) ?_ | refine WPA.takeP 5 rfl (q_fa fa_disk_write_b rfl) (by kernel_rfl) (by kernel_rfl) (by kernel_rfl) rfl rfl (.cons (Ent.mem (by repeat (first | exact List.Mem.head _ | apply List.Mem.tail))) (.nil _)) ?_
        refine WPA.putS ?_
        refine WPA.takeL 6 rfl (Ent.mem (by repeat (first | exact List.Mem.head _ | apply List.Mem.tail))) (q_loadN (b := bw) (o := 0) (i := 1) (us := encS (pad xs)) ld_disk_sector rfl (.head _) rfl (encS_len _) (drop_encW k (pad xs))) (by kernel_rfl) (by kernel_rfl) (by kernel_rfl) rfl rfl (.cons (Ent.mem (by repeat (first | exact List.Mem.head _ | apply List.Mem.tail))) (.nil _)) ?_
        refine WPA.putS ?_
        refine WPA.takeP 7 rfl (q_idxN (i := k) sl_sl_disk_sector rfl rfl hk hp) (by kernel_rfl) (by kernel_rfl) (by kernel_rfl) rfl rfl (.cons (Ent.mem (by repeat (first | exact List.Mem.head _ | apply List.Mem.tail))) (.cons (Ent.mem (by repeat (first | exact List.Mem.head _ | apply List.Mem.tail))) (.nil _))) ?_
        refine WPA.putS ?_
        refine WPA.oneE 8 [] (by kernel_rfl) rfl rfl (by repeat (first | exact .nil | refine .anc rfl ?_ | refine .keep (by repeat (first | exact List.Mem.head _ | apply List.Mem.tail)) ?_)) (S1.wpo (s_storeFlat (xs := d.seen) (enc := encS) (e := pad xs) sz_disk_sector rfl rfl (encS_one _) encS_len hk (by repeat (first | exact Upd.here | apply Upd.there))) rfl ?_)
        refine ⟨(.nil _), ?_⟩
        refine WPA.putN ?_
        refine WPA.done (by kernel_rfl) ?_
        refine WPC.seqD mixed ?_
        refine WPA.takeP 0 rfl (q_move rfl) (by kernel_rfl) (by kernel_rfl) (by kernel_rfl) rfl rfl (.nil _) ?_
        refine WPA.putS ?_
        refine WPA.takeP 1 rfl (q_move rfl) (by kernel_rfl) (by kernel_rfl) (by kernel_rfl) rfl rfl (.nil _) ?_
        refine WPA.putS ?_
        first | refine WPA.takeP 2 rfl (q_nilP rfl) (by kernel_rfl) (by kernel_rfl) (by kernel_rfl) rfl rfl (.nil _) ?_ | refine WPA.takeP 2 rfl (q_nilF rfl) (by kernel_rfl) (by kernel_rfl) (by kernel_rfl) rfl rfl (.nil _) ?_
        refine WPA.putS ?_
        first | refine WPA.takeP 3 rfl (q_faK fa_disk_Disk_pending rfl) (by kernel_rfl) (by kernel_rfl) (by kernel_rfl) rfl rfl (.nil _) ?_ | refine WPA.takeP 3 rfl (q_fa fa_disk_Disk_pending rfl) (by kernel_rfl) (by kernel_rfl) (by kernel_rfl) rfl rfl (.nil _) ?_
        refine WPA.putS ?_
        first | refine WPA.takeL 4 rfl (Ent.mem (by repeat (first | exact List.Mem.head _ | apply List.Mem.tail))) (q_load1z ld_sl_disk_write rfl (.head _) (by rfl)) (by kernel_rfl) (by kernel_rfl) (by kernel_rfl) rfl rfl (.nil _) ?_ | refine WPA.takeL 4 rfl (Ent.mem (by repeat (first | exact List.Mem.head _ | apply List.Mem.tail))) (q_load1 ld_sl_disk_write rfl (.head _) rfl (by rfl)) (by kernel_rfl) (by kernel_rfl) (by kernel_rfl) rfl rfl (.nil _) ?_
        refine WPA.putS ?_
        refine WPA.takeL 5 rfl (Ent.mem (by repeat (first | exact List.Mem.head _ | apply List.Mem.tail))) (q_loadAll (vs := encW (k, pad xs)) ld_disk_write rfl (.head _) (encW_len _)) (by kernel_rfl) (by kernel_rfl) (by kernel_rfl) rfl rfl (.cons (Ent.mem (by repeat (first | exact List.Mem.head _ | apply List.Mem.tail))) (.nil _)) ?_
        refine WPA.putS ?_
        refine WPA.oneE 6 [(4, [_])] (by kernel_rfl) rfl rfl (by repeat (first | exact .nil | refine .anc rfl ?_ | refine .keep (by repeat (first | exact List.Mem.head _ | apply List.Mem.tail)) ?_)) (E1.wpo (e_buildOne (cs := encW (k, pad xs)) mk_sl_disk_write (by decide) rfl rfl (encW_len _)) rfl ?_)
        rintro _ _ ⟨bE, rfl, rfl⟩
        refine ⟨(.cons (Ent.mem (by repeat (first | exact List.Mem.head _ | apply List.Mem.tail))) (.nil _)), ?_⟩
        refine WPA.putS ?_
        refine WPA.oneE 7 [] (by kernel_rfl) rfl rfl (by repeat (first | exact .nil | refine .anc rfl ?_ | refine .keep (by repeat (first | exact List.Mem.head _ | apply List.Mem.tail)) ?_)) (E1.wpo (e_append (m := 1) (news := encW (k, pad xs)) mk_sl_disk_write (by decide) rfl rfl (by repeat (first | exact Pick1.here | apply Pick1.there)) (Rd.part (i := 0) (b := bE) (o := 0) (vs := encW (k, pad xs)) (by repeat (first | exact List.Mem.head _ | apply List.Mem.tail)) rfl (encW_len _) (by rw [List.drop_zero]; exact List.take_of_length_le (Nat.le_refl _))) (encW_one _) (by show d.pend.length + 1 ≤ _; omega) (by show (d.pend.length + 1) * _ ≤ _; omega)) rfl ?_)
        rintro _ _ ⟨a3, c3, rfl, -, rfl⟩
        refine ⟨(.nil _), ?_⟩
        refine WPA.putS ?_
        first | refine WPA.takeP 8 rfl (q_nilP rfl) (by kernel_rfl) (by kernel_rfl) (by kernel_rfl) rfl rfl (.nil _) ?_ | refine WPA.takeP 8 rfl (q_nilF rfl) (by kernel_rfl) (by kernel_rfl) (by kernel_rfl) rfl rfl (.nil _) ?_
        refine WPA.putS ?_
        first | refine WPA.takeP 9 rfl (q_faK fa_disk_Disk_pending rfl) (by kernel_rfl) (by kernel_rfl) (by kernel_rfl) rfl rfl (.nil _) ?_ | refine WPA.takeP 9 rfl (q_fa fa_disk_Disk_pending rfl) (by kernel_rfl) (by kernel_rfl) (by kernel_rfl) rfl rfl (.nil _) ?_
        refine WPA.putS ?_
        refine WPA.oneE 10 [] (by kernel_rfl) rfl rfl (by repeat (first | exact .nil | refine .anc rfl ?_ | refine .keep (by repeat (first | exact List.Mem.head _ | apply List.Mem.tail)) ?_)) (S1.wpo (s_store1k sz_sl_disk_write rfl rfl rfl rfl (by repeat (first | exact Upd.here | apply Upd.there)) (by repeat constructor)) rfl ?_)
        refine ⟨(.nil _), ?_⟩
        refine WPA.putN ?_
        refine WPA.done (by kernel_rfl) ?_
        refine WPC.seqR ?_
        refine L_s (q_assign rfl) rfl ?_
        refine WPL.nil ?_
        refine WPC.prune [(6, _)] (by repeat (first | exact trivial | refine ⟨rfl, ?_⟩)) ?_
        refine WPC.ret ?_
        have hc := disk_close (b := b) (d := (d.done.put k (pad xs))) ⟨sa, sc, ua, uc, a3, c3⟩ ⟨⟨by rw [flat_length encS_len], by have := hS.cap; simpa [DK.put, DK.done] using this, .inr hp⟩, hU⟩ (Γ := [])
        simp only [diskC, DK.put, List.length_set, List.length_append, List.length_singleton, flat_snoc] at hc
        exact endR_r rfl (.tmp rfl .nil) ((Imp.pick (by repeat (first | exact Pick.nil | apply Pick.keep (by repeat (first | exact List.Mem.head _ | apply List.Mem.tail)) (by first | exact Pers.cells _ _ _ | exact Pers.slv _ _ _ | exact Pers.bytes _) | apply Pick.cons (by repeat (first | exact Pick1.here | apply Pick1.there))))).trans hc) ⟨rfl, rfl⟩

theorem c_DRead {b : Nat} {d : DK} {i : Int} : Trip Tryd.prog 68 #[.pointer (some ⟨b, 0, none⟩), .int .i64 i] [disk b d] fun r Δ => match d.read i with | some s => (∃ a c, r = .tuple #[.slice a 64 c, .int .i64 0] ∧ Sok 1 a 64 c (s.1.map u8) ∧ Δ = [disk b d, sl false a (s.1.map u8)]) | none => r = .tuple #[.slice none 0 0, .int .i64 40] ∧ Δ = [disk b d] := by
  refine disk_open fun L hL => ?_
  obtain ⟨sa, sc, ua, uc, pa, pc⟩ := L
  obtain ⟨hS, hU⟩ := hL
  dsimp only at hS hU
  refine Trip.start 18 [.tmp 4, .tmp 5] [(0, .pointer (some ⟨b, 0, none⟩)), (1, .int .i64 i)] Tryd.func68 rfl Tryd.ntmps68 rfl ⟨rfl, rfl, trivial⟩ rfl ?_
  refine WPC.seqR ?_
  refine L_s (q_assign rfl) rfl ?_
  refine L_s (q_assign rfl) rfl ?_
  refine WPL.nil ?_
  refine WPC.seq ?_
  refine WPC.seqR ?_
  refine L_s (q_move rfl) rfl ?_
  refine L_s (q_move rfl) rfl ?_
  refine WPL.cons rfl (C1.call (c_call Tryd.func62 rfl rfl rfl) (c_has_ (L := (⟨sa, sc, ua, uc, pa, pc⟩ : DL)) i) (by repeat (first | exact Pick.nil | apply Pick.keep (by repeat (first | exact List.Mem.head _ | apply List.Mem.tail)) (by first | exact Pers.cells _ _ _ | exact Pers.slv _ _ _) | apply Pick.cons (by repeat (first | exact Pick1.here | apply Pick1.there)))) rfl ?_)
  rintro _ _ ⟨rfl, rfl⟩
  refine WPL.putS ?_
  refine L_s (q_not rfl) rfl ?_
  refine WPL.nil ?_
  refine WPC.cond rfl (fun h0 => ?_) (fun h0 => ?_)
  · have ew : d.read i = none := by unfold DK.read; rw [if_neg (by simp at h0; omega)]
    rw [ew]
    refine WPC.seqR ?_
    refine L_s (q_assign rfl) rfl ?_
    refine L_s (q_assign rfl) rfl ?_
    refine WPL.nil ?_
    refine WPC.ret ?_
    refine thenQ_r ?_
    exact endR_r rfl (.tmp rfl (.tmp rfl .nil)) ((Imp.pick (by repeat (first | exact Pick.nil | apply Pick.keep (by repeat (first | exact List.Mem.head _ | apply List.Mem.tail)) (by first | exact Pers.cells _ _ _ | exact Pers.slv _ _ _ | exact Pers.bytes _) | apply Pick.cons (by repeat (first | exact Pick1.here | apply Pick1.there))))).trans (disk_close (b := b) (d := d) (⟨sa, sc, ua, uc, pa, pc⟩ : DL) ⟨hS, hU⟩ (Γ := []))) ⟨rfl, rfl⟩
  · have hin : 0 ≤ i ∧ i < (d.seen.length : Int) := by simpa using h0
    obtain ⟨k, rfl⟩ : ∃ k : Nat, i = (k : Int) := ⟨i.toNat, by omega⟩
    have hk : k < d.seen.length := by omega
    obtain ⟨s, hsx⟩ : ∃ s, d.seen[k]? = some s := ⟨d.seen[k], by simp [hk]⟩
    have ew : d.read k = some s := by unfold DK.read; rw [if_pos hin, Int.toNat_natCast, hsx]
    rw [ew]
    have hp : Pl sa := hS.at (by omega) (by omega)
    refine WPC.skip ?_
    refine thenQ_n ?_
    refine WPC.seqR ?_
    refine L_s (q_move rfl) rfl ?_
    first | refine L_s (q_nilP rfl) rfl ?_ | refine L_s (q_nilF rfl) rfl ?_
    first | refine L_s (q_faK fa_disk_Disk_seen rfl) rfl ?_ | refine L_s (q_fa fa_disk_Disk_seen rfl) rfl ?_
    first | refine L_s (q_load1z ld_sl_disk_sector rfl (by repeat (first | exact List.Mem.head _ | apply List.Mem.tail)) (by rfl)) rfl ?_ | refine L_s (q_load1 ld_sl_disk_sector rfl (by repeat (first | exact List.Mem.head _ | apply List.Mem.tail)) rfl (by rfl)) rfl ?_
    refine L_s (q_move rfl) rfl ?_
    refine L_s (q_idxN (i := k) sl_sl_disk_sector rfl rfl hk hp) rfl ?_
    refine L_s (q_sliceAll ar_disk_sector rfl) rfl ?_
    refine WPL.imp ((Imp.pick (Δ := [sl true sa (d.seen.flatMap encS), cells true b 0 (diskC d (⟨sa, sc, ua, uc, pa, pc⟩ : DL)), sl true ua (d.sure.flatMap encS), buf 65 pa d.pend.length pc (d.pend.flatMap encW)]) (by repeat (first | exact Pick.nil | apply Pick.keep (by repeat (first | exact List.Mem.head _ | apply List.Mem.tail)) (by first | exact Pers.cells _ _ _ | exact Pers.slv _ _ _ | exact Pers.bytes _) | apply Pick.cons (by repeat (first | exact Pick1.here | apply Pick1.there))))).trans (flat_focus (i := k) encS_len hsx)) ?_
    refine WPL.cons rfl (C1.call (c_call Tryd.func33 rfl rfl rfl) (c_CloneB (p := true) (a := some ⟨blk sa, off sa + k * 64, none⟩) (n := 64) (c := 64) (xs := s.1) ⟨by rw [List.length_map, s.2], Nat.le_refl _, .inr (Pl.mk _ _)⟩ (by omega)) (by repeat (first | exact Pick.nil | apply Pick.keep (by repeat (first | exact List.Mem.head _ | apply List.Mem.tail)) (by first | exact Pers.cells _ _ _ | exact Pers.slv _ _ _) | apply Pick.cons (by repeat (first | exact Pick1.here | apply Pick1.there)))) rfl ?_)
    rintro _ _ ⟨a', c', rfl, rfl⟩
    refine WPL.bufRo fun hs' => ?_
    refine WPL.putS ?_
    refine L_s (q_assign rfl) rfl ?_
    refine L_s (q_assign rfl) rfl ?_
    refine WPL.nil ?_
    refine WPC.ret ?_
    have hput := flat_put (p := true) (b := blk sa) (o := off sa) (xs := d.seen) (y := s) encS_len hk (Γ := [cells true b 0 (diskC d (⟨sa, sc, ua, uc, pa, pc⟩ : DL)), sl true ua (d.sure.flatMap encS), buf 65 pa d.pend.length pc (d.pend.flatMap encW), sl false a' (s.1.map u8)])
    rw [set_self hsx] at hput
    exact endR_r rfl (.tmp rfl (.tmp rfl .nil)) ((Imp.pick (Δ := [sl true (some ⟨blk sa, off sa + k * 64, none⟩) (s.1.map u8), flatBut true (blk sa) (off sa) k 64 d.seen encS, cells true b 0 (diskC d (⟨sa, sc, ua, uc, pa, pc⟩ : DL)), sl true ua (d.sure.flatMap encS), buf 65 pa d.pend.length pc (d.pend.flatMap encW), sl false a' (s.1.map u8)]) (by repeat (first | exact Pick.nil | apply Pick.keep (by repeat (first | exact List.Mem.head _ | apply List.Mem.tail)) (by first | exact Pers.cells _ _ _ | exact Pers.slv _ _ _ | exact Pers.bytes _) | apply Pick.cons (by repeat (first | exact Pick1.here | apply Pick1.there))))).trans (hput.trans ((Imp.pick (by repeat (first | exact Pick.nil | apply Pick.keep (by repeat (first | exact List.Mem.head _ | apply List.Mem.tail)) (by first | exact Pers.cells _ _ _ | exact Pers.slv _ _ _ | exact Pers.bytes _) | apply Pick.cons (by repeat (first | exact Pick1.here | apply Pick1.there))))).trans (disk_close (b := b) (d := d) (⟨sa, sc, ua, uc, pa, pc⟩ : DL) ⟨hS, hU⟩ (Γ := [sl false a' (s.1.map u8)]))))) ⟨a', c', rfl, hs', rfl⟩

theorem c_Sync {b : Nat} {d : DK} (hok : d.ok) (hpl : d.pend.length < 1000000) : Trip Tryd.prog 32 #[.pointer (some ⟨b, 0, none⟩)] [disk b d] fun r Δ => r = .tuple #[] ∧ Δ = [disk b d.sync] := by
  refine disk_open fun L hL => ?_
  obtain ⟨sa, sc, ua, uc, pa, pc⟩ := L
  obtain ⟨hS, hU⟩ := hL
  dsimp only at hS hU
  refine Trip.start 29 [] [(0, .pointer (some ⟨b, 0, none⟩))] Tryd.func32 rfl Tryd.ntmps32 rfl ⟨rfl, trivial⟩ rfl ?_
  refine WPC.seq ?_
  refine WPC.seqR ?_
  refine L_s (q_move rfl) rfl ?_
  refine WPL.cons rfl (C1.call (c_call Tryd.func56 rfl rfl rfl) (c_done (L := (⟨sa, sc, ua, uc, pa, pc⟩ : DL)) hok.fr) (by repeat (first | exact Pick.nil | apply Pick.keep (by repeat (first | exact List.Mem.head _ | apply List.Mem.tail)) (by first | exact Pers.cells _ _ _ | exact Pers.slv _ _ _) | apply Pick.cons (by repeat (first | exact Pick1.here | apply Pick1.there)))) rfl ?_)
  rintro _ _ ⟨rfl, rfl⟩
  refine WPL.putS ?_
  refine L_s (q_not rfl) rfl ?_
  refine WPL.nil ?_
  refine WPC.cond rfl (fun h0 => ?_) (fun h0 => ?_)
  · have ew : d.sync = d.done := by unfold DK.sync; rw [if_pos (by simpa using h0)]
    rw [ew]
    refine WPC.ret ?_
    refine thenQ_r ?_
    exact endR_r rfl .nil ((Imp.pick (by repeat (first | exact Pick.nil | apply Pick.keep (by repeat (first | exact List.Mem.head _ | apply List.Mem.tail)) (by first | exact Pers.cells _ _ _ | exact Pers.slv _ _ _ | exact Pers.bytes _) | apply Pick.cons (by repeat (first | exact Pick1.here | apply Pick1.there))))).trans (disk_close (b := b) (d := d.done) (⟨sa, sc, ua, uc, pa, pc⟩ : DL) ⟨hS, hU⟩ (Γ := []))) ⟨rfl, rfl⟩
  · have ew : d.sync = { d.done with sure := flush d.sure d.pend, pend := [] } := by unfold DK.sync; rw [if_neg (by simpa using h0)]
    rw [ew]
    refine WPC.skip ?_
    refine thenQ_n ?_
    refine WPC.seq ?_
    refine WPC.seqR ?_
    refine L_s (q_move rfl) rfl ?_
    first | refine L_s (q_nilP rfl) rfl ?_ | refine L_s (q_nilF rfl) rfl ?_
    first | refine L_s (q_faK fa_disk_Disk_pending rfl) rfl ?_ | refine L_s (q_fa fa_disk_Disk_pending rfl) rfl ?_
    first | refine L_s (q_load1z ld_sl_disk_write rfl (by repeat (first | exact List.Mem.head _ | apply List.Mem.tail)) (by rfl)) rfl ?_ | refine L_s (q_load1 ld_sl_disk_write rfl (by repeat (first | exact List.Mem.head _ | apply List.Mem.tail)) rfl (by rfl)) rfl ?_
    refine L_s (q_len rfl un_sl_disk_write rfl) rfl ?_
    refine WPL.imp (Imp.pick (Δ := [buf 65 pa d.pend.length pc (d.pend.flatMap encW), cells true b 0 (diskC d.done (⟨sa, sc, ua, uc, pa, pc⟩ : DL)), sl true sa (d.seen.flatMap encS), sl true ua (d.sure.flatMap encS)]) (by repeat (first | exact Pick.nil | apply Pick.keep (by repeat (first | exact List.Mem.head _ | apply List.Mem.tail)) (by first | exact Pers.cells _ _ _ | exact Pers.slv _ _ _ | exact Pers.bytes _) | apply Pick.cons (by repeat (first | exact Pick1.here | apply Pick1.there))))) ?_
    refine WPL.bufSl fun hP => ?_
    refine L_s (q_move rfl) rfl ?_
    refine WPL.nil ?_
    refine WPC.block ?_
    refine WPC.loopS (fun m e Γ => ∃ (k : Nat) (us : List Sec), m = d.pend.length - k ∧ k ≤ d.pend.length ∧ us.length = d.sure.length ∧ flush us (d.pend.drop k) = flush d.sure d.pend ∧ e = [(0, .pointer (some ⟨b, 0, none⟩)), (10, .slice pa d.pend.length pc), (11, .int .i64 (d.pend.length : Int)), (12, .int .i64 (k : Int))] ∧ Γ = [cells true b 0 (diskC d.done (⟨sa, sc, ua, uc, pa, pc⟩ : DL)), sl true sa (d.seen.flatMap encS), sl true ua (us.flatMap encS), sl true pa (d.pend.flatMap encW)]) (d.pend.length) ⟨0, d.sure, rfl, by omega, rfl, rfl, rfl, rfl⟩ (by repeat (first | exact trivial | refine ⟨rfl, ?_⟩)) (Imp.pick (by repeat (first | exact Pick.nil | apply Pick.keep (by repeat (first | exact List.Mem.head _ | apply List.Mem.tail)) (by first | exact Pers.cells _ _ _ | exact Pers.slv _ _ _) | apply Pick.cons (by repeat (first | exact Pick1.here | apply Pick1.there))))) ?_
    rintro m e Γ ⟨k, us, rfl, hk, hul, hfl, rfl, rfl⟩
    refine WPC.seqR ?_
    refine L_s (q_int rfl rfl rfl) rfl ?_
    refine WPL.nil ?_
    refine WPC.seq ?_
    refine WPC.cond rfl (fun h1 => ?_) (fun h1 => ?_)
    · simp only [decide_eq_true_eq, Int.ofNat_lt] at h1
      have hp : Pl pa := hP.at (by omega) (by omega)
      obtain ⟨w, hw⟩ : ∃ w, d.pend[k]? = some w := ⟨d.pend[k], by simp [h1]⟩
      have hwi : w.1 < d.sure.length := by rw [hok.same]; exact hok.idx w (List.mem_of_getElem? hw)
      have hpu : Pl ua := hU.at (by omega) (by omega)
      rw [drop_step hw] at hfl
      refine WPC.skip ?_
      refine thenQ_n ?_
      refine WPC.seq ?_
      refine WPC.block ?_
      refine WPC.seqR ?_
      refine L_s (q_idxN (i := k) sl_sl_disk_write rfl rfl h1 hp) rfl ?_
      refine L_s (q_ldFlat ld_disk_write rfl (by repeat (first | exact List.Mem.head _ | apply List.Mem.tail)) encW_len hw) rfl ?_
      refine WPL.cons rfl (E1.wpo (e_allocL zl_disk_write) rfl ?_)
      rintro _ _ ⟨bw, rfl, rfl⟩
      refine WPL.putS ?_
      refine WPL.cons rfl (S1.wpo (s_storeAll (us := encW w) sz_disk_write rfl rfl (encW_one _) (encW_len _) rfl (by repeat (first | exact Upd.here | apply Upd.there))) rfl ?_)
      refine WPL.putN ?_
      refine WPL.nil ?_
      refine WPC.draw mixed ?_
      refine WPA.takeP 0 rfl (q_move rfl) (by kernel_rfl) (by kernel_rfl) (by kernel_rfl) rfl rfl (.nil _) ?_
      refine WPA.putS ?_
      first | refine WPA.takeP 1 rfl (q_nilP rfl) (by kernel_rfl) (by kernel_rfl) (by kernel_rfl) rfl rfl (.nil _) ?_ | refine WPA.takeP 1 rfl (q_nilF rfl) (by kernel_rfl) (by kernel_rfl) (by kernel_rfl) rfl rfl (.nil _) ?_
      refine WPA.putS ?_
      first | refine WPA.takeP 2 rfl (q_faK fa_disk_Disk_sure rfl) (by kernel_rfl) (by kernel_rfl) (by kernel_rfl) rfl rfl (.nil _) ?_ | refine WPA.takeP 2 rfl (q_fa fa_disk_Disk_sure rfl) (by kernel_rfl) (by kernel_rfl) (by kernel_rfl) rfl rfl (.nil _) ?_
      refine WPA.putS ?_
      first | refine WPA.takeL 3 rfl (Ent.mem (by repeat (first | exact List.Mem.head _ | apply List.Mem.tail))) (q_load1z ld_sl_disk_sector rfl (.head _) (by rfl)) (by kernel_rfl) (by kernel_rfl) (by kernel_rfl) rfl rfl (.nil _) ?_ | refine WPA.takeL 3 rfl (Ent.mem (by repeat (first | exact List.Mem.head _ | apply List.Mem.tail))) (q_load1 ld_sl_disk_sector rfl (.head _) rfl (by rfl)) (by kernel_rfl) (by kernel_rfl) (by kernel_rfl) rfl rfl (.nil _) ?_
      refine WPA.putS ?_
      first | refine WPA.takeP 4 rfl (q_faK fa_disk_write_i rfl) (by kernel_rfl) (by kernel_rfl) (by kernel_rfl) rfl rfl (.cons (Ent.mem (by repeat (first | exact List.Mem.head _ | apply List.Mem.tail))) (.nil _)) ?_ | refine WPA.takeP 4 rfl (q_fa fa_disk_write_i rfl) (by kernel_rfl) (by kernel_rfl) (by kernel_rfl) rfl rfl (.cons (Ent.mem (by repeat (first | exact List.Mem.head _ | apply List.Mem.tail))) (.nil _)) ?_
      refine WPA.putS ?_
      first | refine WPA.takeL 5 rfl (Ent.mem (by repeat (first | exact List.Mem.head _ | apply List.Mem.tail))) (q_load1z ld_int rfl (.head _) (by rfl)) (by kernel_rfl) (by kernel_rfl) (by kernel_rfl) rfl rfl (.cons (Ent.mem (by repeat (first | exact List.Mem.head _ | apply List.Mem.tail))) (.nil _)) ?_ | refine WPA.takeL 5 rfl (Ent.mem (by repeat (first | exact List.Mem.head _ | apply List.Mem.tail))) (q_load1 ld_int rfl (.head _) rfl (by rfl)) (by kernel_rfl) (by kernel_rfl) (by kernel_rfl) rfl rfl (.cons (Ent.mem (by repeat (first | exact List.Mem.head _ | apply List.Mem.tail))) (.nil _)) ?_
      refine WPA.putS ?_
      first | refine WPA.takeP 6 rfl (q_faK fa_disk_write_b rfl) (by kernel_rfl) (by kernel_rfl) (by kernel_rfl) rfl rfl (.cons (Ent.mem (by repeat (first | exact List.Mem.head _ | apply List.Mem.tail))) (.cons (Ent.mem (by repeat (first | exact List.Mem.head _ | apply List.Mem.tail))) (.nil _))) ?_ | refine WPA.takeP 6 rfl (q_fa fa_disk_write_b rfl) (by kernel_rfl) (by kernel_rfl) (by kernel_rfl) rfl rfl (.cons (Ent.mem (by repeat (first | exact List.Mem.head _ | apply List.Mem.tail))) (.cons (Ent.mem (by repeat (first | exact List.Mem.head _ | apply List.Mem.tail))) (.nil _))) ?_
      refine WPA.putS ?_
      refine WPA.takeL 7 rfl (Ent.mem (by repeat (first | exact List.Mem.head _ | apply List.Mem.tail))) (q_loadN (b := bw) (o := 0) (i := 1) (us := encS w.2) ld_disk_sector rfl (.head _) rfl (encS_len _) (drop_encW w.1 w.2)) (by kernel_rfl) (by kernel_rfl) (by kernel_rfl) rfl rfl (.cons (Ent.mem (by repeat (first | exact List.Mem.head _ | apply List.Mem.tail))) (.cons (Ent.mem (by repeat (first | exact List.Mem.head _ | apply List.Mem.tail))) (.nil _))) ?_
      refine WPA.putS ?_
      refine WPA.takeP 8 rfl (q_idxN (i := w.1) sl_sl_disk_sector rfl rfl (show w.1 < d.done.sure.length from hwi) hpu) (by kernel_rfl) (by kernel_rfl) (by kernel_rfl) rfl rfl (.cons (Ent.mem (by repeat (first | exact List.Mem.head _ | apply List.Mem.tail))) (.cons (Ent.mem (by repeat (first | exact List.Mem.head _ | apply List.Mem.tail))) (.cons (Ent.mem (by repeat (first | exact List.Mem.head _ | apply List.Mem.tail))) (.nil _)))) ?_
      refine WPA.putS ?_
      refine WPA.oneE 9 [] (by kernel_rfl) rfl rfl (by repeat (first | exact .nil | refine .anc rfl ?_ | refine .keep (by repeat (first | exact List.Mem.head _ | apply List.Mem.tail)) ?_)) (S1.wpo (s_storeFlat (xs := us) (enc := encS) (e := w.2) sz_disk_sector rfl rfl (encS_one _) encS_len (by omega) (by repeat (first | exact Upd.here | apply Upd.there))) rfl ?_)
      refine ⟨(.nil _), ?_⟩
      refine WPA.putN ?_
      refine WPA.done (by kernel_rfl) ?_
      refine blockQ_n ?_
      refine thenQ_n ?_
      refine WPC.region ?_
      first | refine L_s (q_inc rfl rfl (by omega)) rfl ?_ | refine L_s (q_addI rfl rfl (by omega)) rfl ?_ | refine L_s (q_int rfl rfl rfl) rfl ?_
      refine L_s (q_move rfl) rfl ?_
      refine WPL.nil ?_
      refine thenQ_n ?_
      exact ⟨rfl, _, _, _, by omega, ⟨k + 1, us.set w.1 w.2, rfl, by omega, by rw [List.length_set]; exact hul, hfl, rfl, rfl⟩, (by repeat (first | exact trivial | refine ⟨rfl, ?_⟩)), Imp.pick (by repeat (first | exact Pick.nil | apply Pick.keep (by repeat (first | exact List.Mem.head _ | apply List.Mem.tail)) (by first | exact Pers.cells _ _ _ | exact Pers.slv _ _ _) | apply Pick.cons (by repeat (first | exact Pick1.here | apply Pick1.there))))⟩
    · simp only [decide_eq_false_iff_not, Int.ofNat_lt] at h1
      rw [List.drop_eq_nil_of_le (by omega)] at hfl
      have hfl2 : us = flush d.sure d.pend := hfl
      refine WPC.exit ?_
      refine thenQ_e ?_
      refine thenQ_e ?_
      refine blockQ_here ?_
      refine thenQ_n ?_
      refine WPC.region ?_
      refine L_s (q_move rfl) rfl ?_
      first | refine L_s (q_nilP rfl) rfl ?_ | refine L_s (q_nilF rfl) rfl ?_
      first | refine L_s (q_faK fa_disk_Disk_pending rfl) rfl ?_ | refine L_s (q_fa fa_disk_Disk_pending rfl) rfl ?_
      refine WPL.cons rfl (S1.wpo (s_store1k sz_sl_disk_write rfl rfl rfl rfl (by repeat (first | exact Upd.here | apply Upd.there)) (by repeat constructor)) rfl ?_)
      refine WPL.putN ?_
      refine WPL.nil ?_
      have hc := disk_close (b := b) (d := { d.done with sure := us, pend := [] }) ⟨sa, sc, ua, uc, none, 0⟩ ⟨hS, ⟨flat_length encS_len _, by rw [hul]; exact hU.cap, by rcases hU.pl with h | h; (left; rw [List.eq_nil_of_length_eq_zero (l := us.flatMap encS) (by rw [flat_length encS_len, hul, ← flat_length encS_len, h]; rfl)]); exact .inr h⟩⟩ (Γ := [])
      simp only [diskC, hul] at hc
      rw [← hfl2]
      exact endR_n rfl .nil (Imp.bufNil.trans ((Imp.pick (by repeat (first | exact Pick.nil | apply Pick.keep (by repeat (first | exact List.Mem.head _ | apply List.Mem.tail)) (by first | exact Pers.cells _ _ _ | exact Pers.slv _ _ _ | exact Pers.bytes _) | apply Pick.cons (by repeat (first | exact Pick1.here | apply Pick1.there))))).trans hc)) ⟨rfl, rfl⟩

end Go.Sl
