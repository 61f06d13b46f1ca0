/- Walks: loading and saving. -/
import Derived.Test.YtdbpjcplmfkgaaaDoorJG
namespace Go.Sl
open Go Go.RowKit Go.Proofs
set_option linter.unusedSimpArgs false
set_option linter.unusedVariables false
attribute [local irreducible] faB szB ldB zB zL slB mkB arB plB intB cells objc star stars buf slv grp whole Sat WPC WPL WPA WPO Trip

theorem c_Write64 {b c : Nat} {d : DK} {a : Option Addr} {i : Int} {xs : List By} (hok : d.ok) (hpl : d.pend.length < 1000000) (h64 : xs.length = 64) (hs : Sok 1 a 64 c (xs.map u8)) : Trip Tryd.prog 36 #[.pointer (some ⟨b, 0, none⟩), .int .i64 i, .slice a 64 c] [disk b d, sl false a (xs.map u8)] fun r Δ => r = .int .i64 (d.write i xs).2 ∧ Δ = [disk b (d.write i xs).1] := by
  have h := c_Write (b := b) (c := c) (d := d) (a := a) (i := i) (xs := xs) hok hpl (by rw [h64]; exact hs)
  rw [h64] at h
  exact h
theorem c_WriteNil {b : Nat} {d : DK} {i : Int} (hok : d.ok) (hpl : d.pend.length < 1000000) : Trip Tryd.prog 36 #[.pointer (some ⟨b, 0, none⟩), .int .i64 i, .slice none 0 0] [disk b d] fun r Δ => r = .int .i64 (d.write i []).2 ∧ Δ = [disk b (d.write i []).1] :=
  Trip.imp ((Imp.slEmpty (p := false) (a := none)).trans (Imp.perm (.swap _ _ _))) (c_Write (xs := []) (c := 0) hok hpl ⟨rfl, Nat.le_refl _, .inl rfl⟩)

theorem c_DownD {b : Nat} {d : DK} : Trip Tryd.prog 78 #[.pointer (some ⟨b, 0, none⟩)] [disk b d] fun r Δ => r = .bool d.down ∧ Δ = [disk b d] := by
  refine disk_open fun L hL => ?_
  refine Trip.start 7 [.tmp 2] [(0, .pointer (some ⟨b, 0, none⟩))] Tryd.func78 rfl Tryd.ntmps78 rfl ⟨rfl, trivial⟩ rfl ?_
  refine WPC.seqR ?_
  refine L_s (q_assign rfl) rfl ?_
  refine WPL.nil ?_
  refine WPC.seqR ?_
  refine L_s (q_move rfl) rfl ?_
  first | refine L_s (q_nilP rfl) rfl ?_ | refine L_s (q_nilF rfl) rfl ?_
  first | refine L_s (q_faK fa_disk_Disk_down rfl) rfl ?_ | refine L_s (q_fa fa_disk_Disk_down rfl) rfl ?_
  first | refine L_s (q_load1z ld_bool rfl (by repeat (first | exact List.Mem.head _ | apply List.Mem.tail)) (by rfl)) rfl ?_ | refine L_s (q_load1 ld_bool rfl (by repeat (first | exact List.Mem.head _ | apply List.Mem.tail)) rfl (by rfl)) rfl ?_
  refine L_s (q_assign rfl) rfl ?_
  refine WPL.nil ?_
  refine WPC.ret ?_
  exact endR_r rfl (.tmp rfl .nil) ((Imp.pick (by repeat (first | exact Pick.nil | apply Pick.keep (by repeat (first | exact List.Mem.head _ | apply List.Mem.tail)) (by first | exact Pers.cells _ _ _ | exact Pers.slv _ _ _ | exact Pers.bytes _) | apply Pick.cons (by repeat (first | exact Pick1.here | apply Pick1.there))))).trans (disk_close L hL (Γ := []))) ⟨rfl, rfl⟩

theorem c_Load {b : Nat} {d : DK} {i : Int} (hi : 0 ≤ i ∧ i + 1 < (d.seen.length : Int)) (hd : d.ok) : Trip Tryd.prog 40 #[.pointer (some ⟨b, 0, none⟩), .int .i64 i] [disk b d, tblA] fun r Δ => ∃ a c, r = .tuple #[.slice a (if (last d i).seq = 0 then [] else (last d i).b).length c, .int .u32 ((last d i).seq : Int), .int .i64 (if (last d i).seq = 0 then 41 else 0)] ∧ Sok 1 a (if (last d i).seq = 0 then [] else (last d i).b).length c ((if (last d i).seq = 0 then [] else (last d i).b).map u8) ∧ Δ = [disk b d, sl false a ((if (last d i).seq = 0 then [] else (last d i).b).map u8)] := by
  have hdn := hd.n
  have hr := right_in hi
  refine Trip.start 22 [.tmp 4, .tmp 5, .tmp 6] [(0, .pointer (some ⟨b, 0, none⟩)), (1, .int .i64 i)] Tryd.func40 rfl Tryd.ntmps40 rfl ⟨rfl, rfl, trivial⟩ rfl ?_
  refine WPC.seqR ?_
  refine L_s (q_assign rfl) rfl ?_
  refine L_s (q_assign rfl) rfl ?_
  refine L_s (q_assign rfl) rfl ?_
  refine WPL.nil ?_
  refine WPC.seq ?_
  refine WPC.seqR ?_
  refine L_s (q_move rfl) rfl ?_
  refine L_s (q_move rfl) rfl ?_
  refine WPL.cons rfl (C1.call (c_call Tryd.func63 rfl rfl rfl) (c_right (by omega) hd) (by repeat (first | exact Pick.nil | apply Pick.keep (by repeat (first | exact List.Mem.head _ | apply List.Mem.tail)) (by first | exact Pers.cells _ _ _ | exact Pers.slv _ _ _) | apply Pick.cons (by repeat (first | exact Pick1.here | apply Pick1.there)))) rfl ?_)
  rintro _ _ ⟨rfl, rfl⟩
  refine WPL.putS ?_
  refine L_s (q_not rfl) rfl ?_
  refine WPL.nil ?_
  refine WPC.cond rfl (fun h0 => ?_) (fun h0 => ?_)
  · try simp only [decide_eq_true_eq, decide_eq_false_iff_not, beq_iff_eq, bne_iff_ne, beq_eq_false_iff_ne, bne_eq_false_iff_eq, Bool.not_eq_true', Bool.not_eq_false', Bool.not_eq_eq_eq_not, Bool.not_true, Bool.not_false, ne_eq, Decidable.not_not, Int.not_lt, Int.not_le, gt_iff_lt, ge_iff_le] at h0
    simp [hr] at h0
  · skip
    refine WPC.skip ?_
    refine thenQ_n ?_
    refine WPC.seqR ?_
    refine L_s (q_move rfl) rfl ?_
    refine L_s (q_move rfl) rfl ?_
    refine WPL.cons rfl (C1.call (c_call Tryd.func64 rfl rfl rfl) (c_last hi hd) (by repeat (first | exact Pick.nil | apply Pick.keep (by repeat (first | exact List.Mem.head _ | apply List.Mem.tail)) (by first | exact Pers.cells _ _ _ | exact Pers.slv _ _ _) | apply Pick.cons (by repeat (first | exact Pick1.here | apply Pick1.there)))) rfl ?_)
    rintro _ _ ⟨a, c, rfl, hb, rfl⟩
    refine WPL.putS ?_
    refine WPL.cons rfl (E1.wpo (e_allocL zl_slot_record) rfl ?_)
    rintro _ _ ⟨bL, rfl, rfl⟩
    refine WPL.putS ?_
    refine WPL.cons rfl (S1.wpo (s_storeNz sz_slot_record rfl rfl (by simp [Value.oneCell']) rfl (by repeat (first | exact Upd.here | apply Upd.there)) (by repeat constructor)) rfl ?_)
    refine WPL.putN ?_
    refine WPL.nil ?_
    refine WPC.seq ?_
    refine WPC.seqR ?_
    first | refine L_s (q_faK fa_slot_record_seq rfl) rfl ?_ | refine L_s (q_fa fa_slot_record_seq rfl) rfl ?_
    first | refine L_s (q_load1z ld_uint32 rfl (by repeat (first | exact List.Mem.head _ | apply List.Mem.tail)) (by rfl)) rfl ?_ | refine L_s (q_load1 ld_uint32 rfl (by repeat (first | exact List.Mem.head _ | apply List.Mem.tail)) rfl (by rfl)) rfl ?_
    refine L_s (q_int rfl rfl rfl) rfl ?_
    refine WPL.nil ?_
    refine WPC.cond rfl (fun h1 => ?_) (fun h1 => ?_)
    · have h1 : (last d i).seq = 0 := by simpa using h1
      rw [h1]
      simp only [if_true]
      refine WPC.seqR ?_
      refine L_s (q_assign rfl) rfl ?_
      refine L_s (q_assign rfl) rfl ?_
      refine L_s (q_assign rfl) rfl ?_
      refine WPL.nil ?_
      refine WPC.ret ?_
      refine thenQ_r ?_
      exact endR_r rfl (.tmp rfl (.tmp rfl (.tmp rfl .nil))) ((Imp.slEmpty (p := false) (a := none)).trans (Imp.pick (by repeat (first | exact Pick.nil | apply Pick.keep (by repeat (first | exact List.Mem.head _ | apply List.Mem.tail)) (by first | exact Pers.cells _ _ _ | exact Pers.slv _ _ _ | exact Pers.bytes _) | apply Pick.cons (by repeat (first | exact Pick1.here | apply Pick1.there)))))) ⟨none, 0, rfl, ⟨rfl, Nat.le_refl _, .inl rfl⟩, rfl⟩
    · have h1 : (last d i).seq ≠ 0 := by simpa using h1
      simp only [if_neg h1]
      refine WPC.skip ?_
      refine thenQ_n ?_
      refine WPC.seqQ mixed (by kernel_rfl) ?_
      first | refine WPQ.cons (q_faK fa_slot_record_b rfl) rfl ?_ | refine WPQ.cons (q_fa fa_slot_record_b rfl) rfl ?_
      first | refine WPQ.cons (q_load1z ld_sl_uint8 rfl (by repeat (first | exact List.Mem.head _ | apply List.Mem.tail)) (by rfl)) rfl ?_ | refine WPQ.cons (q_load1 ld_sl_uint8 rfl (by repeat (first | exact List.Mem.head _ | apply List.Mem.tail)) rfl (by rfl)) rfl ?_
      first | refine WPQ.cons (q_faK fa_slot_record_seq rfl) rfl ?_ | refine WPQ.cons (q_fa fa_slot_record_seq rfl) rfl ?_
      first | refine WPQ.cons (q_load1z ld_uint32 rfl (by repeat (first | exact List.Mem.head _ | apply List.Mem.tail)) (by rfl)) rfl ?_ | refine WPQ.cons (q_load1 ld_uint32 rfl (by repeat (first | exact List.Mem.head _ | apply List.Mem.tail)) rfl (by rfl)) rfl ?_
      refine WPQ.cons (q_assign rfl) rfl ?_
      refine WPQ.cons (q_assign rfl) rfl ?_
      refine WPQ.cons (q_assign rfl) rfl ?_
      refine WPQ.nil ?_
      refine WPC.ret ?_
      exact endR_r rfl (.tmp rfl (.tmp rfl (.tmp rfl .nil))) (Imp.pick (by repeat (first | exact Pick.nil | apply Pick.keep (by repeat (first | exact List.Mem.head _ | apply List.Mem.tail)) (by first | exact Pers.cells _ _ _ | exact Pers.slv _ _ _ | exact Pers.bytes _) | apply Pick.cons (by repeat (first | exact Pick1.here | apply Pick1.there))))) ⟨a, c, rfl, hb, rfl⟩

theorem c_Put {b c : Nat} {d : DK} {a : Option Addr} {i : Int} {xs : List By} (hi : 0 ≤ i ∧ i + 1 < (d.seen.length : Int)) (hd : d.ok) (hpl : d.pend.length < 900000) (hx : xs.length ≤ 43) (hs : Sok 1 a xs.length c (xs.map u8)) : Trip Tryd.prog 77 #[.pointer (some ⟨b, 0, none⟩), .int .i64 i, .slice a xs.length c] [disk b d, sl false a (xs.map u8), tblA] fun r Δ => r = .int .i64 (put d i xs).2 ∧ Δ = [disk b (put d i xs).1] := by
  have hdn := hd.n
  have hr := right_in hi
  have hlt := (last_lt d i).1
  have hat := last_at d i
  have hsp := sync_pend d
  refine Trip.start 44 [.tmp 6] [(0, .pointer (some ⟨b, 0, none⟩)), (1, .int .i64 i), (2, .slice a xs.length c)] Tryd.func77 rfl Tryd.ntmps77 rfl ⟨rfl, rfl, rfl, trivial⟩ rfl ?_
  refine WPC.seqR ?_
  refine L_s (q_assign rfl) rfl ?_
  refine WPL.nil ?_
  refine WPC.seq ?_
  refine WPC.seqR ?_
  refine L_s (q_move rfl) rfl ?_
  refine L_s (q_move rfl) rfl ?_
  refine WPL.cons rfl (C1.call (c_call Tryd.func63 rfl rfl rfl) (c_right (by omega) hd) (by repeat (first | exact Pick.nil | apply Pick.keep (by repeat (first | exact List.Mem.head _ | apply List.Mem.tail)) (by first | exact Pers.cells _ _ _ | exact Pers.slv _ _ _) | apply Pick.cons (by repeat (first | exact Pick1.here | apply Pick1.there)))) rfl ?_)
  rintro _ _ ⟨rfl, rfl⟩
  refine WPL.putS ?_
  refine L_s (q_not rfl) rfl ?_
  refine WPL.nil ?_
  refine WPC.cond rfl (fun h0 => ?_) (fun h0 => ?_)
  · try simp only [decide_eq_true_eq, decide_eq_false_iff_not, beq_iff_eq, bne_iff_ne, beq_eq_false_iff_ne, bne_eq_false_iff_eq, Bool.not_eq_true', Bool.not_eq_false', Bool.not_eq_eq_eq_not, Bool.not_true, Bool.not_false, ne_eq, Decidable.not_not, Int.not_lt, Int.not_le, gt_iff_lt, ge_iff_le] at h0
    simp [hr] at h0
  · skip
    refine WPC.skip ?_
    refine thenQ_n ?_
    refine WPC.seqR ?_
    refine L_s (q_move rfl) rfl ?_
    refine L_s (q_move rfl) rfl ?_
    refine WPL.cons rfl (C1.call (c_call Tryd.func64 rfl rfl rfl) (c_last hi hd) (by repeat (first | exact Pick.nil | apply Pick.keep (by repeat (first | exact List.Mem.head _ | apply List.Mem.tail)) (by first | exact Pers.cells _ _ _ | exact Pers.slv _ _ _) | apply Pick.cons (by repeat (first | exact Pick1.here | apply Pick1.there)))) rfl ?_)
    rintro _ _ ⟨al, cl, rfl, hb, rfl⟩
    refine WPL.putS ?_
    refine WPL.cons rfl (E1.wpo (e_allocL zl_slot_record) rfl ?_)
    rintro _ _ ⟨bL, rfl, rfl⟩
    refine WPL.putS ?_
    refine WPL.cons rfl (S1.wpo (s_storeNz sz_slot_record rfl rfl (by simp [Value.oneCell']) rfl (by repeat (first | exact Upd.here | apply Upd.there)) (by repeat constructor)) rfl ?_)
    refine WPL.putN ?_
    refine WPL.nil ?_
    refine WPC.seqR ?_
    first | refine L_s (q_faK fa_slot_record_seq rfl) rfl ?_ | refine L_s (q_fa fa_slot_record_seq rfl) rfl ?_
    first | refine L_s (q_load1z ld_uint32 rfl (by repeat (first | exact List.Mem.head _ | apply List.Mem.tail)) (by rfl)) rfl ?_ | refine L_s (q_load1 ld_uint32 rfl (by repeat (first | exact List.Mem.head _ | apply List.Mem.tail)) rfl (by rfl)) rfl ?_
    refine L_s (q_add32 (a := (last d i).seq) (b := 1) rfl rfl) rfl ?_
    refine L_s (q_move rfl) rfl ?_
    refine WPL.cons rfl (C1.call (c_call Tryd.func35 rfl rfl rfl) (c_Stamp (seq := ((last d i).seq + 1) % 4294967296) (epoch := 0) hs (Nat.mod_lt _ (by omega)) (by omega) hx) (by repeat (first | exact Pick.nil | apply Pick.keep (by repeat (first | exact List.Mem.head _ | apply List.Mem.tail)) (by first | exact Pers.cells _ _ _ | exact Pers.slv _ _ _) | apply Pick.cons (by repeat (first | exact Pick1.here | apply Pick1.there)))) rfl ?_)
    rintro _ _ ⟨a2, c2, rfl, hs2, rfl⟩
    refine WPL.putS ?_
    refine L_s (q_move rfl) rfl ?_
    refine L_s (q_extract rfl rfl) rfl ?_
    refine L_s (q_extract rfl rfl) rfl ?_
    refine L_s (q_assign rfl) rfl ?_
    refine L_s (q_assign rfl) rfl ?_
    refine WPL.nil ?_
    refine WPC.seq ?_
    refine WPC.block ?_
    refine WPC.seqR ?_
    refine L_s (q_move rfl) rfl ?_
    refine L_s (q_int rfl rfl rfl) rfl ?_
    refine L_s (q_assign rfl) rfl ?_
    refine WPL.nil ?_
    refine WPC.prune [(0, _), (1, _), (6, _), (7, _), (8, _), (9, _), (25, _)] (by repeat (first | exact trivial | refine ⟨rfl, ?_⟩)) ?_
    refine WPC.cond rfl (fun h1 => ?_) (fun h1 => ?_)
    · try simp only [decide_eq_true_eq, decide_eq_false_iff_not, beq_iff_eq, bne_iff_ne, beq_eq_false_iff_ne, bne_eq_false_iff_eq, Bool.not_eq_true', Bool.not_eq_false', Bool.not_eq_eq_eq_not, Bool.not_true, Bool.not_false, ne_eq, Decidable.not_not, Int.not_lt, Int.not_le, gt_iff_lt, ge_iff_le] at h1
      simp at h1
    · skip
      refine WPC.seqR ?_
      first | refine L_s (q_faK fa_slot_record_seq rfl) rfl ?_ | refine L_s (q_fa fa_slot_record_seq rfl) rfl ?_
      first | refine L_s (q_load1z ld_uint32 rfl (by repeat (first | exact List.Mem.head _ | apply List.Mem.tail)) (by rfl)) rfl ?_ | refine L_s (q_load1 ld_uint32 rfl (by repeat (first | exact List.Mem.head _ | apply List.Mem.tail)) rfl (by rfl)) rfl ?_
      refine L_s (q_int rfl rfl rfl) rfl ?_
      refine L_s (q_assign rfl) rfl ?_
      refine WPL.nil ?_
      refine WPC.cond rfl (fun h2 => ?_) (fun h2 => ?_)
      · have h2 : (last d i).seq = 4294967295 := by simp at h2; omega
        have ep : put d i xs = (d, 42) := by unfold put; rw [if_neg (by rw [hr]; simp), if_neg (by omega), if_pos h2]
        rw [ep]
        refine WPC.seqR ?_
        refine L_s (q_assign rfl) rfl ?_
        refine WPL.nil ?_
        refine WPC.ret ?_
        refine blockQ_r ?_
        refine thenQ_r ?_
        exact endR_r rfl (.tmp rfl .nil) (Imp.pick (by repeat (first | exact Pick.nil | apply Pick.keep (by repeat (first | exact List.Mem.head _ | apply List.Mem.tail)) (by first | exact Pers.cells _ _ _ | exact Pers.slv _ _ _ | exact Pers.bytes _) | apply Pick.cons (by repeat (first | exact Pick1.here | apply Pick1.there))))) ⟨rfl, rfl⟩
      · have h2 : (last d i).seq ≠ 4294967295 := by simp at h2; omega
        have hse : ((last d i).seq + 1) % 4294967296 = (last d i).seq + 1 := Nat.mod_eq_of_lt (by omega)
        rw [hse] at hs2 ⊢
        have ep : put d i xs = d.sync.write (2 * i + 1 - (last d i).at_) (stamp ((last d i).seq + 1) 0 xs) := by unfold put; rw [if_neg (by rw [hr]; simp), if_neg (by omega), if_neg h2]
        rw [ep]
        refine WPC.skip ?_
        refine blockQ_n ?_
        refine thenQ_n ?_
        refine WPC.seqR ?_
        refine L_s (q_move rfl) rfl ?_
        refine WPL.cons rfl (C1.call (c_call Tryd.func32 rfl rfl rfl) (c_Sync hd (by omega)) (by repeat (first | exact Pick.nil | apply Pick.keep (by repeat (first | exact List.Mem.head _ | apply List.Mem.tail)) (by first | exact Pers.cells _ _ _ | exact Pers.slv _ _ _) | apply Pick.cons (by repeat (first | exact Pick1.here | apply Pick1.there)))) rfl ?_)
        rintro _ _ ⟨rfl, rfl⟩
        refine WPL.putS ?_
        refine WPL.nil ?_
        refine WPC.seqR ?_
        refine L_s (q_move rfl) rfl ?_
        refine L_s (q_move rfl) rfl ?_
        first | refine L_s (q_mulI rfl rfl (by omega)) rfl ?_ | refine L_s (q_int rfl rfl rfl) rfl ?_
        first | refine L_s (q_inc rfl rfl (by omega)) rfl ?_ | refine L_s (q_addI rfl rfl (by omega)) rfl ?_ | refine L_s (q_int rfl rfl rfl) rfl ?_
        first | refine L_s (q_faK fa_slot_record_at rfl) rfl ?_ | refine L_s (q_fa fa_slot_record_at rfl) rfl ?_
        first | refine L_s (q_load1z ld_int rfl (by repeat (first | exact List.Mem.head _ | apply List.Mem.tail)) (by rfl)) rfl ?_ | refine L_s (q_load1 ld_int rfl (by repeat (first | exact List.Mem.head _ | apply List.Mem.tail)) rfl (by rfl)) rfl ?_
        first | refine L_s (q_subI rfl rfl (by omega)) rfl ?_ | refine L_s (q_int rfl rfl rfl) rfl ?_
        refine L_s (q_move rfl) rfl ?_
        refine WPL.cons rfl (C1.call (c_call Tryd.func36 rfl rfl rfl) (c_Write64 hd.sync (by omega) (stamp_length hx) hs2) (by repeat (first | exact Pick.nil | apply Pick.keep (by repeat (first | exact List.Mem.head _ | apply List.Mem.tail)) (by first | exact Pers.cells _ _ _ | exact Pers.slv _ _ _) | apply Pick.cons (by repeat (first | exact Pick1.here | apply Pick1.there)))) rfl ?_)
        rintro _ _ ⟨rfl, rfl⟩
        refine WPL.putS ?_
        refine L_s (q_assign rfl) rfl ?_
        refine WPL.nil ?_
        refine WPC.ret ?_
        exact endR_r rfl (.tmp rfl .nil) (Imp.pick (by repeat (first | exact Pick.nil | apply Pick.keep (by repeat (first | exact List.Mem.head _ | apply List.Mem.tail)) (by first | exact Pers.cells _ _ _ | exact Pers.slv _ _ _ | exact Pers.bytes _) | apply Pick.cons (by repeat (first | exact Pick1.here | apply Pick1.there))))) ⟨rfl, rfl⟩

theorem c_Save {b c : Nat} {d : DK} {a : Option Addr} {i : Int} {xs : List By} (hi : 0 ≤ i ∧ i + 1 < (d.seen.length : Int)) (hd : d.ok) (hpl : d.pend.length < 900000) (hx : xs.length ≤ 43) (hs : Sok 1 a xs.length c (xs.map u8)) : Trip Tryd.prog 70 #[.pointer (some ⟨b, 0, none⟩), .int .i64 i, .slice a xs.length c] [disk b d, sl false a (xs.map u8), tblA] fun r Δ => r = .int .i64 (save d i xs).2 ∧ Δ = [disk b (save d i xs).1] := by
  have hpp := put_pend d i xs
  refine Trip.start 23 [.tmp 6] [(0, .pointer (some ⟨b, 0, none⟩)), (1, .int .i64 i), (2, .slice a xs.length c)] Tryd.func70 rfl Tryd.ntmps70 rfl ⟨rfl, rfl, rfl, trivial⟩ rfl ?_
  refine WPC.seqR ?_
  refine L_s (q_assign rfl) rfl ?_
  refine WPL.nil ?_
  refine WPC.seqR ?_
  refine L_s (q_move rfl) rfl ?_
  refine L_s (q_move rfl) rfl ?_
  refine L_s (q_move rfl) rfl ?_
  refine WPL.cons rfl (C1.call (c_call Tryd.func77 rfl rfl rfl) (c_Put hi hd hpl hx hs) (by repeat (first | exact Pick.nil | apply Pick.keep (by repeat (first | exact List.Mem.head _ | apply List.Mem.tail)) (by first | exact Pers.cells _ _ _ | exact Pers.slv _ _ _) | apply Pick.cons (by repeat (first | exact Pick1.here | apply Pick1.there)))) rfl ?_)
  rintro _ _ ⟨rfl, rfl⟩
  refine WPL.putS ?_
  refine L_s (q_assign rfl) rfl ?_
  refine WPL.nil ?_
  refine WPC.seq ?_
  refine WPC.seqR ?_
  refine L_s (q_move rfl) rfl ?_
  refine L_s (q_int rfl rfl rfl) rfl ?_
  refine WPL.nil ?_
  refine WPC.cond rfl (fun h0 => ?_) (fun h0 => ?_)
  · have h0 : (put d i xs).2 = 0 := by simpa using h0
    have ep : save d i xs = ((put d i xs).1.sync, if (put d i xs).1.sync.down then 43 else 0) := by unfold save; rw [if_pos h0]
    rw [ep]
    refine WPC.region ?_
    refine L_s (q_move rfl) rfl ?_
    refine WPL.cons rfl (C1.call (c_call Tryd.func32 rfl rfl rfl) (c_Sync (put_ok hd i xs) (by omega)) (by repeat (first | exact Pick.nil | apply Pick.keep (by repeat (first | exact List.Mem.head _ | apply List.Mem.tail)) (by first | exact Pers.cells _ _ _ | exact Pers.slv _ _ _) | apply Pick.cons (by repeat (first | exact Pick1.here | apply Pick1.there)))) rfl ?_)
    rintro _ _ ⟨rfl, rfl⟩
    refine WPL.putS ?_
    refine WPL.nil ?_
    refine thenQ_n ?_
    refine WPC.seq ?_
    refine WPC.seqR ?_
    refine L_s (q_move rfl) rfl ?_
    refine L_s (q_int rfl rfl rfl) rfl ?_
    refine L_s (q_move rfl) rfl ?_
    apply WPL.joinA (e' := [(6, _), (7, _)]) 18 21 3 rfl
    · intro g4_2
      try simp only [decide_eq_true_eq, decide_eq_false_iff_not, beq_iff_eq, bne_iff_ne, beq_eq_false_iff_ne, bne_eq_false_iff_eq, Bool.not_eq_true', Bool.not_eq_false', Bool.not_eq_eq_eq_not, Bool.not_true, Bool.not_false, ne_eq, Decidable.not_not, Int.not_lt, Int.not_le, gt_iff_lt, ge_iff_le] at g4_2
      refine L_yes rfl rfl (q_move rfl) rfl ?_
      refine L_eyes rfl rfl rfl (C1.call (c_call Tryd.func78 rfl rfl rfl) c_DownD (by repeat (first | exact Pick.nil | apply Pick.keep (by repeat (first | exact List.Mem.head _ | apply List.Mem.tail)) (by first | exact Pers.cells _ _ _ | exact Pers.slv _ _ _) | apply Pick.cons (by repeat (first | exact Pick1.here | apply Pick1.there)))) rfl ?_)
      rintro _ _ ⟨rfl, rfl⟩
      refine WPL.putS ?_
      first | refine L_s (q_pickT rfl rfl) rfl ?_ | refine L_s (q_pickF rfl rfl) rfl ?_
      first | exact WPL.jn rfl rfl (by repeat (first | exact trivial | refine ⟨rfl, ?_⟩)) | exact WPL.jnI rfl rfl (by repeat (first | exact trivial | refine ⟨rfl, ?_⟩)) (Imp.pick (by repeat (first | exact Pick.nil | apply Pick.keep (by repeat (first | exact List.Mem.head _ | apply List.Mem.tail)) (by first | exact Pers.cells _ _ _ | exact Pers.slv _ _ _) | apply Pick.cons (by repeat (first | exact Pick1.here | apply Pick1.there)))))
    · intro g4_2
      try simp only [decide_eq_true_eq, decide_eq_false_iff_not, beq_iff_eq, bne_iff_ne, beq_eq_false_iff_ne, bne_eq_false_iff_eq, Bool.not_eq_true', Bool.not_eq_false', Bool.not_eq_eq_eq_not, Bool.not_true, Bool.not_false, ne_eq, Decidable.not_not, Int.not_lt, Int.not_le, gt_iff_lt, ge_iff_le] at g4_2
      refine L_no rfl rfl rfl rfl ?_
      refine L_no rfl rfl rfl rfl ?_
      first | refine L_s (q_pickT rfl rfl) rfl ?_ | refine L_s (q_pickF rfl rfl) rfl ?_
      first | exact WPL.jn rfl rfl (by repeat (first | exact trivial | refine ⟨rfl, ?_⟩)) | exact WPL.jnI rfl rfl (by repeat (first | exact trivial | refine ⟨rfl, ?_⟩)) (Imp.pick (by repeat (first | exact Pick.nil | apply Pick.keep (by repeat (first | exact List.Mem.head _ | apply List.Mem.tail)) (by first | exact Pers.cells _ _ _ | exact Pers.slv _ _ _) | apply Pick.cons (by repeat (first | exact Pick1.here | apply Pick1.there)))))
    refine WPL.nil ?_
    refine WPC.cond rfl (fun h1 => ?_) (fun h1 => ?_)
    · have h1 : (put d i xs).1.sync.down = true := by simp at h1; exact h1.2
      rw [h1]
      refine WPC.seqR ?_
      refine L_s (q_assign rfl) rfl ?_
      refine WPL.nil ?_
      refine WPC.ret ?_
      refine thenQ_r ?_
      exact endR_r rfl (.tmp rfl .nil) (Imp.pick (by repeat (first | exact Pick.nil | apply Pick.keep (by repeat (first | exact List.Mem.head _ | apply List.Mem.tail)) (by first | exact Pers.cells _ _ _ | exact Pers.slv _ _ _ | exact Pers.bytes _) | apply Pick.cons (by repeat (first | exact Pick1.here | apply Pick1.there))))) ⟨rfl, rfl⟩
    · have h1 : (put d i xs).1.sync.down = false := by simp at h1; exact h1 h0
      rw [h1, h0]
      refine WPC.skip ?_
      refine thenQ_n ?_
      refine WPC.seqR ?_
      refine L_s (q_move rfl) rfl ?_
      refine L_s (q_assign rfl) rfl ?_
      refine WPL.nil ?_
      refine WPC.ret ?_
      exact endR_r rfl (.tmp rfl .nil) (Imp.pick (by repeat (first | exact Pick.nil | apply Pick.keep (by repeat (first | exact List.Mem.head _ | apply List.Mem.tail)) (by first | exact Pers.cells _ _ _ | exact Pers.slv _ _ _ | exact Pers.bytes _) | apply Pick.cons (by repeat (first | exact Pick1.here | apply Pick1.there))))) ⟨rfl, rfl⟩
  · have h0 : (put d i xs).2 ≠ 0 := by simpa using h0
    have ep : save d i xs = put d i xs := by unfold save; rw [if_neg h0]
    rw [ep]
    refine WPC.skip ?_
    refine thenQ_n ?_
    refine WPC.seq ?_
    refine WPC.seqR ?_
    refine L_s (q_move rfl) rfl ?_
    refine L_s (q_int rfl rfl rfl) rfl ?_
    refine L_s (q_move rfl) rfl ?_
    apply WPL.joinA (e' := [(6, _), (7, _)]) 18 21 3 rfl
    · intro g4_2
      try simp only [decide_eq_true_eq, decide_eq_false_iff_not, beq_iff_eq, bne_iff_ne, beq_eq_false_iff_ne, bne_eq_false_iff_eq, Bool.not_eq_true', Bool.not_eq_false', Bool.not_eq_eq_eq_not, Bool.not_true, Bool.not_false, ne_eq, Decidable.not_not, Int.not_lt, Int.not_le, gt_iff_lt, ge_iff_le] at g4_2
      refine L_yes rfl rfl (q_move rfl) rfl ?_
      refine L_eyes rfl rfl rfl (C1.call (c_call Tryd.func78 rfl rfl rfl) c_DownD (by repeat (first | exact Pick.nil | apply Pick.keep (by repeat (first | exact List.Mem.head _ | apply List.Mem.tail)) (by first | exact Pers.cells _ _ _ | exact Pers.slv _ _ _) | apply Pick.cons (by repeat (first | exact Pick1.here | apply Pick1.there)))) rfl ?_)
      rintro _ _ ⟨rfl, rfl⟩
      refine WPL.putS ?_
      first | refine L_s (q_pickT rfl rfl) rfl ?_ | refine L_s (q_pickF rfl rfl) rfl ?_
      first | exact WPL.jn rfl rfl (by repeat (first | exact trivial | refine ⟨rfl, ?_⟩)) | exact WPL.jnI rfl rfl (by repeat (first | exact trivial | refine ⟨rfl, ?_⟩)) (Imp.pick (by repeat (first | exact Pick.nil | apply Pick.keep (by repeat (first | exact List.Mem.head _ | apply List.Mem.tail)) (by first | exact Pers.cells _ _ _ | exact Pers.slv _ _ _) | apply Pick.cons (by repeat (first | exact Pick1.here | apply Pick1.there)))))
    · intro g4_2
      try simp only [decide_eq_true_eq, decide_eq_false_iff_not, beq_iff_eq, bne_iff_ne, beq_eq_false_iff_ne, bne_eq_false_iff_eq, Bool.not_eq_true', Bool.not_eq_false', Bool.not_eq_eq_eq_not, Bool.not_true, Bool.not_false, ne_eq, Decidable.not_not, Int.not_lt, Int.not_le, gt_iff_lt, ge_iff_le] at g4_2
      refine L_no rfl rfl rfl rfl ?_
      refine L_no rfl rfl rfl rfl ?_
      first | refine L_s (q_pickT rfl rfl) rfl ?_ | refine L_s (q_pickF rfl rfl) rfl ?_
      first | exact WPL.jn rfl rfl (by repeat (first | exact trivial | refine ⟨rfl, ?_⟩)) | exact WPL.jnI rfl rfl (by repeat (first | exact trivial | refine ⟨rfl, ?_⟩)) (Imp.pick (by repeat (first | exact Pick.nil | apply Pick.keep (by repeat (first | exact List.Mem.head _ | apply List.Mem.tail)) (by first | exact Pers.cells _ _ _ | exact Pers.slv _ _ _) | apply Pick.cons (by repeat (first | exact Pick1.here | apply Pick1.there)))))
    refine WPL.nil ?_
    refine WPC.cond rfl (fun h1 => ?_) (fun h1 => ?_)
    · skip
      simp at h1; exact absurd h1.1 h0
    · skip
      refine WPC.skip ?_
      refine thenQ_n ?_
      refine WPC.seqR ?_
      refine L_s (q_move rfl) rfl ?_
      refine L_s (q_assign rfl) rfl ?_
      refine WPL.nil ?_
      refine WPC.ret ?_
      exact endR_r rfl (.tmp rfl .nil) (Imp.pick (by repeat (first | exact Pick.nil | apply Pick.keep (by repeat (first | exact List.Mem.head _ | apply List.Mem.tail)) (by first | exact Pers.cells _ _ _ | exact Pers.slv _ _ _ | exact Pers.bytes _) | apply Pick.cons (by repeat (first | exact Pick1.here | apply Pick1.there))))) ⟨rfl, rfl⟩

end Go.Sl
