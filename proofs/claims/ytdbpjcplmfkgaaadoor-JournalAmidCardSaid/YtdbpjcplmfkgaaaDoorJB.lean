/- Walks: readers, sums. -/
import Derived.Test.YtdbpjcplmfkgaaaDoorJA
namespace Go.Sl
open Go Go.RowKit Go.Proofs
set_option linter.unusedSimpArgs false
set_option linter.unusedVariables false
attribute [local irreducible] faB szB ldB zB zL slB mkB arB plB intB cells objc star stars buf slv grp whole Sat WPC WPL WPA WPO Trip

theorem c_RNumber {b o k : Nat} {xs : List By} {sh : Bool} (hk : 1 ≤ k ∧ k ≤ 8) (hx : xs.length < 1000000) : Trip Tryd.prog 66 #[.pointer (some ⟨b, o, none⟩), .int .i64 (k : Int)] [rd b o xs sh] fun r Δ => r = .int .u64 ((ofLE (rtake xs sh k).1 : Nat) : Int) ∧ Δ = [rd b o (rtake xs sh k).2.1 (rtake xs sh k).2.2] := by
  refine Trip.start 38 [.tmp 4] [(0, .pointer (some ⟨b, o, none⟩)), (1, .int .i64 (k : Int))] Tryd.func66 rfl Tryd.ntmps66 rfl ⟨rfl, rfl, trivial⟩ rfl ?_
  refine WPC.seqR ?_
  refine L_s (q_assign rfl) rfl ?_
  refine WPL.nil ?_
  refine WPC.seq ?_
  refine WPC.seqR ?_
  refine L_s (q_move rfl) rfl ?_
  refine L_s (q_int rfl rfl rfl) rfl ?_
  refine L_s (q_move rfl) rfl ?_
  apply WPL.joinO (e' := [(0, _), (1, _), (4, _)]) 10 13 3 rfl
  · intro g1_2
    try simp only [decide_eq_true_eq, decide_eq_false_iff_not, beq_iff_eq, bne_iff_ne, beq_eq_false_iff_ne, bne_eq_false_iff_eq, Bool.not_eq_true', Bool.not_eq_false', Bool.not_eq_eq_eq_not, Bool.not_true, Bool.not_false, ne_eq, Decidable.not_not, Int.not_lt, Int.not_le, gt_iff_lt, ge_iff_le] at g1_2
    refine L_no rfl rfl rfl rfl ?_
    refine L_no rfl rfl rfl rfl ?_
    first | refine L_s (q_pickT rfl rfl) rfl ?_ | refine L_s (q_pickF rfl rfl) rfl ?_
    first | exact WPL.jn rfl rfl (by repeat (first | exact trivial | refine ⟨rfl, ?_⟩)) | exact WPL.jnI rfl rfl (by repeat (first | exact trivial | refine ⟨rfl, ?_⟩)) (Imp.pick (by repeat (first | exact Pick.nil | apply Pick.keep (by repeat (first | exact List.Mem.head _ | apply List.Mem.tail)) (by first | exact Pers.cells _ _ _ | exact Pers.slv _ _ _) | apply Pick.cons (by repeat (first | exact Pick1.here | apply Pick1.there)))))
  · intro g1_2
    try simp only [decide_eq_true_eq, decide_eq_false_iff_not, beq_iff_eq, bne_iff_ne, beq_eq_false_iff_ne, bne_eq_false_iff_eq, Bool.not_eq_true', Bool.not_eq_false', Bool.not_eq_eq_eq_not, Bool.not_true, Bool.not_false, ne_eq, Decidable.not_not, Int.not_lt, Int.not_le, gt_iff_lt, ge_iff_le] at g1_2
    refine L_yes rfl rfl (q_move rfl) rfl ?_
    refine L_yes rfl rfl (q_int rfl rfl rfl) rfl ?_
    first | refine L_s (q_pickT rfl rfl) rfl ?_ | refine L_s (q_pickF rfl rfl) rfl ?_
    first | exact WPL.jn rfl rfl (by repeat (first | exact trivial | refine ⟨rfl, ?_⟩)) | exact WPL.jnI rfl rfl (by repeat (first | exact trivial | refine ⟨rfl, ?_⟩)) (Imp.pick (by repeat (first | exact Pick.nil | apply Pick.keep (by repeat (first | exact List.Mem.head _ | apply List.Mem.tail)) (by first | exact Pers.cells _ _ _ | exact Pers.slv _ _ _) | apply Pick.cons (by repeat (first | exact Pick1.here | apply Pick1.there)))))
  refine WPL.nil ?_
  refine WPC.cond rfl (fun h0 => ?_) (fun h0 => ?_)
  · try simp only [decide_eq_true_eq, decide_eq_false_iff_not, beq_iff_eq, bne_iff_ne, beq_eq_false_iff_ne, bne_eq_false_iff_eq, Bool.not_eq_true', Bool.not_eq_false', Bool.not_eq_eq_eq_not, Bool.not_true, Bool.not_false, ne_eq, Decidable.not_not, Int.not_lt, Int.not_le, gt_iff_lt, ge_iff_le] at h0
    simp only [Bool.or_eq_true, decide_eq_true_eq] at h0
    omega
  · skip
    refine WPC.skip ?_
    refine thenQ_n ?_
    refine WPC.seqR ?_
    refine L_s (q_assign rfl) rfl ?_
    refine WPL.nil ?_
    refine WPC.seq ?_
    refine WPC.seqR ?_
    refine L_s (q_move rfl) rfl ?_
    refine L_s (q_move rfl) rfl ?_
    refine WPL.cons rfl (C1.call (c_call Tryd.func76 rfl rfl rfl) (c_take (by omega) hx) (by repeat (first | exact Pick.nil | apply Pick.keep (by repeat (first | exact List.Mem.head _ | apply List.Mem.tail)) (by first | exact Pers.cells _ _ _ | exact Pers.slv _ _ _) | apply Pick.cons (by repeat (first | exact Pick1.here | apply Pick1.there)))) rfl ?_)
    rintro _ _ ⟨a, c, rfl, hs, rfl⟩
    have hl8 := rtake_len xs sh k
    have hn : (rtake xs sh k).1.length < 1000000 := by omega
    refine WPL.putS ?_
    refine L_s (q_len rfl un_sl_uint8 rfl) rfl ?_
    refine L_s (q_move rfl) rfl ?_
    refine WPL.nil ?_
    refine WPC.block ?_
    refine WPC.loopS (fun m e Γ => ∃ i : Nat, m = (rtake xs sh k).1.length - i ∧ i ≤ (rtake xs sh k).1.length ∧ e = [(5, .int .u64 ((ofLE ((rtake xs sh k).1.take i) : Nat) : Int)), (22, .slice a (rtake xs sh k).1.length c), (23, .int .i64 ((rtake xs sh k).1.length : Int)), (24, .int .i64 (i : Int))] ∧ Γ = [rd b o (rtake xs sh k).2.1 (rtake xs sh k).2.2, sl false a ((rtake xs sh k).1.map u8)]) ((rtake xs sh k).1.length) ⟨0, rfl, by omega, rfl, rfl⟩ (by repeat (first | exact trivial | refine ⟨rfl, ?_⟩)) (Imp.pick (by repeat (first | exact Pick.nil | apply Pick.keep (by repeat (first | exact List.Mem.head _ | apply List.Mem.tail)) (by first | exact Pers.cells _ _ _ | exact Pers.slv _ _ _) | apply Pick.cons (by repeat (first | exact Pick1.here | apply Pick1.there))))) ?_
    rintro m e Γ ⟨i, rfl, hi, rfl, rfl⟩
    refine WPC.seqR ?_
    refine L_s (q_int rfl rfl rfl) rfl ?_
    refine WPL.nil ?_
    refine WPC.seq ?_
    refine WPC.cond rfl (fun h1 => ?_) (fun h1 => ?_)
    · simp only [decide_eq_true_eq, Int.ofNat_lt] at h1
      have hp : Pl a := hs.at (by omega) (by omega)
      obtain ⟨x, hx⟩ : ∃ x, (rtake xs sh k).1[i]? = some x := ⟨(rtake xs sh k).1[i]'h1, by simp⟩
      have hx2 := x.2
      have hpow := pow_bound (i := i) (by omega)
      have hA := ofLE_lt ((rtake xs sh k).1.take i)
      rw [List.length_take, Nat.min_eq_left hi] at hA
      have hB := Nat.mul_le_mul (show x.val ≤ 255 by omega) hpow
      have hor := or_add (b := x.val) hA
      rw [← ofLE_take_succ hx] at hor
      refine WPC.skip ?_
      refine thenQ_n ?_
      refine WPC.seq ?_
      refine WPC.block ?_
      refine WPC.seqR ?_
      refine L_s (q_move rfl) rfl ?_
      first | refine L_s (q_idxN sl_sl_uint8 rfl rfl (by omega) (by assumption)) rfl ?_ | refine L_s (q_idx sl_sl_uint8 rfl rfl (by omega) (by omega) (by assumption)) rfl ?_
      refine L_s (q_ldMap ld_uint8 rfl (by repeat (first | exact List.Mem.head _ | apply List.Mem.tail)) hx) rfl ?_
      refine L_s (q_assign rfl) rfl ?_
      refine L_s (q_assign rfl) rfl ?_
      refine WPL.nil ?_
      refine WPC.region ?_
      refine L_s (q_move rfl) rfl ?_
      refine L_s (q_move rfl) rfl ?_
      first | refine L_s (q_convU in_uint8 in_uint64 rfl (by omega)) rfl ?_ | refine L_s (q_conv in_uint8 in_uint64 rfl) rfl ?_
      refine L_s (q_move rfl) rfl ?_
      refine L_s (q_mulN (a := 8) (b := i) rfl rfl (by omega)) rfl ?_
      refine L_s (q_shlN (a := x.val) (b := 8 * i) rfl rfl rfl (show 8 * i < 64 by omega) (show _ < 18446744073709551616 by omega)) rfl ?_
      refine L_s (q_orN (a := ofLE ((rtake xs sh k).1.take i)) (b := x.val * 2 ^ (8 * i)) rfl rfl rfl (show _ < 18446744073709551616 by omega) (show _ < 18446744073709551616 by omega)) rfl ?_
      rw [hor]
      refine L_s (q_assign rfl) rfl ?_
      refine WPL.nil ?_
      refine blockQ_n ?_
      refine thenQ_n ?_
      refine WPC.region ?_
      first | refine L_s (q_inc rfl rfl (by omega)) rfl ?_ | refine L_s (q_addI rfl rfl (by omega)) rfl ?_ | refine L_s (q_int rfl rfl rfl) rfl ?_
      refine L_s (q_move rfl) rfl ?_
      refine WPL.nil ?_
      refine thenQ_n ?_
      exact ⟨rfl, _, _, _, by omega, ⟨i + 1, rfl, by omega, rfl, rfl⟩, (by repeat (first | exact trivial | refine ⟨rfl, ?_⟩)), Imp.pick (by repeat (first | exact Pick.nil | apply Pick.keep (by repeat (first | exact List.Mem.head _ | apply List.Mem.tail)) (by first | exact Pers.cells _ _ _ | exact Pers.slv _ _ _) | apply Pick.cons (by repeat (first | exact Pick1.here | apply Pick1.there))))⟩
    · simp only [decide_eq_false_iff_not, Int.ofNat_lt] at h1
      refine WPC.exit ?_
      refine thenQ_e ?_
      refine thenQ_e ?_
      refine blockQ_here ?_
      refine thenQ_n ?_
      refine WPC.seqR ?_
      refine L_s (q_move rfl) rfl ?_
      refine L_s (q_assign rfl) rfl ?_
      refine WPL.nil ?_
      refine WPC.ret ?_
      exact endR_r rfl (.tmp rfl .nil) (Imp.pick (by repeat (first | exact Pick.nil | apply Pick.keep (by repeat (first | exact List.Mem.head _ | apply List.Mem.tail)) (by first | exact Pers.cells _ _ _ | exact Pers.slv _ _ _ | exact Pers.bytes _) | apply Pick.cons (by repeat (first | exact Pick1.here | apply Pick1.there))))) ⟨by simp only [packV]; rw [List.take_of_length_le (by omega)], rfl⟩

theorem c_REnd {b o : Nat} {xs : List By} {sh : Bool} : Trip Tryd.prog 67 #[.pointer (some ⟨b, o, none⟩)] [rd b o xs sh] fun r Δ => ∃ v : Int, r = .int .i64 v ∧ (v = 0 ↔ sh = false ∧ xs = []) ∧ Δ = [rd b o xs sh] := by
  refine rd_open fun a c hs => ?_
  refine Trip.start 15 [.tmp 2] [(0, .pointer (some ⟨b, o, none⟩))] Tryd.func67 rfl Tryd.ntmps67 rfl ⟨rfl, trivial⟩ rfl ?_
  refine WPC.seqR ?_
  refine L_s (q_assign rfl) rfl ?_
  refine WPL.nil ?_
  refine WPC.seq ?_
  refine WPC.block ?_
  refine WPC.seqR ?_
  refine L_s (q_move rfl) rfl ?_
  first | refine L_s (q_nilP rfl) rfl ?_ | refine L_s (q_nilF rfl) rfl ?_
  first | refine L_s (q_faK fa_pack_Reader_shut rfl) rfl ?_ | refine L_s (q_fa fa_pack_Reader_shut rfl) rfl ?_
  first | refine L_s (q_load1z ld_bool rfl (by repeat (first | exact List.Mem.head _ | apply List.Mem.tail)) (by rfl)) rfl ?_ | refine L_s (q_load1 ld_bool rfl (by repeat (first | exact List.Mem.head _ | apply List.Mem.tail)) rfl (by rfl)) rfl ?_
  refine L_s (q_assign rfl) rfl ?_
  refine WPL.nil ?_
  refine WPC.cond rfl (fun h0 => ?_) (fun h0 => ?_)
  · subst h0
    refine WPC.seqR ?_
    refine L_s (q_assign rfl) rfl ?_
    refine WPL.nil ?_
    refine WPC.ret ?_
    refine blockQ_r ?_
    refine thenQ_r ?_
    exact endR_r rfl (.tmp rfl .nil) ((Imp.pick (by repeat (first | exact Pick.nil | apply Pick.keep (by repeat (first | exact List.Mem.head _ | apply List.Mem.tail)) (by first | exact Pers.cells _ _ _ | exact Pers.slv _ _ _ | exact Pers.bytes _) | apply Pick.cons (by repeat (first | exact Pick1.here | apply Pick1.there))))).trans (rd_close a xs.length c hs (Γ := []))) ⟨10, rfl, by simp, rfl⟩
  · subst h0
    refine WPC.seqR ?_
    refine L_s (q_move rfl) rfl ?_
    first | refine L_s (q_nilP rfl) rfl ?_ | refine L_s (q_nilF rfl) rfl ?_
    first | refine L_s (q_faK fa_pack_Reader_b rfl) rfl ?_ | refine L_s (q_fa fa_pack_Reader_b rfl) rfl ?_
    first | refine L_s (q_load1z ld_sl_uint8 rfl (by repeat (first | exact List.Mem.head _ | apply List.Mem.tail)) (by rfl)) rfl ?_ | refine L_s (q_load1 ld_sl_uint8 rfl (by repeat (first | exact List.Mem.head _ | apply List.Mem.tail)) rfl (by rfl)) rfl ?_
    refine L_s (q_len rfl un_sl_uint8 rfl) rfl ?_
    refine L_s (q_int rfl rfl rfl) rfl ?_
    refine L_s (q_assign rfl) rfl ?_
    refine WPL.nil ?_
    refine WPC.cond rfl (fun h1 => ?_) (fun h1 => ?_)
    · simp at h1
      refine WPC.seqR ?_
      refine L_s (q_assign rfl) rfl ?_
      refine WPL.nil ?_
      refine WPC.ret ?_
      refine blockQ_r ?_
      refine thenQ_r ?_
      exact endR_r rfl (.tmp rfl .nil) ((Imp.pick (by repeat (first | exact Pick.nil | apply Pick.keep (by repeat (first | exact List.Mem.head _ | apply List.Mem.tail)) (by first | exact Pers.cells _ _ _ | exact Pers.slv _ _ _ | exact Pers.bytes _) | apply Pick.cons (by repeat (first | exact Pick1.here | apply Pick1.there))))).trans (rd_close a xs.length c hs (Γ := []))) ⟨11, rfl, by simp; intro h; simp [h] at h1, rfl⟩
    · have h1 : xs = [] := List.eq_nil_of_length_eq_zero (by simp at h1; simpa using h1)
      subst h1
      refine WPC.skip ?_
      refine blockQ_n ?_
      refine thenQ_n ?_
      refine WPC.seqR ?_
      refine L_s (q_assign rfl) rfl ?_
      refine WPL.nil ?_
      refine WPC.ret ?_
      exact endR_r rfl (.tmp rfl .nil) ((Imp.pick (by repeat (first | exact Pick.nil | apply Pick.keep (by repeat (first | exact List.Mem.head _ | apply List.Mem.tail)) (by first | exact Pers.cells _ _ _ | exact Pers.slv _ _ _ | exact Pers.bytes _) | apply Pick.cons (by repeat (first | exact Pick1.here | apply Pick1.there))))).trans (rd_close a _ c hs (Γ := []))) ⟨0, rfl, by simp, rfl⟩

theorem c_Sum {p : Bool} {a : Option Addr} {n c : Nat} {xs : List By} (hs : Sok 1 a n c (xs.map u8)) (hn : n < 1000000) : Trip Tryd.prog 61 #[.slice a n c] [sl p a (xs.map u8), tblA] fun r Δ => r = .int .u32 ((crc xs : Nat) : Int) ∧ Δ = [sl p a (xs.map u8)] := by
  have hl : xs.length = n := by have := hs.len; simpa using this
  refine Trip.start 33 [.tmp 2] [(0, .slice a n c)] Tryd.func61 rfl Tryd.ntmps61 rfl ⟨rfl, trivial⟩ rfl ?_
  refine WPC.seqR ?_
  refine L_s (q_assign rfl) rfl ?_
  refine WPL.nil ?_
  refine WPC.seqR ?_
  refine L_s (q_assign rfl) rfl ?_
  refine WPL.nil ?_
  refine WPC.seq ?_
  refine WPC.seqR ?_
  refine L_s (q_move rfl) rfl ?_
  refine L_s (q_len rfl un_sl_uint8 rfl) rfl ?_
  refine L_s (q_move rfl) rfl ?_
  refine WPL.nil ?_
  refine WPC.block ?_
  refine WPC.loopS (fun m e Γ => ∃ k : Nat, m = n - k ∧ k ≤ n ∧ e = [(3, .int .u32 ((((xs.take k).foldl crcStep 4294967295) : Nat) : Int)), (6, .slice a n c), (7, .int .i64 (n : Int)), (8, .int .i64 (k : Int))] ∧ Γ = [sl p a (xs.map u8), tblA]) (n) ⟨0, rfl, by omega, rfl, rfl⟩ (by repeat (first | exact trivial | refine ⟨rfl, ?_⟩)) (Imp.pick (by repeat (first | exact Pick.nil | apply Pick.keep (by repeat (first | exact List.Mem.head _ | apply List.Mem.tail)) (by first | exact Pers.cells _ _ _ | exact Pers.slv _ _ _) | apply Pick.cons (by repeat (first | exact Pick1.here | apply Pick1.there))))) ?_
  rintro m e Γ ⟨k, rfl, hk, rfl, rfl⟩
  refine WPC.seqR ?_
  refine L_s (q_int rfl rfl rfl) rfl ?_
  refine WPL.nil ?_
  refine WPC.seq ?_
  refine WPC.cond rfl (fun h0 => ?_) (fun h0 => ?_)
  · simp only [decide_eq_true_eq, Int.ofNat_lt] at h0
    have hp : Pl a := hs.at (by omega) (by omega)
    obtain ⟨x, hx⟩ : ∃ x, xs[k]? = some x := ⟨xs[k]'(by omega), by simp⟩
    have hx2 : x.val < 4294967296 := by omega
    have hS : ((xs.take k).foldl crcStep 4294967295) < 4294967296 := fold_lt _ (by omega)
    have hS1 := xor32 hS hx2
    obtain ⟨e1, he1, hb1, hc1⟩ := tbl_get (((xs.take k).foldl crcStep 4294967295) ^^^ x.val)
    have hS2 := cstep_lt hS1
    obtain ⟨e2, he2, hb2, hc2⟩ := tbl_get (cstep (((xs.take k).foldl crcStep 4294967295) ^^^ x.val))
    have hS3 := cstep_lt hS2
    have hd1 : (((xs.take k).foldl crcStep 4294967295) ^^^ x.val) / 2 ^ 4 < 4294967296 := by omega
    have hd2 : cstep (((xs.take k).foldl crcStep 4294967295) ^^^ x.val) / 2 ^ 4 < 4294967296 := by omega
    have hstep := fold_take_succ hx 4294967295
    refine WPC.skip ?_
    refine thenQ_n ?_
    refine WPC.seq ?_
    refine WPC.block ?_
    refine WPC.seqR ?_
    first | refine L_s (q_idxN sl_sl_uint8 rfl rfl (by omega) (by assumption)) rfl ?_ | refine L_s (q_idx sl_sl_uint8 rfl rfl (by omega) (by omega) (by assumption)) rfl ?_
    refine L_s (q_ldMap ld_uint8 rfl (by repeat (first | exact List.Mem.head _ | apply List.Mem.tail)) hx) rfl ?_
    refine L_s (q_assign rfl) rfl ?_
    refine WPL.nil ?_
    refine WPC.seqR ?_
    refine L_s (q_move rfl) rfl ?_
    refine L_s (q_move rfl) rfl ?_
    first | refine L_s (q_conv32 in_uint8 in_uint32 rfl (by omega)) rfl ?_ | refine L_s (q_conv in_uint8 in_uint32 rfl) rfl ?_
    refine L_s (q_xorN (a := ((xs.take k).foldl crcStep 4294967295)) (b := x.val) rfl rfl rfl (show _ < 4294967296 from hS) (show _ < 4294967296 from hx2)) rfl ?_
    refine L_s (q_assign rfl) rfl ?_
    refine WPL.nil ?_
    refine WPC.seqR ?_
    refine L_s (q_move rfl) rfl ?_
    refine L_s (q_shrN (a := ((xs.take k).foldl crcStep 4294967295) ^^^ x.val) (b := 4) rfl rfl (show 4 < 32 by omega)) rfl ?_
    refine L_s (q_move rfl) rfl ?_
    refine L_s (q_andN (a := ((xs.take k).foldl crcStep 4294967295) ^^^ x.val) (b := 15) rfl rfl rfl (show _ < 4294967296 from hS1) (show 15 < 4294967296 by omega)) rfl ?_
    refine L_s (q_idxAN (i := (((xs.take k).foldl crcStep 4294967295) ^^^ x.val) &&& 15) ar_arr16_uint32 rfl rfl (and15 _)) rfl ?_
    refine L_s (q_ldMap ld_uint32 rfl (by repeat (first | exact List.Mem.head _ | apply List.Mem.tail)) he1) rfl ?_
    refine L_s (q_xorN (a := (((xs.take k).foldl crcStep 4294967295) ^^^ x.val) / 2 ^ 4) (b := e1) rfl rfl rfl (show _ < 4294967296 from hd1) (show _ < 4294967296 from hb1)) rfl ?_
    rw [← hc1]
    refine L_s (q_assign rfl) rfl ?_
    refine WPL.nil ?_
    refine WPC.region ?_
    refine L_s (q_move rfl) rfl ?_
    refine L_s (q_shrN (a := cstep (((xs.take k).foldl crcStep 4294967295) ^^^ x.val)) (b := 4) rfl rfl (show 4 < 32 by omega)) rfl ?_
    refine L_s (q_move rfl) rfl ?_
    refine L_s (q_andN (a := cstep (((xs.take k).foldl crcStep 4294967295) ^^^ x.val)) (b := 15) rfl rfl rfl (show _ < 4294967296 from hS2) (show 15 < 4294967296 by omega)) rfl ?_
    refine L_s (q_idxAN (i := cstep (((xs.take k).foldl crcStep 4294967295) ^^^ x.val) &&& 15) ar_arr16_uint32 rfl rfl (and15 _)) rfl ?_
    refine L_s (q_ldMap ld_uint32 rfl (by repeat (first | exact List.Mem.head _ | apply List.Mem.tail)) he2) rfl ?_
    refine L_s (q_xorN (a := cstep (((xs.take k).foldl crcStep 4294967295) ^^^ x.val) / 2 ^ 4) (b := e2) rfl rfl rfl (show _ < 4294967296 from hd2) (show _ < 4294967296 from hb2)) rfl ?_
    rw [← hc2, show cstep (cstep (((xs.take k).foldl crcStep 4294967295) ^^^ x.val)) = (xs.take (k + 1)).foldl crcStep 4294967295 from hstep.symm]
    refine L_s (q_assign rfl) rfl ?_
    refine WPL.nil ?_
    refine blockQ_n ?_
    refine thenQ_n ?_
    refine WPC.region ?_
    first | refine L_s (q_inc rfl rfl (by omega)) rfl ?_ | refine L_s (q_addI rfl rfl (by omega)) rfl ?_ | refine L_s (q_int rfl rfl rfl) rfl ?_
    refine L_s (q_move rfl) rfl ?_
    refine WPL.nil ?_
    refine thenQ_n ?_
    exact ⟨rfl, _, _, _, by omega, ⟨k + 1, rfl, by omega, rfl, rfl⟩, (by repeat (first | exact trivial | refine ⟨rfl, ?_⟩)), Imp.pick (by repeat (first | exact Pick.nil | apply Pick.keep (by repeat (first | exact List.Mem.head _ | apply List.Mem.tail)) (by first | exact Pers.cells _ _ _ | exact Pers.slv _ _ _) | apply Pick.cons (by repeat (first | exact Pick1.here | apply Pick1.there))))⟩
  · simp only [decide_eq_false_iff_not, Int.ofNat_lt] at h0
    have hk' : xs.length ≤ k := by omega
    refine WPC.exit ?_
    refine thenQ_e ?_
    refine thenQ_e ?_
    refine blockQ_here ?_
    refine thenQ_n ?_
    refine WPC.seqR ?_
    refine L_s (q_move rfl) rfl ?_
    refine L_s (q_comN (a := ((xs.take k).foldl crcStep 4294967295)) rfl rfl (show _ < 4294967296 from fold_lt _ (by omega))) rfl ?_
    refine L_s (q_assign rfl) rfl ?_
    refine WPL.nil ?_
    refine WPC.ret ?_
    rw [List.take_of_length_le hk']
    exact endR_r rfl (.tmp rfl .nil) (Imp.pick (by repeat (first | exact Pick.nil | apply Pick.keep (by repeat (first | exact List.Mem.head _ | apply List.Mem.tail)) (by first | exact Pers.cells _ _ _ | exact Pers.slv _ _ _ | exact Pers.bytes _) | apply Pick.cons (by repeat (first | exact Pick1.here | apply Pick1.there))))) ⟨rfl, rfl⟩

theorem c_Grow {m : Nat} (hm : m < 1000000) : Trip Tryd.prog 74 #[.slice none 0 0, .int .i64 (m : Int)] [] fun r Δ => ∃ a c, r = .slice a 0 c ∧ Δ = [buf 1 a 0 c []] := by
  refine Trip.start 27 [.tmp 4] [(0, .slice none 0 0), (1, .int .i64 (m : Int))] Tryd.func74 rfl Tryd.ntmps74 rfl ⟨rfl, rfl, trivial⟩ rfl ?_
  refine WPC.seqR ?_
  refine L_s (q_assign rfl) rfl ?_
  refine WPL.nil ?_
  refine WPC.seq ?_
  refine WPC.seqR ?_
  refine L_s (q_move rfl) rfl ?_
  refine L_s (q_int rfl rfl rfl) rfl ?_
  refine WPL.nil ?_
  refine WPC.cond rfl (fun h0 => ?_) (fun h0 => ?_)
  · try simp only [decide_eq_true_eq, decide_eq_false_iff_not, beq_iff_eq, bne_iff_ne, beq_eq_false_iff_ne, bne_eq_false_iff_eq, Bool.not_eq_true', Bool.not_eq_false', Bool.not_eq_eq_eq_not, Bool.not_true, Bool.not_false, ne_eq, Decidable.not_not, Int.not_lt, Int.not_le, gt_iff_lt, ge_iff_le] at h0
    omega
  · skip
    refine WPC.skip ?_
    refine thenQ_n ?_
    refine WPC.seq ?_
    refine WPC.seqR ?_
    refine L_s (q_move rfl) rfl ?_
    refine L_s (q_move rfl) rfl ?_
    refine L_s (q_cap rfl un_sl_uint8 rfl) rfl ?_
    refine L_s (q_move rfl) rfl ?_
    refine L_s (q_len rfl un_sl_uint8 rfl) rfl ?_
    first | refine L_s (q_subI rfl rfl (by omega)) rfl ?_ | refine L_s (q_int rfl rfl rfl) rfl ?_
    first | refine L_s (q_subI rfl rfl (by omega)) rfl ?_ | refine L_s (q_int rfl rfl rfl) rfl ?_
    rw [show (m : Int) - (((0 : Nat) : Int) - ((0 : Nat) : Int)) = (m : Int) by simp]
    refine L_s (q_assign rfl) rfl ?_
    refine WPL.nil ?_
    refine WPC.seqR ?_
    refine L_s (q_move rfl) rfl ?_
    refine L_s (q_int rfl rfl rfl) rfl ?_
    refine WPL.nil ?_
    refine WPC.midS (fun e Γ => ∃ a c, e = [(0, .slice a 0 c)] ∧ Γ = [buf 1 a 0 c []]) ?_ ?_
    · refine WPC.cond rfl (fun h1 => ?_) (fun h1 => ?_)
      · simp only [decide_eq_true_eq] at h1
        refine WPC.region ?_
        refine L_s (q_move rfl) rfl ?_
        refine L_s (q_move rfl) rfl ?_
        refine L_s (q_cap rfl un_sl_uint8 rfl) rfl ?_
        refine L_s (q_sliceHi (j := 0) sl_sl_uint8 rfl rfl (by omega)) rfl ?_
        refine L_s (q_move rfl) rfl ?_
        refine WPL.cons rfl (E1.wpo (e_grow (m := m) mk_sl_uint8 (un_int) (by decide) rfl rfl (by omega) (by omega) (by omega)) rfl ?_)
        rintro _ _ ⟨bg, cg, rfl, hcg, rfl⟩
        refine WPL.putS ?_
        refine L_s (q_move rfl) rfl ?_
        refine L_s (q_len rfl un_sl_uint8 rfl) rfl ?_
        refine L_s (q_sliceHi (j := 0) sl_sl_uint8 rfl rfl (by omega)) rfl ?_
        refine L_s (q_assign rfl) rfl ?_
        refine WPL.nil ?_
        refine thenQ_n ?_
        exact ⟨rfl, _, _, ⟨_, _, rfl, rfl⟩, (by repeat (first | exact trivial | refine ⟨rfl, ?_⟩)), Imp.pick (by repeat (first | exact Pick.nil | apply Pick.keep (by repeat (first | exact List.Mem.head _ | apply List.Mem.tail)) (by first | exact Pers.cells _ _ _ | exact Pers.slv _ _ _) | apply Pick.cons (by repeat (first | exact Pick1.here | apply Pick1.there))))⟩
      · refine WPC.imp (Imp.bufNil (sz := 1)) ?_
        refine WPC.skip ?_
        refine thenQ_n ?_
        exact ⟨rfl, _, _, ⟨none, 0, rfl, rfl⟩, (by repeat (first | exact trivial | refine ⟨rfl, ?_⟩)), Imp.pick (by repeat (first | exact Pick.nil | apply Pick.keep (by repeat (first | exact List.Mem.head _ | apply List.Mem.tail)) (by first | exact Pers.cells _ _ _ | exact Pers.slv _ _ _) | apply Pick.cons (by repeat (first | exact Pick1.here | apply Pick1.there))))⟩
    · rintro e Γ ⟨a, c, rfl, rfl⟩
      refine WPC.seqR ?_
      refine L_s (q_move rfl) rfl ?_
      refine L_s (q_assign rfl) rfl ?_
      refine WPL.nil ?_
      refine WPC.ret ?_
      exact endR_r rfl (.tmp rfl .nil) (Imp.pick (by repeat (first | exact Pick.nil | apply Pick.keep (by repeat (first | exact List.Mem.head _ | apply List.Mem.tail)) (by first | exact Pers.cells _ _ _ | exact Pers.slv _ _ _ | exact Pers.bytes _) | apply Pick.cons (by repeat (first | exact Pick1.here | apply Pick1.there))))) ⟨a, c, rfl, rfl⟩

end Go.Sl
