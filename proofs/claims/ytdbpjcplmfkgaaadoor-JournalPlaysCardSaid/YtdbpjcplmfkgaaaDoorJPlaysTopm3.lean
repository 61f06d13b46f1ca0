/- Texts of this claim, merged: JB, JC, JD, JE, JF, JG, JH, JI, JJ, JK, JL, JM. -/
import Derived.Test.YtdbpjcplmfkgaaaDoorJPlaysTopm2
/- Walks: readers, sums. -/
namespace Go.Sl
open Go Go.RowKit Go.Proofs
set_option linter.unusedSimpArgs false
set_option linter.unusedVariables false
attribute [local irreducible] faB szB ldB zB zL slB mkB arB plB intB cells objc star stars buf slv grp whole Sat WPC WPL WPA WPO WPQ Trip Q1 E1 S1 C1

theorem c_RNumber {b o k : Nat} {xs : List By} {sh : Bool} (hk : 1 ≤ k ∧ k ≤ 8) (hx : xs.length < 1000000) : Trip Tryd.prog 66 #[.pointer (some ⟨b, o, none⟩), .int .i64 (k : Int)] [rd b o xs sh] fun r Δ => r = .int .u64 ((ofLE (rtake xs sh k).1 : Nat) : Int) ∧ Δ = [rd b o (rtake xs sh k).2.1 (rtake xs sh k).2.2] := by
  refine Trip.start 38 [.tmp 4] [(0, .pointer (some ⟨b, o, none⟩)), (1, .int .i64 (k : Int))] Tryd.func66 rfl Tryd.ntmps66 rfl ⟨rfl, rfl, trivial⟩ rfl ?_
  refine WPC.seqR ?_
  refine stp ?_
  refine WPL.nil ?_
  refine WPC.seq ?_
  refine WPC.seqR ?_
  iterate 3 refine stp ?_
  apply WPL.joinO (e' := [(0, _), (1, _), (4, _)]) 10 13 3 rfl
  · intro g1_2
    try simp only [decide_eq_true_eq, decide_eq_false_iff_not, beq_iff_eq, bne_iff_ne, beq_eq_false_iff_ne, bne_eq_false_iff_eq, Bool.not_eq_true', Bool.not_eq_false', Bool.not_eq_eq_eq_not, Bool.not_true, Bool.not_false, ne_eq, Decidable.not_not, Int.not_lt, Int.not_le, gt_iff_lt, ge_iff_le] at g1_2
    refine L_no rfl rfl rfl rfl ?_
    refine L_no rfl rfl rfl rfl ?_
    refine stp ?_
    first | exact WPL.jn rfl rfl sbb | exact WPL.jnI rfl rfl sbb Imp.pk
  · intro g1_2
    try simp only [decide_eq_true_eq, decide_eq_false_iff_not, beq_iff_eq, bne_iff_ne, beq_eq_false_iff_ne, bne_eq_false_iff_eq, Bool.not_eq_true', Bool.not_eq_false', Bool.not_eq_eq_eq_not, Bool.not_true, Bool.not_false, ne_eq, Decidable.not_not, Int.not_lt, Int.not_le, gt_iff_lt, ge_iff_le] at g1_2
    iterate 2 refine stpY rfl rfl ?_
    refine stp ?_
    first | exact WPL.jn rfl rfl sbb | exact WPL.jnI rfl rfl sbb Imp.pk
  refine WPL.nil ?_
  refine WPC.cond rfl (fun h0 => ?_) (fun h0 => ?_)
  · try simp only [decide_eq_true_eq, decide_eq_false_iff_not, beq_iff_eq, bne_iff_ne, beq_eq_false_iff_ne, bne_eq_false_iff_eq, Bool.not_eq_true', Bool.not_eq_false', Bool.not_eq_eq_eq_not, Bool.not_true, Bool.not_false, ne_eq, Decidable.not_not, Int.not_lt, Int.not_le, gt_iff_lt, ge_iff_le] at h0
    simp only [Bool.or_eq_true, decide_eq_true_eq] at h0
    omega
  · skip
    refine WPC.skip ?_
    refine thenQ_n ?_
    refine WPC.seqR ?_
    refine stp ?_
    refine WPL.nil ?_
    refine WPC.seq ?_
    refine WPC.seqR ?_
    iterate 2 refine stp ?_
    refine kall rfl (c_take (by omega) hx) ?_
    rintro _ _ ⟨a, c, rfl, hs, rfl⟩
    have hl8 := rtake_len xs sh k
    have hn : (rtake xs sh k).1.length < 1000000 := by omega
    iterate 2 refine stp ?_
    refine WPL.nil ?_
    refine WPC.block ?_
    refine WPC.loopS (fun m e Γ => ∃ i : Nat, m = (rtake xs sh k).1.length - i ∧ i ≤ (rtake xs sh k).1.length ∧ e = [(5, .int .u64 ((ofLE ((rtake xs sh k).1.take i) : Nat) : Int)), (22, .slice a (rtake xs sh k).1.length c), (23, .int .i64 ((rtake xs sh k).1.length : Int)), (24, .int .i64 (i : Int))] ∧ Γ = [rd b o (rtake xs sh k).2.1 (rtake xs sh k).2.2, sl false a ((rtake xs sh k).1.map u8)]) ((rtake xs sh k).1.length) ⟨0, rfl, by omega, rfl, rfl⟩ sbb Imp.pk ?_
    rintro m e Γ ⟨i, rfl, hi, rfl, rfl⟩
    refine WPC.seqR ?_
    refine stp ?_
    refine WPL.nil ?_
    refine WPC.seq ?_
    refine WPC.cond rfl (fun h1 => ?_) (fun h1 => ?_)
    · simp only [decide_eq_true_eq, Int.ofNat_lt] at h1
      have hp : Pl a := hs.at (by omega) (by omega)
      obtain ⟨x, hx⟩ : ∃ x, (rtake xs sh k).1[i]? = some x := ⟨(rtake xs sh k).1[i]'h1, by simp⟩
      have hx2 := x.2
      have hpow := pow_bound (i := i) (by omega)
      have hA := ofLE_lt ((rtake xs sh k).1.take i)
      rw [List.length_take, Nat.min_eq_left hi] at hA
      have hB := Nat.mul_le_mul (show x.val ≤ 255 by omega) hpow
      have hor := or_add (b := x.val) hA
      rw [← ofLE_take_succ hx] at hor
      refine WPC.skip ?_
      refine thenQ_n ?_
      refine WPC.seq ?_
      refine WPC.block ?_
      refine WPC.seqR ?_
      iterate 2 refine stp ?_
      refine L_s (q_ldMap ld_uint8 rfl mm hx) rfl ?_
      iterate 2 refine stp ?_
      refine WPL.nil ?_
      refine WPC.region ?_
      iterate 4 refine stp ?_
      refine L_s (q_mulN (a := 8) (b := i) rfl rfl (by omega)) rfl ?_
      refine L_s (q_shlN (a := x.val) (b := 8 * i) rfl rfl rfl (show 8 * i < 64 by omega) (show _ < 18446744073709551616 by omega)) rfl ?_
      refine L_s (q_orN (a := ofLE ((rtake xs sh k).1.take i)) (b := x.val * 2 ^ (8 * i)) rfl rfl rfl (show _ < 18446744073709551616 by omega) (show _ < 18446744073709551616 by omega)) rfl ?_
      rw [hor]
      refine stp ?_
      refine WPL.nil ?_
      refine blockQ_n ?_
      refine thenQ_n ?_
      refine WPC.region ?_
      iterate 2 refine stp ?_
      refine WPL.nil ?_
      refine thenQ_n ?_
      exact ⟨rfl, _, _, _, by omega, ⟨i + 1, rfl, by omega, rfl, rfl⟩, sbb, Imp.pk⟩
    · simp only [decide_eq_false_iff_not, Int.ofNat_lt] at h1
      refine WPC.exit ?_
      refine thenQ_e ?_
      refine thenQ_e ?_
      refine blockQ_here ?_
      refine thenQ_n ?_
      refine WPC.seqR ?_
      iterate 2 refine stp ?_
      refine WPL.nil ?_
      refine WPC.ret ?_
      exact endR_r rfl (.tmp rfl .nil) Imp.pk ⟨by simp only [packV]; rw [List.take_of_length_le (by omega)], rfl⟩

theorem c_REnd {b o : Nat} {xs : List By} {sh : Bool} : Trip Tryd.prog 67 #[.pointer (some ⟨b, o, none⟩)] [rd b o xs sh] fun r Δ => ∃ v : Int, r = .int .i64 v ∧ (v = 0 ↔ sh = false ∧ xs = []) ∧ Δ = [rd b o xs sh] := by
  refine rd_open fun a c hs => ?_
  refine Trip.start 15 [.tmp 2] [(0, .pointer (some ⟨b, o, none⟩))] Tryd.func67 rfl Tryd.ntmps67 rfl ⟨rfl, trivial⟩ rfl ?_
  refine WPC.seqR ?_
  refine stp ?_
  refine WPL.nil ?_
  refine WPC.seq ?_
  refine WPC.block ?_
  refine WPC.seqR ?_
  iterate 5 refine stp ?_
  refine WPL.nil ?_
  refine WPC.cond rfl (fun h0 => ?_) (fun h0 => ?_)
  · subst h0
    refine WPC.seqR ?_
    refine stp ?_
    refine WPL.nil ?_
    refine WPC.ret ?_
    refine blockQ_r ?_
    refine thenQ_r ?_
    exact endR_r rfl (.tmp rfl .nil) ((Imp.pk).trans (rd_close a xs.length c hs (Γ := []))) ⟨10, rfl, by simp, rfl⟩
  · subst h0
    refine WPC.seqR ?_
    iterate 7 refine stp ?_
    refine WPL.nil ?_
    refine WPC.cond rfl (fun h1 => ?_) (fun h1 => ?_)
    · simp at h1
      refine WPC.seqR ?_
      refine stp ?_
      refine WPL.nil ?_
      refine WPC.ret ?_
      refine blockQ_r ?_
      refine thenQ_r ?_
      exact endR_r rfl (.tmp rfl .nil) ((Imp.pk).trans (rd_close a xs.length c hs (Γ := []))) ⟨11, rfl, by simp; intro h; simp [h] at h1, rfl⟩
    · have h1 : xs = [] := List.eq_nil_of_length_eq_zero (by simp at h1; simpa using h1)
      subst h1
      refine WPC.skip ?_
      refine blockQ_n ?_
      refine thenQ_n ?_
      refine WPC.seqR ?_
      refine stp ?_
      refine WPL.nil ?_
      refine WPC.ret ?_
      exact endR_r rfl (.tmp rfl .nil) ((Imp.pk).trans (rd_close a _ c hs (Γ := []))) ⟨0, rfl, by simp, rfl⟩

theorem c_Sum {p : Bool} {a : Option Addr} {n c : Nat} {xs : List By} (hs : Sok 1 a n c (xs.map u8)) (hn : n < 1000000) : Trip Tryd.prog 61 #[.slice a n c] [sl p a (xs.map u8), tblA] fun r Δ => r = .int .u32 ((crc xs : Nat) : Int) ∧ Δ = [sl p a (xs.map u8)] := by
  have hl : xs.length = n := by have := hs.len; simpa using this
  refine Trip.start 33 [.tmp 2] [(0, .slice a n c)] Tryd.func61 rfl Tryd.ntmps61 rfl ⟨rfl, trivial⟩ rfl ?_
  refine WPC.seqR ?_
  refine stp ?_
  refine WPL.nil ?_
  refine WPC.seqR ?_
  refine stp ?_
  refine WPL.nil ?_
  refine WPC.seq ?_
  refine WPC.seqR ?_
  iterate 3 refine stp ?_
  refine WPL.nil ?_
  refine WPC.block ?_
  refine WPC.loopS (fun m e Γ => ∃ k : Nat, m = n - k ∧ k ≤ n ∧ e = [(3, .int .u32 ((((xs.take k).foldl crcStep 4294967295) : Nat) : Int)), (6, .slice a n c), (7, .int .i64 (n : Int)), (8, .int .i64 (k : Int))] ∧ Γ = [sl p a (xs.map u8), tblA]) (n) ⟨0, rfl, by omega, rfl, rfl⟩ sbb Imp.pk ?_
  rintro m e Γ ⟨k, rfl, hk, rfl, rfl⟩
  refine WPC.seqR ?_
  refine stp ?_
  refine WPL.nil ?_
  refine WPC.seq ?_
  refine WPC.cond rfl (fun h0 => ?_) (fun h0 => ?_)
  · simp only [decide_eq_true_eq, Int.ofNat_lt] at h0
    have hp : Pl a := hs.at (by omega) (by omega)
    obtain ⟨x, hx⟩ : ∃ x, xs[k]? = some x := ⟨xs[k]'(by omega), by simp⟩
    have hx2 : x.val < 4294967296 := by omega
    have hS : ((xs.take k).foldl crcStep 4294967295) < 4294967296 := fold_lt _ (by omega)
    have hS1 := xor32 hS hx2
    obtain ⟨e1, he1, hb1, hc1⟩ := tbl_get (((xs.take k).foldl crcStep 4294967295) ^^^ x.val)
    have hS2 := cstep_lt hS1
    obtain ⟨e2, he2, hb2, hc2⟩ := tbl_get (cstep (((xs.take k).foldl crcStep 4294967295) ^^^ x.val))
    have hS3 := cstep_lt hS2
    have hd1 : (((xs.take k).foldl crcStep 4294967295) ^^^ x.val) / 2 ^ 4 < 4294967296 := by omega
    have hd2 : cstep (((xs.take k).foldl crcStep 4294967295) ^^^ x.val) / 2 ^ 4 < 4294967296 := by omega
    have hstep := fold_take_succ hx 4294967295
    refine WPC.skip ?_
    refine thenQ_n ?_
    refine WPC.seq ?_
    refine WPC.block ?_
    refine WPC.seqR ?_
    refine stp ?_
    refine L_s (q_ldMap ld_uint8 rfl mm hx) rfl ?_
    refine stp ?_
    refine WPL.nil ?_
    refine WPC.seqR ?_
    iterate 3 refine stp ?_
    refine L_s (q_xorN (a := ((xs.take k).foldl crcStep 4294967295)) (b := x.val) rfl rfl rfl (show _ < 4294967296 from hS) (show _ < 4294967296 from hx2)) rfl ?_
    refine stp ?_
    refine WPL.nil ?_
    refine WPC.seqR ?_
    refine stp ?_
    refine L_s (q_shrN (a := ((xs.take k).foldl crcStep 4294967295) ^^^ x.val) (b := 4) rfl rfl (show 4 < 32 by omega)) rfl ?_
    refine stp ?_
    refine L_s (q_andN (a := ((xs.take k).foldl crcStep 4294967295) ^^^ x.val) (b := 15) rfl rfl rfl (show _ < 4294967296 from hS1) (show 15 < 4294967296 by omega)) rfl ?_
    refine L_s (q_idxAN (i := (((xs.take k).foldl crcStep 4294967295) ^^^ x.val) &&& 15) ar_arr16_uint32 rfl rfl (and15 _)) rfl ?_
    refine L_s (q_ldMap ld_uint32 rfl mm he1) rfl ?_
    refine L_s (q_xorN (a := (((xs.take k).foldl crcStep 4294967295) ^^^ x.val) / 2 ^ 4) (b := e1) rfl rfl rfl (show _ < 4294967296 from hd1) (show _ < 4294967296 from hb1)) rfl ?_
    rw [← hc1]
    refine stp ?_
    refine WPL.nil ?_
    refine WPC.region ?_
    refine stp ?_
    refine L_s (q_shrN (a := cstep (((xs.take k).foldl crcStep 4294967295) ^^^ x.val)) (b := 4) rfl rfl (show 4 < 32 by omega)) rfl ?_
    refine stp ?_
    refine L_s (q_andN (a := cstep (((xs.take k).foldl crcStep 4294967295) ^^^ x.val)) (b := 15) rfl rfl rfl (show _ < 4294967296 from hS2) (show 15 < 4294967296 by omega)) rfl ?_
    refine L_s (q_idxAN (i := cstep (((xs.take k).foldl crcStep 4294967295) ^^^ x.val) &&& 15) ar_arr16_uint32 rfl rfl (and15 _)) rfl ?_
    refine L_s (q_ldMap ld_uint32 rfl mm he2) rfl ?_
    refine L_s (q_xorN (a := cstep (((xs.take k).foldl crcStep 4294967295) ^^^ x.val) / 2 ^ 4) (b := e2) rfl rfl rfl (show _ < 4294967296 from hd2) (show _ < 4294967296 from hb2)) rfl ?_
    rw [← hc2, show cstep (cstep (((xs.take k).foldl crcStep 4294967295) ^^^ x.val)) = (xs.take (k + 1)).foldl crcStep 4294967295 from hstep.symm]
    refine stp ?_
    refine WPL.nil ?_
    refine blockQ_n ?_
    refine thenQ_n ?_
    refine WPC.region ?_
    iterate 2 refine stp ?_
    refine WPL.nil ?_
    refine thenQ_n ?_
    exact ⟨rfl, _, _, _, by omega, ⟨k + 1, rfl, by omega, rfl, rfl⟩, sbb, Imp.pk⟩
  · simp only [decide_eq_false_iff_not, Int.ofNat_lt] at h0
    have hk' : xs.length ≤ k := by omega
    refine WPC.exit ?_
    refine thenQ_e ?_
    refine thenQ_e ?_
    refine blockQ_here ?_
    refine thenQ_n ?_
    refine WPC.seqR ?_
    refine stp ?_
    refine L_s (q_comN (a := ((xs.take k).foldl crcStep 4294967295)) rfl rfl (show _ < 4294967296 from fold_lt _ (by omega))) rfl ?_
    refine stp ?_
    refine WPL.nil ?_
    refine WPC.ret ?_
    rw [List.take_of_length_le hk']
    exact endR_r rfl (.tmp rfl .nil) Imp.pk ⟨rfl, rfl⟩

theorem c_Grow {m : Nat} (hm : m < 1000000) : Trip Tryd.prog 74 #[.slice none 0 0, .int .i64 (m : Int)] [] fun r Δ => ∃ a c, r = .slice a 0 c ∧ Δ = [buf 1 a 0 c []] := by
  refine Trip.start 27 [.tmp 4] [(0, .slice none 0 0), (1, .int .i64 (m : Int))] Tryd.func74 rfl Tryd.ntmps74 rfl ⟨rfl, rfl, trivial⟩ rfl ?_
  refine WPC.seqR ?_
  refine stp ?_
  refine WPL.nil ?_
  refine WPC.seq ?_
  refine WPC.seqR ?_
  iterate 2 refine stp ?_
  refine WPL.nil ?_
  refine WPC.cond rfl (fun h0 => ?_) (fun h0 => ?_)
  · try simp only [decide_eq_true_eq, decide_eq_false_iff_not, beq_iff_eq, bne_iff_ne, beq_eq_false_iff_ne, bne_eq_false_iff_eq, Bool.not_eq_true', Bool.not_eq_false', Bool.not_eq_eq_eq_not, Bool.not_true, Bool.not_false, ne_eq, Decidable.not_not, Int.not_lt, Int.not_le, gt_iff_lt, ge_iff_le] at h0
    omega
  · skip
    refine WPC.skip ?_
    refine thenQ_n ?_
    refine WPC.seq ?_
    refine WPC.seqR ?_
    iterate 2 refine stp ?_
    refine L_s (q_cap rfl un_sl_uint8 rfl) rfl ?_
    iterate 4 refine stp ?_
    rw [show (m : Int) - (((0 : Nat) : Int) - ((0 : Nat) : Int)) = (m : Int) by simp]
    refine stp ?_
    refine WPL.nil ?_
    refine WPC.seqR ?_
    iterate 2 refine stp ?_
    refine WPL.nil ?_
    refine WPC.midS (fun e Γ => ∃ a c, e = [(0, .slice a 0 c)] ∧ Γ = [buf 1 a 0 c []]) ?_ ?_
    · refine WPC.cond rfl (fun h1 => ?_) (fun h1 => ?_)
      · simp only [decide_eq_true_eq] at h1
        refine WPC.region ?_
        iterate 2 refine stp ?_
        refine L_s (q_cap rfl un_sl_uint8 rfl) rfl ?_
        refine L_s (q_sliceHi (j := 0) sl_sl_uint8 rfl rfl (by omega)) rfl ?_
        refine stp ?_
        refine WPL.cons rfl (E1.wpo (e_grow (m := m) mk_sl_uint8 (un_int) (by decide) rfl rfl (by omega) (by omega) (by omega)) rfl ?_)
        rintro _ _ ⟨bg, cg, rfl, hcg, rfl⟩
        refine WPL.putS ?_
        iterate 2 refine stp ?_
        refine L_s (q_sliceHi (j := 0) sl_sl_uint8 rfl rfl (by omega)) rfl ?_
        refine stp ?_
        refine WPL.nil ?_
        refine thenQ_n ?_
        exact ⟨rfl, _, _, ⟨_, _, rfl, rfl⟩, sbb, Imp.pk⟩
      · refine WPC.imp (Imp.bufNil (sz := 1)) ?_
        refine WPC.skip ?_
        refine thenQ_n ?_
        exact ⟨rfl, _, _, ⟨none, 0, rfl, rfl⟩, sbb, Imp.pk⟩
    · rintro e Γ ⟨a, c, rfl, rfl⟩
      refine WPC.seqR ?_
      iterate 2 refine stp ?_
      refine WPL.nil ?_
      refine WPC.ret ?_
      exact endR_r rfl (.tmp rfl .nil) Imp.pk ⟨a, c, rfl, rfl⟩

end Go.Sl
/- Walks: stamps. -/
namespace Go.Sl
open Go Go.RowKit Go.Proofs
set_option linter.unusedSimpArgs false
set_option linter.unusedVariables false
attribute [local irreducible] faB szB ldB zB zL slB mkB arB plB intB cells objc star stars buf slv grp whole Sat WPC WPL WPA WPO WPQ Trip Q1 E1 S1 C1

theorem c_Concat {p : Bool} {a : Option Addr} {n c : Nat} {xs : List BS} (hs : Sok 1 a n c (xs.map bsV)) (hok : ∀ x ∈ xs, x.ok) (hn : n < 1000000) (hb : (xs.flatMap BS.bs).length < 1000000) : Trip Tryd.prog 59 #[.slice a n c] [sl p a (xs.map bsV), bytes xs] fun r Δ => ∃ a' c', r = .slice a' (xs.flatMap BS.bs).length c' ∧ Δ = [buf 1 a' (xs.flatMap BS.bs).length c' ((xs.flatMap BS.bs).map u8), sl p a (xs.map bsV)] := by
  have hl : xs.length = n := by have := hs.len; simpa using this
  refine Trip.start 36 [.tmp 2] [(0, .slice a n c)] Tryd.func59 rfl Tryd.ntmps59 rfl ⟨rfl, trivial⟩ rfl ?_
  refine WPC.seqR ?_
  refine stp ?_
  refine WPL.nil ?_
  refine WPC.seqR ?_
  refine stp ?_
  refine WPL.nil ?_
  refine WPC.seq ?_
  refine WPC.seqR ?_
  iterate 3 refine stp ?_
  refine WPL.nil ?_
  refine WPC.block ?_
  refine WPC.loopS (fun m e Γ => ∃ k : Nat, m = n - k ∧ k ≤ n ∧ e = [(0, .slice a n c), (3, .int .i64 (((xs.take k).flatMap BS.bs).length : Int)), (9, .slice a n c), (10, .int .i64 (n : Int)), (11, .int .i64 (k : Int))] ∧ Γ = [sl p a (xs.map bsV), bytes xs]) (n) ⟨0, rfl, by omega, rfl, rfl⟩ sbb Imp.pk ?_
  rintro m e Γ ⟨k, rfl, hk, rfl, rfl⟩
  refine WPC.seqR ?_
  refine stp ?_
  refine WPL.nil ?_
  refine WPC.seq ?_
  refine WPC.cond rfl (fun h0 => ?_) (fun h0 => ?_)
  · simp only [decide_eq_true_eq, Int.ofNat_lt] at h0
    have hp : Pl a := hs.at (by omega) (by omega)
    obtain ⟨x, hx⟩ : ∃ x, xs[k]? = some x := ⟨xs[k]'(by omega), by simp⟩
    have hxo := hok x (List.mem_of_getElem? hx)
    have hxn := hxo.n
    have hsum : ((xs.take k).flatMap BS.bs).length + x.n ≤ (xs.flatMap BS.bs).length := by
      have h1 := catLen_take xs (k + 1)
      rw [take_succ hx, List.flatMap_append, List.length_append] at h1
      simpa [hxn] using h1
    have hsnoc : ((xs.take (k + 1)).flatMap BS.bs) = ((xs.take k).flatMap BS.bs) ++ x.bs := by rw [take_succ hx, List.flatMap_append]; simp
    refine WPC.skip ?_
    refine thenQ_n ?_
    refine WPC.seq ?_
    refine WPC.block ?_
    refine WPC.seqR ?_
    refine stp ?_
    refine L_s (q_ldMap ld_sl_uint8 rfl mm hx) rfl ?_
    refine stp ?_
    refine WPL.nil ?_
    refine WPC.seqR ?_
    iterate 3 refine stp ?_
    refine L_s (q_addI rfl rfl (by omega)) rfl ?_
    rw [show ((((xs.take k).flatMap BS.bs).length : Int) + (x.n : Int)) = (((xs.take (k + 1)).flatMap BS.bs).length : Int) by rw [hsnoc, List.length_append, hxn]; simp]
    refine stp ?_
    refine WPL.nil ?_
    refine WPC.seqR ?_
    iterate 2 refine stp ?_
    refine WPL.nil ?_
    refine WPC.cond rfl (fun h1 => ?_) (fun h1 => ?_)
    · try simp only [decide_eq_true_eq, decide_eq_false_iff_not, beq_iff_eq, bne_iff_ne, beq_eq_false_iff_ne, bne_eq_false_iff_eq, Bool.not_eq_true', Bool.not_eq_false', Bool.not_eq_eq_eq_not, Bool.not_true, Bool.not_false, ne_eq, Decidable.not_not, Int.not_lt, Int.not_le, gt_iff_lt, ge_iff_le] at h1
      omega
    · skip
      refine WPC.skip ?_
      refine blockQ_n ?_
      refine thenQ_n ?_
      refine WPC.region ?_
      iterate 2 refine stp ?_
      refine WPL.nil ?_
      refine thenQ_n ?_
      exact ⟨rfl, _, _, _, by omega, ⟨k + 1, rfl, by omega, rfl, rfl⟩, sbb, Imp.pk⟩
  · simp only [decide_eq_false_iff_not, Int.ofNat_lt] at h0
    have hk' : k = n := by omega
    have htake : xs.take k = xs := List.take_of_length_le (by omega)
    refine WPC.exit ?_
    refine thenQ_e ?_
    refine thenQ_e ?_
    refine blockQ_here ?_
    refine thenQ_n ?_
    refine WPC.seqR ?_
    refine stp ?_
    rw [show ((xs.take k).flatMap BS.bs) = (xs.flatMap BS.bs) by rw [htake]]
    refine kall rfl (c_Grow hb) ?_
    rintro _ _ ⟨a1, c1, rfl, rfl⟩
    refine stp ?_
    refine WPL.nil ?_
    refine WPC.seq ?_
    refine WPC.seqR ?_
    iterate 3 refine stp ?_
    refine WPL.nil ?_
    refine WPC.block ?_
    refine WPC.loopS (fun m e Γ => ∃ (k : Nat) (a2 : Option Addr) (c2 : Nat), m = n - k ∧ k ≤ n ∧ e = [(6, .slice a2 ((xs.take k).flatMap BS.bs).length c2), (25, .slice a n c), (26, .int .i64 (n : Int)), (27, .int .i64 (k : Int))] ∧ Γ = [buf 1 a2 ((xs.take k).flatMap BS.bs).length c2 (((xs.take k).flatMap BS.bs).map u8), sl p a (xs.map bsV), bytes xs]) (n) ⟨0, a1, c1, rfl, by omega, rfl, rfl⟩ sbb Imp.pk ?_
    clear hk htake
    rintro m e Γ ⟨k, a2, c2, rfl, hk, rfl, rfl⟩
    refine WPC.seqR ?_
    refine stp ?_
    refine WPL.nil ?_
    refine WPC.seq ?_
    refine WPC.cond rfl (fun h2 => ?_) (fun h2 => ?_)
    · simp only [decide_eq_true_eq, Int.ofNat_lt] at h2
      have hp : Pl a := hs.at (by omega) (by omega)
      obtain ⟨x, hx⟩ : ∃ x, xs[k]? = some x := ⟨xs[k]'(by omega), by simp⟩
      have hxo := hok x (List.mem_of_getElem? hx)
      have hxn := hxo.n
      have hsum : ((xs.take k).flatMap BS.bs).length + x.n ≤ (xs.flatMap BS.bs).length := by
        have h1 := catLen_take xs (k + 1)
        rw [take_succ hx, List.flatMap_append, List.length_append] at h1
        simpa [hxn] using h1
      have hsnoc : ((xs.take (k + 1)).flatMap BS.bs) = ((xs.take k).flatMap BS.bs) ++ x.bs := by rw [take_succ hx, List.flatMap_append]; simp
      refine WPC.skip ?_
      refine thenQ_n ?_
      refine WPC.seq ?_
      refine WPC.block ?_
      refine WPC.seqR ?_
      refine stp ?_
      refine L_s (q_ldMap ld_sl_uint8 rfl mm hx) rfl ?_
      refine stp ?_
      refine WPL.nil ?_
      refine WPC.region ?_
      iterate 2 refine stp ?_
      refine WPL.imp ((Imp.pk (Δ := [bytes xs, buf 1 a2 ((xs.take k).flatMap BS.bs).length c2 (((xs.take k).flatMap BS.bs).map u8), sl p a (xs.map bsV)])).trans (bytes_one (List.mem_of_getElem? hx))) ?_
      refine WPL.cons rfl (E1.wpo (e_append (m := x.n) (news := x.bs.map u8) mk_sl_uint8 (by decide) rfl rfl pk1 (Rd.mem (p := false) hxo (hxo.none0 (by omega)) mm) (u8_one _) (by omega) (by omega)) rfl ?_)
      rintro _ _ ⟨a3, c3, rfl, -, rfl⟩
      rw [show ((xs.take k).flatMap BS.bs).length + x.n = ((xs.take (k + 1)).flatMap BS.bs).length by rw [hsnoc, List.length_append, hxn], show ((xs.take k).flatMap BS.bs).map u8 ++ x.bs.map u8 = ((xs.take (k + 1)).flatMap BS.bs).map u8 by rw [hsnoc, List.map_append]]
      refine WPL.putS ?_
      refine stp ?_
      refine WPL.nil ?_
      refine blockQ_n ?_
      refine thenQ_n ?_
      refine WPC.region ?_
      iterate 2 refine stp ?_
      refine WPL.nil ?_
      refine thenQ_n ?_
      exact ⟨rfl, _, _, _, by omega, ⟨k + 1, a3, c3, rfl, by omega, rfl, rfl⟩, sbb, Imp.pk⟩
    · simp only [decide_eq_false_iff_not, Int.ofNat_lt] at h2
      have hk' : k = n := by omega
      have htake : xs.take k = xs := List.take_of_length_le (by omega)
      refine WPC.exit ?_
      refine thenQ_e ?_
      refine thenQ_e ?_
      refine blockQ_here ?_
      refine thenQ_n ?_
      refine WPC.seqR ?_
      iterate 2 refine stp ?_
      refine WPL.nil ?_
      refine WPC.ret ?_
      rw [show ((xs.take k).flatMap BS.bs) = (xs.flatMap BS.bs) by rw [htake]]
      exact endR_r rfl (.tmp rfl .nil) Imp.pk ⟨a2, c2, rfl, rfl⟩

theorem c_ends {b o seq epoch : Nat} {xs : List By} (h1 : seq < 4294967296) (h2 : epoch < 4294967296) (hx : xs.length ≤ 100) : Trip Tryd.prog 57 #[.pointer (some ⟨b, o, none⟩), .int .u32 (seq : Int), .int .u32 (epoch : Int)] [wr b o xs] fun r Δ => r = .tuple #[] ∧ Δ = [wr b o (xs ++ le seq 4 ++ le epoch 4)] := by
  refine Trip.start 14 [] [(0, .pointer (some ⟨b, o, none⟩)), (1, .int .u32 (seq : Int)), (2, .int .u32 (epoch : Int))] Tryd.func57 rfl Tryd.ntmps57 rfl ⟨rfl, rfl, rfl, trivial⟩ rfl ?_
  refine WPC.seqR ?_
  iterate 3 refine stp ?_
  refine kall rfl (c_WNumber (xs := xs) (v := seq) (k := 4) (by omega) (by omega)) ?_
  rintro _ _ ⟨rfl, rfl⟩
  refine WPL.nil ?_
  refine WPC.region ?_
  iterate 3 refine stp ?_
  refine kall rfl (c_WNumber (xs := xs ++ le seq 4) (v := epoch) (k := 4) (by omega) (by simp [le_length]; omega)) ?_
  rintro _ _ ⟨rfl, rfl⟩
  refine WPL.nil ?_
  exact endR_n rfl .nil Imp.pk ⟨rfl, rfl⟩

theorem c_StampLong {a : Option Addr} {c seq epoch : Nat} {xs : List By} (hs : Sok 1 a xs.length c (xs.map u8)) (h1 : seq < 4294967296) (h2 : epoch < 4294967296) (hl : 43 < xs.length) : Trip Tryd.prog 35 #[.int .u32 (seq : Int), .int .u32 (epoch : Int), .slice a xs.length c] [sl false a (xs.map u8)] fun r Δ => r = .tuple #[.slice none 0 0, .int .i64 2] ∧ Δ = [] := by
  refine Trip.start 40 [.tmp 6, .tmp 7] [(0, .int .u32 (seq : Int)), (1, .int .u32 (epoch : Int)), (2, .slice a xs.length c)] Tryd.func35 rfl Tryd.ntmps35 rfl ⟨rfl, rfl, rfl, trivial⟩ rfl ?_
  refine WPC.seqR ?_
  iterate 2 refine stp ?_
  refine WPL.nil ?_
  refine WPC.seq ?_
  refine WPC.seqR ?_
  iterate 3 refine stp ?_
  refine WPL.nil ?_
  refine WPC.cond rfl (fun h0 => ?_) (fun h0 => ?_)
  · skip
    refine WPC.seqR ?_
    iterate 2 refine stp ?_
    refine WPL.nil ?_
    refine WPC.ret ?_
    refine thenQ_r ?_
    exact endR_r rfl (.tmp rfl (.tmp rfl .nil)) Imp.pk ⟨rfl, rfl⟩
  · try simp only [decide_eq_true_eq, decide_eq_false_iff_not, beq_iff_eq, bne_iff_ne, beq_eq_false_iff_ne, bne_eq_false_iff_eq, Bool.not_eq_true', Bool.not_eq_false', Bool.not_eq_eq_eq_not, Bool.not_true, Bool.not_false, ne_eq, Decidable.not_not, Int.not_lt, Int.not_le, gt_iff_lt, ge_iff_le] at h0
    omega

theorem c_Stamp {a : Option Addr} {c seq epoch : Nat} {xs : List By} (hs : Sok 1 a xs.length c (xs.map u8)) (h1 : seq < 4294967296) (h2 : epoch < 4294967296) (hl : xs.length ≤ 43) : Trip Tryd.prog 35 #[.int .u32 (seq : Int), .int .u32 (epoch : Int), .slice a xs.length c] [sl false a (xs.map u8), tblA] fun r Δ => ∃ a' c', r = .tuple #[.slice a' 64 c', .int .i64 0] ∧ Sok 1 a' 64 c' ((stamp seq epoch xs).map u8) ∧ Δ = [sl false a' ((stamp seq epoch xs).map u8)] := by
  have hcap := hs.cap
  refine Trip.start 40 [.tmp 6, .tmp 7] [(0, .int .u32 (seq : Int)), (1, .int .u32 (epoch : Int)), (2, .slice a xs.length c)] Tryd.func35 rfl Tryd.ntmps35 rfl ⟨rfl, rfl, rfl, trivial⟩ rfl ?_
  refine WPC.seqR ?_
  iterate 2 refine stp ?_
  refine WPL.nil ?_
  refine WPC.seq ?_
  refine WPC.seqR ?_
  iterate 3 refine stp ?_
  refine WPL.nil ?_
  refine WPC.cond rfl (fun h0 => ?_) (fun h0 => ?_)
  · try simp only [decide_eq_true_eq, decide_eq_false_iff_not, beq_iff_eq, bne_iff_ne, beq_eq_false_iff_ne, bne_eq_false_iff_eq, Bool.not_eq_true', Bool.not_eq_false', Bool.not_eq_eq_eq_not, Bool.not_true, Bool.not_false, ne_eq, Decidable.not_not, Int.not_lt, Int.not_le, gt_iff_lt, ge_iff_le] at h0
    omega
  · skip
    refine WPC.skip ?_
    refine thenQ_n ?_
    refine WPC.seqR ?_
    refine nw fun bW => ?_
    refine WPL.nil ?_
    refine WPC.imp (Imp.bufNil (sz := 1)) ?_
    refine WPC.imp ((Imp.pk).trans (wr_close (b := bW) (o := 0) (xs := []) none 0 0 (Γ := [sl false a (xs.map u8), tblA]))) ?_
    refine WPC.seqR ?_
    iterate 2 refine stp ?_
    refine kall rfl (c_ends (xs := []) h1 h2 (by simp)) ?_
    rintro _ _ ⟨rfl, rfl⟩
    rw [List.nil_append]
    refine WPL.nil ?_
    refine WPC.seqR ?_
    iterate 3 refine stp ?_
    refine kall rfl (c_WNumber (xs := le seq 4 ++ le epoch 4) (v := xs.length) (k := 1) (by omega) (by simp [le_length])) ?_
    rintro _ _ ⟨rfl, rfl⟩
    refine WPL.nil ?_
    refine WPC.seqD mixed ?_
    refine atP 1 rfl ?_
    refine atP 2 rfl ?_
    refine atP 3 rfl ?_
    refine atP 4 rfl ?_
    refine WPA.two 0 5 (by kernel_rfl) ?_ ?_
    · refine Eff.mk 0 [] rfl rfl (by repeat (first | exact .nil | refine .anc rfl ?_ | refine .keep mm ?_)) (C1.call (c_call Tryd.func60 rfl rfl rfl) (c_WOut (xs := le seq 4 ++ le epoch 4 ++ le xs.length 1) (by simp [le_length])) pkk rfl ?_)
      rintro _ _ ⟨a1, c1, rfl, hs1, rfl⟩
      refine ⟨(.nil _), ?_⟩
      refine WPA.putS ?_
      refine WPA.oneE 5 [] (by kernel_rfl) rfl rfl (by repeat (first | exact .nil | refine .anc rfl ?_ | refine .keep mm ?_)) (E1.wpo (e_make (n := 43 - (xs.length : Int)) (c := 43 - (xs.length : Int)) mk_sl_uint8 (by decide) rfl rfl (by omega) (by omega) (by omega) (by omega)) rfl ?_)
      rintro _ _ ⟨bZ, rfl, rfl⟩
      rw [show (43 - (xs.length : Int)).toNat = 43 - xs.length by omega, repZ8]
      refine ⟨(.nil _), ?_⟩
      refine WPA.putS ?_
      refine WPA.imp (Imp.freeze _ _ _ _) ?_
      refine WPA.oneE 6 [] (by kernel_rfl) rfl rfl (by repeat (first | exact .nil | refine .anc rfl ?_ | refine .keep mm ?_)) (E1.wpo (e_buildSlice (cs := [_, _, _]) mk_sl_sl_uint8 (by decide) rfl rfl rfl) rfl ?_)
      rintro _ _ ⟨bC, rfl, rfl⟩
      refine ⟨(.nil _), ?_⟩
      refine WPA.putS ?_
      refine WPA.imp (bytes_nil.trans ((Imp.pk (Δ := [BS.at_ (⟨(le seq 4 ++ le epoch 4 ++ le xs.length 1), a1, (le seq 4 ++ le epoch 4 ++ le xs.length 1).length, c1⟩ : BS), bytes [], cells true bC 0 ([(⟨(le seq 4 ++ le epoch 4 ++ le xs.length 1), a1, (le seq 4 ++ le epoch 4 ++ le xs.length 1).length, c1⟩ : BS), (⟨xs, a, xs.length, c⟩ : BS), (⟨List.replicate (43 - xs.length) 0, some ⟨bZ, 0, none⟩, 43 - xs.length, 43 - xs.length⟩ : BS)].map bsV), tblA, BS.at_ (⟨xs, a, xs.length, c⟩ : BS), BS.at_ (⟨List.replicate (43 - xs.length) 0, some ⟨bZ, 0, none⟩, 43 - xs.length, 43 - xs.length⟩ : BS)])).trans (bytes_snoc.trans ((Imp.pk (Δ := [BS.at_ (⟨xs, a, xs.length, c⟩ : BS), bytes [(⟨(le seq 4 ++ le epoch 4 ++ le xs.length 1), a1, (le seq 4 ++ le epoch 4 ++ le xs.length 1).length, c1⟩ : BS)], cells true bC 0 ([(⟨(le seq 4 ++ le epoch 4 ++ le xs.length 1), a1, (le seq 4 ++ le epoch 4 ++ le xs.length 1).length, c1⟩ : BS), (⟨xs, a, xs.length, c⟩ : BS), (⟨List.replicate (43 - xs.length) 0, some ⟨bZ, 0, none⟩, 43 - xs.length, 43 - xs.length⟩ : BS)].map bsV), tblA, BS.at_ (⟨List.replicate (43 - xs.length) 0, some ⟨bZ, 0, none⟩, 43 - xs.length, 43 - xs.length⟩ : BS)])).trans (bytes_snoc.trans ((Imp.pk (Δ := [BS.at_ (⟨List.replicate (43 - xs.length) 0, some ⟨bZ, 0, none⟩, 43 - xs.length, 43 - xs.length⟩ : BS), bytes [(⟨(le seq 4 ++ le epoch 4 ++ le xs.length 1), a1, (le seq 4 ++ le epoch 4 ++ le xs.length 1).length, c1⟩ : BS), (⟨xs, a, xs.length, c⟩ : BS)], cells true bC 0 ([(⟨(le seq 4 ++ le epoch 4 ++ le xs.length 1), a1, (le seq 4 ++ le epoch 4 ++ le xs.length 1).length, c1⟩ : BS), (⟨xs, a, xs.length, c⟩ : BS), (⟨List.replicate (43 - xs.length) 0, some ⟨bZ, 0, none⟩, 43 - xs.length, 43 - xs.length⟩ : BS)].map bsV), tblA])).trans (bytes_snoc.trans (Imp.refl _)))))))) ?_
      refine WPA.oneE 7 [] (by kernel_rfl) rfl rfl (by repeat (first | exact .nil | refine .anc rfl ?_ | refine .keep mm ?_)) (C1.call (c_call Tryd.func59 rfl rfl rfl) (c_Concat (p := true) (a := some ⟨bC, 0, none⟩) (n := 3) (c := 3) (xs := [(⟨(le seq 4 ++ le epoch 4 ++ le xs.length 1), a1, (le seq 4 ++ le epoch 4 ++ le xs.length 1).length, c1⟩ : BS), (⟨xs, a, xs.length, c⟩ : BS), (⟨List.replicate (43 - xs.length) 0, some ⟨bZ, 0, none⟩, 43 - xs.length, 43 - xs.length⟩ : BS)]) ⟨rfl, Nat.le_refl _, .inr (Pl.mk _ _)⟩ (by intro y hy; simp only [List.mem_cons, List.not_mem_nil, or_false] at hy; rcases hy with rfl | rfl | rfl <;> first | exact hs1 | exact hs | exact ⟨by simp, Nat.le_refl _, .inr (Pl.mk _ _)⟩) (by omega) (by simp [le_length]; omega)) pkk rfl ?_)
      rintro _ _ ⟨ah, ch, rfl, rfl⟩
      have hfl : [(⟨(le seq 4 ++ le epoch 4 ++ le xs.length 1), a1, (le seq 4 ++ le epoch 4 ++ le xs.length 1).length, c1⟩ : BS), (⟨xs, a, xs.length, c⟩ : BS), (⟨List.replicate (43 - xs.length) 0, some ⟨bZ, 0, none⟩, 43 - xs.length, 43 - xs.length⟩ : BS)].flatMap BS.bs = stampHead seq epoch xs := by simp [stampHead]
      have hfn : (stampHead seq epoch xs).length = 52 := stampHead_length (by omega)
      rw [hfl, hfn]
      refine ⟨(.nil _), ?_⟩
      refine WPA.putS ?_
      refine WPA.bufRo fun hsh => ?_
      refine atP 8 rfl ?_
      refine WPA.done (by kernel_rfl) ?_
      refine WPC.seqR ?_
      refine nw fun bV => ?_
      refine WPL.nil ?_
      refine WPC.imp (Imp.bufNil (sz := 1)) ?_
      refine WPC.imp ((Imp.pk).trans (wr_close (b := bV) (o := 0) (xs := []) none 0 0 (Γ := [sl false ah ((stampHead seq epoch xs).map u8), tblA]))) ?_
      have hcrc := crc_lt (stampHead seq epoch xs)
      refine WPC.prune [(0, _), (1, _), (6, _), (7, _), (9, _), (10, _)] sbb ?_
      refine WPC.seqR ?_
      refine stp ?_
      refine kall rfl (c_Sum (p := false) hsh (by omega)) ?_
      rintro _ _ ⟨rfl, rfl⟩
      refine stp ?_
      refine kall rfl (c_WNumber (xs := []) (v := crc (stampHead seq epoch xs)) (k := 4) (by omega) (by simp)) ?_
      rintro _ _ ⟨rfl, rfl⟩
      rw [List.nil_append]
      refine WPL.nil ?_
      refine WPC.seqR ?_
      iterate 2 refine stp ?_
      refine kall rfl (c_ends (xs := le (crc (stampHead seq epoch xs)) 4) h1 h2 (by simp [le_length])) ?_
      rintro _ _ ⟨rfl, rfl⟩
      refine WPL.nil ?_
      refine WPC.seqR ?_
      refine stp ?_
      refine kall rfl (c_WOut (xs := le (crc (stampHead seq epoch xs)) 4 ++ le seq 4 ++ le epoch 4) (by simp [le_length])) ?_
      rintro _ _ ⟨a2, c2, rfl, hs2, rfl⟩
      refine nwb [_, _] fun bD => ?_
      refine WPL.imp (bytes_nil.trans ((Imp.pk (Δ := [BS.at_ (⟨stampHead seq epoch xs, ah, 52, ch⟩ : BS), bytes [], cells true bD 0 ([(⟨stampHead seq epoch xs, ah, 52, ch⟩ : BS), (⟨(le (crc (stampHead seq epoch xs)) 4 ++ le seq 4 ++ le epoch 4), a2, (le (crc (stampHead seq epoch xs)) 4 ++ le seq 4 ++ le epoch 4).length, c2⟩ : BS)].map bsV), BS.at_ (⟨(le (crc (stampHead seq epoch xs)) 4 ++ le seq 4 ++ le epoch 4), a2, (le (crc (stampHead seq epoch xs)) 4 ++ le seq 4 ++ le epoch 4).length, c2⟩ : BS)])).trans (bytes_snoc.trans ((Imp.pk (Δ := [BS.at_ (⟨(le (crc (stampHead seq epoch xs)) 4 ++ le seq 4 ++ le epoch 4), a2, (le (crc (stampHead seq epoch xs)) 4 ++ le seq 4 ++ le epoch 4).length, c2⟩ : BS), bytes [(⟨stampHead seq epoch xs, ah, 52, ch⟩ : BS)], cells true bD 0 ([(⟨stampHead seq epoch xs, ah, 52, ch⟩ : BS), (⟨(le (crc (stampHead seq epoch xs)) 4 ++ le seq 4 ++ le epoch 4), a2, (le (crc (stampHead seq epoch xs)) 4 ++ le seq 4 ++ le epoch 4).length, c2⟩ : BS)].map bsV)])).trans (bytes_snoc.trans (Imp.refl _)))))) ?_
      refine kall rfl (c_Concat (p := true) (a := some ⟨bD, 0, none⟩) (n := 2) (c := 2) (xs := [(⟨stampHead seq epoch xs, ah, 52, ch⟩ : BS), (⟨(le (crc (stampHead seq epoch xs)) 4 ++ le seq 4 ++ le epoch 4), a2, (le (crc (stampHead seq epoch xs)) 4 ++ le seq 4 ++ le epoch 4).length, c2⟩ : BS)]) ⟨rfl, Nat.le_refl _, .inr (Pl.mk _ _)⟩ (by intro y hy; simp only [List.mem_cons, List.not_mem_nil, or_false] at hy; rcases hy with rfl | rfl <;> first | exact hsh | exact hs2) (by omega) (by simp [le_length, hfn])) ?_
      rintro _ _ ⟨a3, c3, rfl, rfl⟩
      have hf2 : [(⟨stampHead seq epoch xs, ah, 52, ch⟩ : BS), (⟨(le (crc (stampHead seq epoch xs)) 4 ++ le seq 4 ++ le epoch 4), a2, (le (crc (stampHead seq epoch xs)) 4 ++ le seq 4 ++ le epoch 4).length, c2⟩ : BS)].flatMap BS.bs = stamp seq epoch xs := by simp [stamp]
      have hf3 : (stamp seq epoch xs).length = 64 := stamp_length (by omega)
      rw [hf2, hf3]
      refine WPL.bufRo fun hs3 => ?_
      iterate 2 refine stp ?_
      refine WPL.nil ?_
      refine WPC.ret ?_
      exact endR_r rfl (.tmp rfl (.tmp rfl .nil)) Imp.pk ⟨a3, c3, rfl, hs3, rfl⟩
    · refine Eff.mk 5 [] rfl rfl (by repeat (first | exact .nil | refine .anc rfl ?_ | refine .keep mm ?_)) (E1.wpo (e_make (n := 43 - (xs.length : Int)) (c := 43 - (xs.length : Int)) mk_sl_uint8 (by decide) rfl rfl (by omega) (by omega) (by omega) (by omega)) rfl ?_)
      rintro _ _ ⟨bZ, rfl, rfl⟩
      rw [show (43 - (xs.length : Int)).toNat = 43 - xs.length by omega, repZ8]
      refine ⟨(.nil _), ?_⟩
      refine WPA.putS ?_
      refine WPA.imp (Imp.freeze _ _ _ _) ?_
      refine WPA.oneE 0 [] (by kernel_rfl) rfl rfl (by repeat (first | exact .nil | refine .anc rfl ?_ | refine .keep mm ?_)) (C1.call (c_call Tryd.func60 rfl rfl rfl) (c_WOut (xs := le seq 4 ++ le epoch 4 ++ le xs.length 1) (by simp [le_length])) pkk rfl ?_)
      rintro _ _ ⟨a1, c1, rfl, hs1, rfl⟩
      refine ⟨(.nil _), ?_⟩
      refine WPA.putS ?_
      refine WPA.oneE 6 [] (by kernel_rfl) rfl rfl (by repeat (first | exact .nil | refine .anc rfl ?_ | refine .keep mm ?_)) (E1.wpo (e_buildSlice (cs := [_, _, _]) mk_sl_sl_uint8 (by decide) rfl rfl rfl) rfl ?_)
      rintro _ _ ⟨bC, rfl, rfl⟩
      refine ⟨(.nil _), ?_⟩
      refine WPA.putS ?_
      refine WPA.imp (bytes_nil.trans ((Imp.pk (Δ := [BS.at_ (⟨(le seq 4 ++ le epoch 4 ++ le xs.length 1), a1, (le seq 4 ++ le epoch 4 ++ le xs.length 1).length, c1⟩ : BS), bytes [], cells true bC 0 ([(⟨(le seq 4 ++ le epoch 4 ++ le xs.length 1), a1, (le seq 4 ++ le epoch 4 ++ le xs.length 1).length, c1⟩ : BS), (⟨xs, a, xs.length, c⟩ : BS), (⟨List.replicate (43 - xs.length) 0, some ⟨bZ, 0, none⟩, 43 - xs.length, 43 - xs.length⟩ : BS)].map bsV), tblA, BS.at_ (⟨xs, a, xs.length, c⟩ : BS), BS.at_ (⟨List.replicate (43 - xs.length) 0, some ⟨bZ, 0, none⟩, 43 - xs.length, 43 - xs.length⟩ : BS)])).trans (bytes_snoc.trans ((Imp.pk (Δ := [BS.at_ (⟨xs, a, xs.length, c⟩ : BS), bytes [(⟨(le seq 4 ++ le epoch 4 ++ le xs.length 1), a1, (le seq 4 ++ le epoch 4 ++ le xs.length 1).length, c1⟩ : BS)], cells true bC 0 ([(⟨(le seq 4 ++ le epoch 4 ++ le xs.length 1), a1, (le seq 4 ++ le epoch 4 ++ le xs.length 1).length, c1⟩ : BS), (⟨xs, a, xs.length, c⟩ : BS), (⟨List.replicate (43 - xs.length) 0, some ⟨bZ, 0, none⟩, 43 - xs.length, 43 - xs.length⟩ : BS)].map bsV), tblA, BS.at_ (⟨List.replicate (43 - xs.length) 0, some ⟨bZ, 0, none⟩, 43 - xs.length, 43 - xs.length⟩ : BS)])).trans (bytes_snoc.trans ((Imp.pk (Δ := [BS.at_ (⟨List.replicate (43 - xs.length) 0, some ⟨bZ, 0, none⟩, 43 - xs.length, 43 - xs.length⟩ : BS), bytes [(⟨(le seq 4 ++ le epoch 4 ++ le xs.length 1), a1, (le seq 4 ++ le epoch 4 ++ le xs.length 1).length, c1⟩ : BS), (⟨xs, a, xs.length, c⟩ : BS)], cells true bC 0 ([(⟨(le seq 4 ++ le epoch 4 ++ le xs.length 1), a1, (le seq 4 ++ le epoch 4 ++ le xs.length 1).length, c1⟩ : BS), (⟨xs, a, xs.length, c⟩ : BS), (⟨List.replicate (43 - xs.length) 0, some ⟨bZ, 0, none⟩, 43 - xs.length, 43 - xs.length⟩ : BS)].map bsV), tblA])).trans (bytes_snoc.trans (Imp.refl _)))))))) ?_
      refine WPA.oneE 7 [] (by kernel_rfl) rfl rfl (by repeat (first | exact .nil | refine .anc rfl ?_ | refine .keep mm ?_)) (C1.call (c_call Tryd.func59 rfl rfl rfl) (c_Concat (p := true) (a := some ⟨bC, 0, none⟩) (n := 3) (c := 3) (xs := [(⟨(le seq 4 ++ le epoch 4 ++ le xs.length 1), a1, (le seq 4 ++ le epoch 4 ++ le xs.length 1).length, c1⟩ : BS), (⟨xs, a, xs.length, c⟩ : BS), (⟨List.replicate (43 - xs.length) 0, some ⟨bZ, 0, none⟩, 43 - xs.length, 43 - xs.length⟩ : BS)]) ⟨rfl, Nat.le_refl _, .inr (Pl.mk _ _)⟩ (by intro y hy; simp only [List.mem_cons, List.not_mem_nil, or_false] at hy; rcases hy with rfl | rfl | rfl <;> first | exact hs1 | exact hs | exact ⟨by simp, Nat.le_refl _, .inr (Pl.mk _ _)⟩) (by omega) (by simp [le_length]; omega)) pkk rfl ?_)
      rintro _ _ ⟨ah, ch, rfl, rfl⟩
      have hfl : [(⟨(le seq 4 ++ le epoch 4 ++ le xs.length 1), a1, (le seq 4 ++ le epoch 4 ++ le xs.length 1).length, c1⟩ : BS), (⟨xs, a, xs.length, c⟩ : BS), (⟨List.replicate (43 - xs.length) 0, some ⟨bZ, 0, none⟩, 43 - xs.length, 43 - xs.length⟩ : BS)].flatMap BS.bs = stampHead seq epoch xs := by simp [stampHead]
      have hfn : (stampHead seq epoch xs).length = 52 := stampHead_length (by omega)
      rw [hfl, hfn]
      refine ⟨(.nil _), ?_⟩
      refine WPA.putS ?_
      refine WPA.bufRo fun hsh => ?_
      refine atP 8 rfl ?_
      refine WPA.done (by kernel_rfl) ?_
      refine WPC.seqR ?_
      refine nw fun bV => ?_
      refine WPL.nil ?_
      refine WPC.imp (Imp.bufNil (sz := 1)) ?_
      refine WPC.imp ((Imp.pk).trans (wr_close (b := bV) (o := 0) (xs := []) none 0 0 (Γ := [sl false ah ((stampHead seq epoch xs).map u8), tblA]))) ?_
      have hcrc := crc_lt (stampHead seq epoch xs)
      refine WPC.prune [(0, _), (1, _), (6, _), (7, _), (9, _), (10, _)] sbb ?_
      refine WPC.seqR ?_
      refine stp ?_
      refine kall rfl (c_Sum (p := false) hsh (by omega)) ?_
      rintro _ _ ⟨rfl, rfl⟩
      refine stp ?_
      refine kall rfl (c_WNumber (xs := []) (v := crc (stampHead seq epoch xs)) (k := 4) (by omega) (by simp)) ?_
      rintro _ _ ⟨rfl, rfl⟩
      rw [List.nil_append]
      refine WPL.nil ?_
      refine WPC.seqR ?_
      iterate 2 refine stp ?_
      refine kall rfl (c_ends (xs := le (crc (stampHead seq epoch xs)) 4) h1 h2 (by simp [le_length])) ?_
      rintro _ _ ⟨rfl, rfl⟩
      refine WPL.nil ?_
      refine WPC.seqR ?_
      refine stp ?_
      refine kall rfl (c_WOut (xs := le (crc (stampHead seq epoch xs)) 4 ++ le seq 4 ++ le epoch 4) (by simp [le_length])) ?_
      rintro _ _ ⟨a2, c2, rfl, hs2, rfl⟩
      refine nwb [_, _] fun bD => ?_
      refine WPL.imp (bytes_nil.trans ((Imp.pk (Δ := [BS.at_ (⟨stampHead seq epoch xs, ah, 52, ch⟩ : BS), bytes [], cells true bD 0 ([(⟨stampHead seq epoch xs, ah, 52, ch⟩ : BS), (⟨(le (crc (stampHead seq epoch xs)) 4 ++ le seq 4 ++ le epoch 4), a2, (le (crc (stampHead seq epoch xs)) 4 ++ le seq 4 ++ le epoch 4).length, c2⟩ : BS)].map bsV), BS.at_ (⟨(le (crc (stampHead seq epoch xs)) 4 ++ le seq 4 ++ le epoch 4), a2, (le (crc (stampHead seq epoch xs)) 4 ++ le seq 4 ++ le epoch 4).length, c2⟩ : BS)])).trans (bytes_snoc.trans ((Imp.pk (Δ := [BS.at_ (⟨(le (crc (stampHead seq epoch xs)) 4 ++ le seq 4 ++ le epoch 4), a2, (le (crc (stampHead seq epoch xs)) 4 ++ le seq 4 ++ le epoch 4).length, c2⟩ : BS), bytes [(⟨stampHead seq epoch xs, ah, 52, ch⟩ : BS)], cells true bD 0 ([(⟨stampHead seq epoch xs, ah, 52, ch⟩ : BS), (⟨(le (crc (stampHead seq epoch xs)) 4 ++ le seq 4 ++ le epoch 4), a2, (le (crc (stampHead seq epoch xs)) 4 ++ le seq 4 ++ le epoch 4).length, c2⟩ : BS)].map bsV)])).trans (bytes_snoc.trans (Imp.refl _)))))) ?_
      refine kall rfl (c_Concat (p := true) (a := some ⟨bD, 0, none⟩) (n := 2) (c := 2) (xs := [(⟨stampHead seq epoch xs, ah, 52, ch⟩ : BS), (⟨(le (crc (stampHead seq epoch xs)) 4 ++ le seq 4 ++ le epoch 4), a2, (le (crc (stampHead seq epoch xs)) 4 ++ le seq 4 ++ le epoch 4).length, c2⟩ : BS)]) ⟨rfl, Nat.le_refl _, .inr (Pl.mk _ _)⟩ (by intro y hy; simp only [List.mem_cons, List.not_mem_nil, or_false] at hy; rcases hy with rfl | rfl <;> first | exact hsh | exact hs2) (by omega) (by simp [le_length, hfn])) ?_
      rintro _ _ ⟨a3, c3, rfl, rfl⟩
      have hf2 : [(⟨stampHead seq epoch xs, ah, 52, ch⟩ : BS), (⟨(le (crc (stampHead seq epoch xs)) 4 ++ le seq 4 ++ le epoch 4), a2, (le (crc (stampHead seq epoch xs)) 4 ++ le seq 4 ++ le epoch 4).length, c2⟩ : BS)].flatMap BS.bs = stamp seq epoch xs := by simp [stamp]
      have hf3 : (stamp seq epoch xs).length = 64 := stamp_length (by omega)
      rw [hf2, hf3]
      refine WPL.bufRo fun hs3 => ?_
      iterate 2 refine stp ?_
      refine WPL.nil ?_
      refine WPC.ret ?_
      exact endR_r rfl (.tmp rfl (.tmp rfl .nil)) Imp.pk ⟨a3, c3, rfl, hs3, rfl⟩

theorem c_Parse {a : Option Addr} {c : Nat} (s : Sec) (hs : Sok 1 a 64 c (s.1.map u8)) : Trip Tryd.prog 69 #[.slice a 64 c] [sl false a (s.1.map u8), tblA] fun r Δ => match parse s.1 with | some (seq, ep, xs) => (∃ a' c', r = .tuple #[.int .u32 (seq : Int), .int .u32 (ep : Int), .slice a' xs.length c', .bool true] ∧ Sok 1 a' xs.length c' (xs.map u8) ∧ Δ = [sl false a' (xs.map u8)]) | none => r = .tuple #[.int .u32 0, .int .u32 0, .slice none 0 0, .bool false] ∧ Δ = [] := by
  have hcap := hs.cap
  have hsl := s.2
  have s1 := hs.cutB (l := 0) (k := 52) (m := c) (by omega) (by omega) (by omega)
  have s2 := hs.cutB (l := 52) (k := 64) (m := c) (by omega) (by omega) (by omega)
  have i1 := Imp.cutRo hs (l := 0) (k := 52) (m := c) (Γ := [tblA]) (by omega) (by omega) (by omega)
  have i2 := Imp.cutRo hs (l := 52) (k := 64) (m := c) (Γ := [sl false a ((s.1.take 52).map u8), tblA]) (by omega) (by omega) (by omega)
  simp only [List.drop_zero, Nat.sub_zero, Nat.zero_mul, cut_zero] at s1 i1
  have e52 : (s.1.drop 52).take (64 - 52) = s.1.drop 52 := List.take_of_length_le (by simp; omega)
  rw [e52] at s2 i2
  refine Trip.imp (i1.trans ((Imp.perm (.swap _ _ _)).trans i2)) ?_
  have hN0 := num_lt s.1 0 4
  have hN4 := num_lt s.1 4 4
  have hN8 := num_lt s.1 8 1
  have hN52 := num_lt s.1 52 4
  have hN56 := num_lt s.1 56 4
  have hN60 := num_lt s.1 60 4
  simp only [num] at hN0 hN4 hN8 hN52 hN56 hN60
  refine Trip.start 69 [.tmp 2, .tmp 3, .tmp 4, .tmp 5] [(0, .slice a 64 c)] Tryd.func69 rfl Tryd.ntmps69 rfl ⟨rfl, trivial⟩ rfl ?_
  refine WPC.seqR ?_
  iterate 4 refine stp ?_
  refine WPL.nil ?_
  refine WPC.seq ?_
  refine WPC.seqR ?_
  iterate 3 refine stp ?_
  refine WPL.nil ?_
  refine WPC.cond rfl (fun h0 => ?_) (fun h0 => ?_)
  · try simp only [decide_eq_true_eq, decide_eq_false_iff_not, beq_iff_eq, bne_iff_ne, beq_eq_false_iff_ne, bne_eq_false_iff_eq, Bool.not_eq_true', Bool.not_eq_false', Bool.not_eq_eq_eq_not, Bool.not_true, Bool.not_false, ne_eq, Decidable.not_not, Int.not_lt, Int.not_le, gt_iff_lt, ge_iff_le] at h0
    simp at h0
  · skip
    refine WPC.skip ?_
    refine thenQ_n ?_
    refine WPC.seqD mixed ?_
    refine atP 0 rfl ?_
    refine WPA.takeP 1 rfl (q_sliceHi (j := 52) sl_sl_uint8 rfl rfl (by omega)) (by kernel_rfl) (by kernel_rfl) (by kernel_rfl) rfl rfl (.nil _) ?_
    refine WPA.putS ?_
    refine atP 3 rfl ?_
    refine WPA.takeP 4 rfl (q_sliceLoC (l := 52) sl_sl_uint8 rfl rfl (by omega) (by omega)) (by kernel_rfl) (by kernel_rfl) (by kernel_rfl) rfl rfl (.nil _) ?_
    refine WPA.putS ?_
    refine WPA.oneE 2 [] (by kernel_rfl) rfl rfl (by repeat (first | exact .nil | refine .anc rfl ?_ | refine .keep mm ?_)) (C1.call (c_call Tryd.func65 rfl rfl rfl) (c_Read s1) pkk rfl ?_)
    rintro _ _ ⟨bh, rfl, rfl⟩
    refine ⟨(.nil _), ?_⟩
    refine WPA.putS ?_
    refine WPA.oneE 5 [] (by kernel_rfl) rfl rfl (by repeat (first | exact .nil | refine .anc rfl ?_ | refine .keep mm ?_)) (C1.call (c_call Tryd.func65 rfl rfl rfl) (c_Read s2) pkk rfl ?_)
    rintro _ _ ⟨bt, rfl, rfl⟩
    refine ⟨(.nil _), ?_⟩
    refine WPA.putS ?_
    refine atP 6 rfl ?_
    refine atP 7 rfl ?_
    refine WPA.done (by kernel_rfl) ?_
    refine WPC.seqR ?_
    refine stp ?_
    refine kall rfl (c_RNumber (k := 4) (xs := (s.1.take 52).drop 0) (sh := false) (by omega) (by simp; omega)) ?_
    rintro _ _ ⟨rfl, rfl⟩
    simp only [show rtake ((s.1.take 52).drop 0) false 4 = (part s.1 0 4, (s.1.take 52).drop 4, false) from head_num hsl 0 4 (by omega)]
    iterate 2 refine stp ?_
    refine kall rfl (c_RNumber (k := 4) (xs := (s.1.take 52).drop 4) (sh := false) (by omega) (by simp; omega)) ?_
    rintro _ _ ⟨rfl, rfl⟩
    simp only [show rtake ((s.1.take 52).drop 4) false 4 = (part s.1 4 4, (s.1.take 52).drop 8, false) from head_num hsl 4 4 (by omega)]
    iterate 3 refine stp ?_
    refine WPL.nil ?_
    refine WPC.seqR ?_
    refine stp ?_
    refine kall rfl (c_RNumber (k := 1) (xs := (s.1.take 52).drop 8) (sh := false) (by omega) (by simp; omega)) ?_
    rintro _ _ ⟨rfl, rfl⟩
    simp only [show rtake ((s.1.take 52).drop 8) false 1 = (part s.1 8 1, (s.1.take 52).drop 9, false) from head_num hsl 8 1 (by omega)]
    iterate 2 refine stp ?_
    refine WPL.nil ?_
    refine WPC.prune [(0, _), (2, _), (3, _), (4, _), (5, _), (7, _), (8, _)] sbb ?_
    refine WPC.seqR ?_
    refine stp ?_
    refine kall rfl (c_RNumber (k := 4) (xs := (s.1.drop 52).drop 0) (sh := false) (by omega) (by simp; omega)) ?_
    rintro _ _ ⟨rfl, rfl⟩
    simp only [show rtake ((s.1.drop 52).drop 0) false 4 = (part s.1 52 4, (s.1.drop 52).drop 4, false) from tail_num hsl 0 4 (by omega)]
    iterate 2 refine stp ?_
    refine WPL.nil ?_
    refine WPC.seqR ?_
    refine stp ?_
    refine kall rfl (c_RNumber (k := 4) (xs := (s.1.drop 52).drop 4) (sh := false) (by omega) (by simp; omega)) ?_
    rintro _ _ ⟨rfl, rfl⟩
    simp only [show rtake ((s.1.drop 52).drop 4) false 4 = (part s.1 56 4, (s.1.drop 52).drop 8, false) from tail_num hsl 4 4 (by omega)]
    iterate 2 refine stp ?_
    refine kall rfl (c_RNumber (k := 4) (xs := (s.1.drop 52).drop 8) (sh := false) (by omega) (by simp; omega)) ?_
    rintro _ _ ⟨rfl, rfl⟩
    simp only [show rtake ((s.1.drop 52).drop 8) false 4 = (part s.1 60 4, (s.1.drop 52).drop 12, false) from tail_num hsl 8 4 (by omega)]
    iterate 3 refine stp ?_
    refine WPL.nil ?_
    refine WPC.seq ?_
    refine WPC.seqR ?_
    iterate 3 refine stp ?_
    apply WPL.joinO (e' := [(0, _), (2, _), (3, _), (4, _), (5, _), (8, _), (9, _), (11, _)]) 41 45 4 rfl
    · intro g8_2
      try simp only [decide_eq_true_eq, decide_eq_false_iff_not, beq_iff_eq, bne_iff_ne, beq_eq_false_iff_ne, bne_eq_false_iff_eq, Bool.not_eq_true', Bool.not_eq_false', Bool.not_eq_eq_eq_not, Bool.not_true, Bool.not_false, ne_eq, Decidable.not_not, Int.not_lt, Int.not_le, gt_iff_lt, ge_iff_le] at g8_2
      refine L_no rfl rfl rfl rfl ?_
      refine L_no rfl rfl rfl rfl ?_
      refine L_no rfl rfl rfl rfl ?_
      refine stp ?_
      first | exact WPL.jn rfl rfl sbb | exact WPL.jnI rfl rfl sbb Imp.pk
    · intro g8_2
      try simp only [decide_eq_true_eq, decide_eq_false_iff_not, beq_iff_eq, bne_iff_ne, beq_eq_false_iff_ne, bne_eq_false_iff_eq, Bool.not_eq_true', Bool.not_eq_false', Bool.not_eq_eq_eq_not, Bool.not_true, Bool.not_false, ne_eq, Decidable.not_not, Int.not_lt, Int.not_le, gt_iff_lt, ge_iff_le] at g8_2
      iterate 3 refine stpY rfl rfl ?_
      refine stp ?_
      first | exact WPL.jn rfl rfl sbb | exact WPL.jnI rfl rfl sbb Imp.pk
    refine stp ?_
    apply WPL.joinO (e' := [(0, _), (2, _), (3, _), (4, _), (5, _), (8, _), (9, _)]) 46 50 4 rfl
    · intro g8_7
      try simp only [decide_eq_true_eq, decide_eq_false_iff_not, beq_iff_eq, bne_iff_ne, beq_eq_false_iff_ne, bne_eq_false_iff_eq, Bool.not_eq_true', Bool.not_eq_false', Bool.not_eq_eq_eq_not, Bool.not_true, Bool.not_false, ne_eq, Decidable.not_not, Int.not_lt, Int.not_le, gt_iff_lt, ge_iff_le] at g8_7
      refine L_no rfl rfl rfl rfl ?_
      refine L_no rfl rfl rfl rfl ?_
      refine L_no rfl rfl rfl rfl ?_
      refine stp ?_
      first | exact WPL.jn rfl rfl sbb | exact WPL.jnI rfl rfl sbb Imp.pk
    · intro g8_7
      try simp only [decide_eq_true_eq, decide_eq_false_iff_not, beq_iff_eq, bne_iff_ne, beq_eq_false_iff_ne, bne_eq_false_iff_eq, Bool.not_eq_true', Bool.not_eq_false', Bool.not_eq_eq_eq_not, Bool.not_true, Bool.not_false, ne_eq, Decidable.not_not, Int.not_lt, Int.not_le, gt_iff_lt, ge_iff_le] at g8_7
      iterate 3 refine stpY rfl rfl ?_
      refine stp ?_
      first | exact WPL.jn rfl rfl sbb | exact WPL.jnI rfl rfl sbb Imp.pk
    refine stp ?_
    apply WPL.joinO (e' := [(0, _), (2, _), (3, _), (4, _), (5, _), (8, _), (9, _)]) 51 54 3 rfl
    · intro g8_12
      try simp only [decide_eq_true_eq, decide_eq_false_iff_not, beq_iff_eq, bne_iff_ne, beq_eq_false_iff_ne, bne_eq_false_iff_eq, Bool.not_eq_true', Bool.not_eq_false', Bool.not_eq_eq_eq_not, Bool.not_true, Bool.not_false, ne_eq, Decidable.not_not, Int.not_lt, Int.not_le, gt_iff_lt, ge_iff_le] at g8_12
      refine L_no rfl rfl rfl rfl ?_
      refine L_no rfl rfl rfl rfl ?_
      refine stp ?_
      first | exact WPL.jn rfl rfl sbb | exact WPL.jnI rfl rfl sbb Imp.pk
    · intro g8_12
      try simp only [decide_eq_true_eq, decide_eq_false_iff_not, beq_iff_eq, bne_iff_ne, beq_eq_false_iff_ne, bne_eq_false_iff_eq, Bool.not_eq_true', Bool.not_eq_false', Bool.not_eq_eq_eq_not, Bool.not_true, Bool.not_false, ne_eq, Decidable.not_not, Int.not_lt, Int.not_le, gt_iff_lt, ge_iff_le] at g8_12
      iterate 2 refine stpY rfl rfl ?_
      refine stp ?_
      first | exact WPL.jn rfl rfl sbb | exact WPL.jnI rfl rfl sbb Imp.pk
    refine stp ?_
    apply WPL.joinO (e' := [(0, _), (2, _), (3, _), (4, _), (5, _), (8, _)]) 55 61 6 rfl
    · intro g8_16
      try simp only [decide_eq_true_eq, decide_eq_false_iff_not, beq_iff_eq, bne_iff_ne, beq_eq_false_iff_ne, bne_eq_false_iff_eq, Bool.not_eq_true', Bool.not_eq_false', Bool.not_eq_eq_eq_not, Bool.not_true, Bool.not_false, ne_eq, Decidable.not_not, Int.not_lt, Int.not_le, gt_iff_lt, ge_iff_le] at g8_16
      refine L_no rfl rfl rfl rfl ?_
      refine L_no rfl rfl rfl rfl ?_
      refine L_no rfl rfl rfl rfl ?_
      refine L_no rfl rfl rfl rfl ?_
      refine L_no rfl rfl rfl rfl ?_
      refine stp ?_
      first | exact WPL.jn rfl rfl sbb | exact WPL.jnI rfl rfl sbb Imp.pk
    · intro g8_16
      try simp only [decide_eq_true_eq, decide_eq_false_iff_not, beq_iff_eq, bne_iff_ne, beq_eq_false_iff_ne, bne_eq_false_iff_eq, Bool.not_eq_true', Bool.not_eq_false', Bool.not_eq_eq_eq_not, Bool.not_true, Bool.not_false, ne_eq, Decidable.not_not, Int.not_lt, Int.not_le, gt_iff_lt, ge_iff_le] at g8_16
      iterate 2 refine stpY rfl rfl ?_
      refine L_yes rfl rfl (q_sliceHi (j := 52) sl_sl_uint8 rfl rfl (by omega)) rfl ?_
      refine L_eyes rfl rfl rfl (C1.call (c_call Tryd.func61 rfl rfl rfl) (c_Sum (p := false) s1 (by omega)) pkk rfl ?_)
      rintro _ _ ⟨rfl, rfl⟩
      refine WPL.putS ?_
      refine stpY rfl rfl ?_
      refine stp ?_
      first | exact WPL.jn rfl rfl sbb | exact WPL.jnI rfl rfl sbb Imp.pk
    refine WPL.nil ?_
    refine WPC.cond rfl (fun h1 => ?_) (fun h1 => ?_)
    · simp only [Bool.or_eq_true, beq_iff_eq, bne_iff_ne, ne_eq, decide_eq_true_eq] at h1
      have hp : parse s.1 = none := by unfold parse; rw [if_pos (by simp only [num]; omega)]
      refine WPC.seqR ?_
      iterate 4 refine stp ?_
      refine WPL.nil ?_
      refine WPC.ret ?_
      refine thenQ_r ?_
      rw [hp]
      exact endR_r rfl (.tmp rfl (.tmp rfl (.tmp rfl (.tmp rfl .nil)))) Imp.pk ⟨rfl, rfl⟩
    · simp only [Bool.or_eq_false_iff, beq_eq_false_iff_ne, bne_eq_false_iff_eq, ne_eq, decide_eq_false_iff_not] at h1
      have hp : parse s.1 = some (num s.1 0 4, num s.1 4 4, part s.1 9 (num s.1 8 1)) := by unfold parse; rw [if_neg (by simp only [num]; omega)]
      have hn43 : ofLE (part s.1 8 1) ≤ 43 := by omega
      have s3 := hs.cutB (l := 9) (k := 9 + ofLE (part s.1 8 1)) (m := c) (by omega) (by omega) (by omega)
      rw [Nat.add_sub_cancel_left] at s3
      refine WPC.skip ?_
      refine thenQ_n ?_
      refine WPC.seqR ?_
      iterate 4 refine stp ?_
      refine L_s (q_addN (a := 9) (b := ofLE (part s.1 8 1)) rfl rfl (by omega)) rfl ?_
      refine L_s (q_sliceLH (l := 9) (j := 9 + ofLE (part s.1 8 1)) sl_sl_uint8 rfl rfl rfl (by omega) (by omega)) rfl ?_
      rw [Nat.add_sub_cancel_left]
      have i3 := Imp.cutRo hs (l := 9) (k := 9 + ofLE (part s.1 8 1)) (m := c) (Γ := []) (by omega) (by omega) (by omega)
      rw [Nat.add_sub_cancel_left] at i3
      refine WPL.imp ((Imp.pk).trans i3) ?_
      refine kall rfl (c_CloneB (p := false) s3 (by omega)) ?_
      rintro _ _ ⟨a', c', rfl, rfl⟩
      refine WPL.bufRo fun hs' => ?_
      iterate 4 refine stp ?_
      refine WPL.nil ?_
      refine WPC.ret ?_
      rw [hp]
      have hpl : (part s.1 9 (ofLE (part s.1 8 1))).length = ofLE (part s.1 8 1) := by
        show ((s.1.drop 9).take _).length = _
        rw [List.length_take, List.length_drop]; omega
      exact endR_r rfl (.tmp rfl (.tmp rfl (.tmp rfl (.tmp rfl .nil)))) Imp.pk ⟨a', c', by simp only [packV]; rw [hpl], by rw [hpl]; exact hs', rfl⟩

end Go.Sl
/- Walks: disks. -/
namespace Go.Sl
open Go Go.RowKit Go.Proofs
set_option linter.unusedSimpArgs false
set_option linter.unusedVariables false
attribute [local irreducible] faB szB ldB zB zL slB mkB arB plB intB cells objc star stars buf slv grp whole Sat WPC WPL WPA WPO WPQ Trip Q1 E1 S1 C1

theorem c_done {b : Nat} {d : DK} {L : DL} (hf : -9223372036854775808 ≤ d.fuse ∧ d.fuse ≤ 9223372036854775807) : Trip Tryd.prog 56 #[.pointer (some ⟨b, 0, none⟩)] [cells true b 0 (diskC d L)] fun r Δ => r = .bool (!d.done.down) ∧ Δ = [cells true b 0 (diskC d.done L)] := by
  obtain ⟨seen, sure, pend, fuse, down⟩ := d
  dsimp only at hf
  dsimp only [diskC, DK.done]
  refine Trip.start 35 [.tmp 2] [(0, .pointer (some ⟨b, 0, none⟩))] Tryd.func56 rfl Tryd.ntmps56 rfl ⟨rfl, trivial⟩ rfl ?_
  refine WPC.seqR ?_
  refine stp ?_
  refine WPL.nil ?_
  refine WPC.seqR ?_
  iterate 6 refine stp ?_
  apply WPL.joinO (e' := [(0, _), (2, _), (3, _)]) 8 14 6 rfl
  · intro g1_5
    try simp only [decide_eq_true_eq, decide_eq_false_iff_not, beq_iff_eq, bne_iff_ne, beq_eq_false_iff_ne, bne_eq_false_iff_eq, Bool.not_eq_true', Bool.not_eq_false', Bool.not_eq_eq_eq_not, Bool.not_true, Bool.not_false, ne_eq, Decidable.not_not, Int.not_lt, Int.not_le, gt_iff_lt, ge_iff_le] at g1_5
    refine L_no rfl rfl rfl rfl ?_
    refine L_no rfl rfl rfl rfl ?_
    refine L_no rfl rfl rfl rfl ?_
    refine L_no rfl rfl rfl rfl ?_
    refine L_no rfl rfl rfl rfl ?_
    refine stp ?_
    first | exact WPL.jn rfl rfl sbb | exact WPL.jnI rfl rfl sbb Imp.pk
  · intro g1_5
    try simp only [decide_eq_true_eq, decide_eq_false_iff_not, beq_iff_eq, bne_iff_ne, beq_eq_false_iff_ne, bne_eq_false_iff_eq, Bool.not_eq_true', Bool.not_eq_false', Bool.not_eq_eq_eq_not, Bool.not_true, Bool.not_false, ne_eq, Decidable.not_not, Int.not_lt, Int.not_le, gt_iff_lt, ge_iff_le] at g1_5
    iterate 5 refine stpY rfl rfl ?_
    refine stp ?_
    first | exact WPL.jn rfl rfl sbb | exact WPL.jnI rfl rfl sbb Imp.pk
  iterate 2 refine stp ?_
  refine sto ?_
  refine WPL.nil ?_
  refine WPC.seqD mixed ?_
  refine atP 0 rfl ?_
  refine atP 1 rfl ?_
  refine atP 2 rfl ?_
  refine atL 3 rfl ?_
  refine atP 4 rfl ?_
  refine atP 5 rfl ?_
  refine atP 6 rfl ?_
  refine atL 7 rfl ?_
  refine atP 8 rfl ?_
  refine atP 9 rfl ?_
  refine atP 10 rfl ?_
  refine atP 11 rfl ?_
  refine atP 12 rfl ?_
  refine WPA.oneE 13 [] (by kernel_rfl) rfl rfl (by repeat (first | exact .nil | refine .anc rfl ?_ | refine .keep mm ?_)) (S1.wpo (s_store1k sz_int rfl rfl rfl rfl uu (by repeat constructor)) rfl ?_)
  refine ⟨(.nil _), ?_⟩
  refine WPA.putN ?_
  refine WPA.done (by kernel_rfl) ?_
  refine WPC.seqR ?_
  iterate 6 refine stp ?_
  refine WPL.nil ?_
  refine WPC.ret ?_
  exact endR_r rfl (.tmp rfl .nil) Imp.pk ⟨rfl, rfl⟩

theorem c_has_ {b : Nat} {d : DK} {L : DL} (i : Int) : Trip Tryd.prog 62 #[.pointer (some ⟨b, 0, none⟩), .int .i64 i] [cells true b 0 (diskC d L)] fun r Δ => r = .bool (decide (0 ≤ i) && decide (i < (d.seen.length : Int))) ∧ Δ = [cells true b 0 (diskC d L)] := by
  refine Trip.start 16 [.tmp 4] [(0, .pointer (some ⟨b, 0, none⟩)), (1, .int .i64 i)] Tryd.func62 rfl Tryd.ntmps62 rfl ⟨rfl, rfl, trivial⟩ rfl ?_
  refine WPC.seqR ?_
  refine stp ?_
  refine WPL.nil ?_
  refine WPC.seqR ?_
  iterate 3 refine stp ?_
  apply WPL.joinA (e' := [(4, _)]) 7 15 8 rfl
  · intro g1_2
    try simp only [decide_eq_true_eq, decide_eq_false_iff_not, beq_iff_eq, bne_iff_ne, beq_eq_false_iff_ne, bne_eq_false_iff_eq, Bool.not_eq_true', Bool.not_eq_false', Bool.not_eq_eq_eq_not, Bool.not_true, Bool.not_false, ne_eq, Decidable.not_not, Int.not_lt, Int.not_le, gt_iff_lt, ge_iff_le] at g1_2
    iterate 7 refine stpY rfl rfl ?_
    refine stp ?_
    first | exact WPL.jn rfl rfl sbb | exact WPL.jnI rfl rfl sbb Imp.pk
  · intro g1_2
    try simp only [decide_eq_true_eq, decide_eq_false_iff_not, beq_iff_eq, bne_iff_ne, beq_eq_false_iff_ne, bne_eq_false_iff_eq, Bool.not_eq_true', Bool.not_eq_false', Bool.not_eq_eq_eq_not, Bool.not_true, Bool.not_false, ne_eq, Decidable.not_not, Int.not_lt, Int.not_le, gt_iff_lt, ge_iff_le] at g1_2
    refine L_no rfl rfl rfl rfl ?_
    refine L_no rfl rfl rfl rfl ?_
    refine L_no rfl rfl rfl rfl ?_
    refine L_no rfl rfl rfl rfl ?_
    refine L_no rfl rfl rfl rfl ?_
    refine L_no rfl rfl rfl rfl ?_
    refine L_no rfl rfl rfl rfl ?_
    refine stp ?_
    first | exact WPL.jn rfl rfl sbb | exact WPL.jnI rfl rfl sbb Imp.pk
  refine stp ?_
  refine WPL.nil ?_
  refine WPC.ret ?_
  exact endR_r rfl (.tmp rfl .nil) Imp.pk ⟨rfl, rfl⟩

theorem c_DLen {b : Nat} {d : DK} {L : DL} : Trip Tryd.prog 39 #[.pointer (some ⟨b, 0, none⟩)] [cells true b 0 (diskC d L)] fun r Δ => r = .int .i64 (d.seen.length : Int) ∧ Δ = [cells true b 0 (diskC d L)] := by
  refine Trip.start 8 [.tmp 2] [(0, .pointer (some ⟨b, 0, none⟩))] Tryd.func39 rfl Tryd.ntmps39 rfl ⟨rfl, trivial⟩ rfl ?_
  refine WPC.seqR ?_
  refine stp ?_
  refine WPL.nil ?_
  refine WPC.seqR ?_
  iterate 6 refine stp ?_
  refine WPL.nil ?_
  refine WPC.ret ?_
  exact endR_r rfl (.tmp rfl .nil) Imp.pk ⟨rfl, rfl⟩

theorem c_Down {b : Nat} {d : DK} {L : DL} : Trip Tryd.prog 78 #[.pointer (some ⟨b, 0, none⟩)] [cells true b 0 (diskC d L)] fun r Δ => r = .bool d.down ∧ Δ = [cells true b 0 (diskC d L)] := by
  refine Trip.start 7 [.tmp 2] [(0, .pointer (some ⟨b, 0, none⟩))] Tryd.func78 rfl Tryd.ntmps78 rfl ⟨rfl, trivial⟩ rfl ?_
  refine WPC.seqR ?_
  refine stp ?_
  refine WPL.nil ?_
  refine WPC.seqR ?_
  iterate 5 refine stp ?_
  refine WPL.nil ?_
  refine WPC.ret ?_
  exact endR_r rfl (.tmp rfl .nil) Imp.pk ⟨rfl, rfl⟩

theorem c_Pending {b : Nat} {d : DK} {L : DL} : Trip Tryd.prog 28 #[.pointer (some ⟨b, 0, none⟩)] [cells true b 0 (diskC d L)] fun r Δ => r = .int .i64 (d.pend.length : Int) ∧ Δ = [cells true b 0 (diskC d L)] := by
  refine Trip.start 8 [.tmp 2] [(0, .pointer (some ⟨b, 0, none⟩))] Tryd.func28 rfl Tryd.ntmps28 rfl ⟨rfl, trivial⟩ rfl ?_
  refine WPC.seqR ?_
  refine stp ?_
  refine WPL.nil ?_
  refine WPC.seqR ?_
  iterate 6 refine stp ?_
  refine WPL.nil ?_
  refine WPC.ret ?_
  exact endR_r rfl (.tmp rfl .nil) Imp.pk ⟨rfl, rfl⟩

theorem c_Fuse {b : Nat} {d : DK} {L : DL} (f : Int) : Trip Tryd.prog 17 #[.pointer (some ⟨b, 0, none⟩), .int .i64 f] [cells true b 0 (diskC d L)] fun r Δ => r = .tuple #[] ∧ Δ = [cells true b 0 (diskC { d with fuse := f } L)] := by
  obtain ⟨seen, sure, pend, fuse, down⟩ := d
  refine Trip.start 8 [] [(0, .pointer (some ⟨b, 0, none⟩)), (1, .int .i64 f)] Tryd.func17 rfl Tryd.ntmps17 rfl ⟨rfl, rfl, trivial⟩ rfl ?_
  refine WPC.region ?_
  iterate 4 refine stp ?_
  refine sto ?_
  refine WPL.nil ?_
  exact endR_n rfl .nil Imp.pk ⟨rfl, rfl⟩

theorem c_CloneS {p : Bool} {a : Option Addr} {n c : Nat} {xs : List Sec} (hs : Sok 64 a n c (xs.flatMap encS)) (hn : n ≤ 512) : Trip Tryd.prog 38 #[.slice a n c] [sl p a (xs.flatMap encS)] fun r Δ => ∃ a' c', r = .slice a' n c' ∧ Δ = [buf 64 a' n c' (xs.flatMap encS), sl p a (xs.flatMap encS)] := by
  refine Trip.start 8 [.tmp 2] [(0, .slice a n c)] Tryd.func38 rfl Tryd.ntmps38 rfl ⟨rfl, trivial⟩ rfl ?_
  refine WPC.seqR ?_
  refine stp ?_
  refine WPL.nil ?_
  refine WPC.seq ?_
  refine WPC.seqR ?_
  iterate 2 refine stp ?_
  refine WPL.nil ?_
  refine WPC.cond rfl (fun h0 => ?_) (fun h0 => ?_)
  · simp only [Option.isNone_iff_eq_none] at h0
    have h1 := hs.none0 (by omega) h0
    subst h0 h1
    have h2 : xs.flatMap encS = [] := List.eq_nil_of_length_eq_zero (by simpa using hs.len)
    rw [h2]
    refine WPC.seqR ?_
    refine stp ?_
    refine WPL.nil ?_
    refine WPC.ret ?_
    refine thenQ_r ?_
    exact endR_r rfl (.tmp rfl .nil) (Imp.bufNil.trans Imp.pk) ⟨none, 0, rfl, rfl⟩
  · skip
    refine WPC.skip ?_
    refine thenQ_n ?_
    refine WPC.seqR ?_
    refine nwb [] fun b1 => ?_
    refine stp ?_
    refine WPL.imp (Imp.bufNew (sz := 64) (n := 0) (cs := []) rfl) ?_
    refine WPL.cons rfl (E1.wpo (e_append (n := 0) (cs := []) mk_sl_disk_sector (by decide) rfl rfl (Pick1.here (c := buf 64 (some ⟨b1, 0, none⟩) 0 0 [])) (Rd.mem hs (hs.none0 (by omega)) (p := p) mm) (flatS_one xs) (by omega) (by omega)) rfl ?_)
    rintro _ _ ⟨a', c', rfl, -, rfl⟩
    simp only [Nat.zero_add, List.nil_append]
    refine WPL.putS ?_
    refine stp ?_
    refine WPL.nil ?_
    refine WPC.ret ?_
    exact endR_r rfl (.tmp rfl .nil) Imp.pk ⟨a', c', rfl, rfl⟩

theorem c_DNewErr {i : Int} (hi : i < 1 ∨ 512 < i) : Trip Tryd.prog 19 #[.int .i64 i] [] fun r Δ => r = .tuple #[.pointer none, .int .i64 1] ∧ Δ = [] := by
  refine Trip.start 16 [.tmp 2, .tmp 3] [(0, .int .i64 i)] Tryd.func19 rfl Tryd.ntmps19 rfl ⟨rfl, trivial⟩ rfl ?_
  refine WPC.seqR ?_
  iterate 2 refine stp ?_
  refine WPL.nil ?_
  refine WPC.seq ?_
  refine WPC.seqR ?_
  iterate 3 refine stp ?_
  apply WPL.joinO (e' := [(0, _), (2, _), (3, _)]) 6 9 3 rfl
  · intro g1_2
    try simp only [decide_eq_true_eq, decide_eq_false_iff_not, beq_iff_eq, bne_iff_ne, beq_eq_false_iff_ne, bne_eq_false_iff_eq, Bool.not_eq_true', Bool.not_eq_false', Bool.not_eq_eq_eq_not, Bool.not_true, Bool.not_false, ne_eq, Decidable.not_not, Int.not_lt, Int.not_le, gt_iff_lt, ge_iff_le] at g1_2
    refine L_no rfl rfl rfl rfl ?_
    refine L_no rfl rfl rfl rfl ?_
    refine stp ?_
    first | exact WPL.jn rfl rfl sbb | exact WPL.jnI rfl rfl sbb Imp.pk
  · intro g1_2
    try simp only [decide_eq_true_eq, decide_eq_false_iff_not, beq_iff_eq, bne_iff_ne, beq_eq_false_iff_ne, bne_eq_false_iff_eq, Bool.not_eq_true', Bool.not_eq_false', Bool.not_eq_eq_eq_not, Bool.not_true, Bool.not_false, ne_eq, Decidable.not_not, Int.not_lt, Int.not_le, gt_iff_lt, ge_iff_le] at g1_2
    iterate 2 refine stpY rfl rfl ?_
    refine stp ?_
    first | exact WPL.jn rfl rfl sbb | exact WPL.jnI rfl rfl sbb Imp.pk
  refine WPL.nil ?_
  refine WPC.cond rfl (fun h0 => ?_) (fun h0 => ?_)
  · skip
    refine WPC.seqR ?_
    iterate 2 refine stp ?_
    refine WPL.nil ?_
    refine WPC.ret ?_
    refine thenQ_r ?_
    exact endR_r rfl (.tmp rfl (.tmp rfl .nil)) Imp.pk ⟨rfl, rfl⟩
  · try simp only [decide_eq_true_eq, decide_eq_false_iff_not, beq_iff_eq, bne_iff_ne, beq_eq_false_iff_ne, bne_eq_false_iff_eq, Bool.not_eq_true', Bool.not_eq_false', Bool.not_eq_eq_eq_not, Bool.not_true, Bool.not_false, ne_eq, Decidable.not_not, Int.not_lt, Int.not_le, gt_iff_lt, ge_iff_le] at h0
    simp only [Bool.or_eq_false_iff, decide_eq_false_iff_not] at h0
    omega

theorem c_DNew {k : Nat} (hk : 1 ≤ k ∧ k ≤ 512) : Trip Tryd.prog 19 #[.int .i64 (k : Int)] [] fun r Δ => ∃ b, r = .tuple #[.pointer (some ⟨b, 0, none⟩), .int .i64 0] ∧ Δ = [disk b (DK.new k)] := by
  refine Trip.start 16 [.tmp 2, .tmp 3] [(0, .int .i64 (k : Int))] Tryd.func19 rfl Tryd.ntmps19 rfl ⟨rfl, trivial⟩ rfl ?_
  refine WPC.seqR ?_
  iterate 2 refine stp ?_
  refine WPL.nil ?_
  refine WPC.seq ?_
  refine WPC.seqR ?_
  iterate 3 refine stp ?_
  apply WPL.joinO (e' := [(0, _), (2, _), (3, _)]) 6 9 3 rfl
  · intro g1_2
    try simp only [decide_eq_true_eq, decide_eq_false_iff_not, beq_iff_eq, bne_iff_ne, beq_eq_false_iff_ne, bne_eq_false_iff_eq, Bool.not_eq_true', Bool.not_eq_false', Bool.not_eq_eq_eq_not, Bool.not_true, Bool.not_false, ne_eq, Decidable.not_not, Int.not_lt, Int.not_le, gt_iff_lt, ge_iff_le] at g1_2
    refine L_no rfl rfl rfl rfl ?_
    refine L_no rfl rfl rfl rfl ?_
    refine stp ?_
    first | exact WPL.jn rfl rfl sbb | exact WPL.jnI rfl rfl sbb Imp.pk
  · intro g1_2
    try simp only [decide_eq_true_eq, decide_eq_false_iff_not, beq_iff_eq, bne_iff_ne, beq_eq_false_iff_ne, bne_eq_false_iff_eq, Bool.not_eq_true', Bool.not_eq_false', Bool.not_eq_eq_eq_not, Bool.not_true, Bool.not_false, ne_eq, Decidable.not_not, Int.not_lt, Int.not_le, gt_iff_lt, ge_iff_le] at g1_2
    iterate 2 refine stpY rfl rfl ?_
    refine stp ?_
    first | exact WPL.jn rfl rfl sbb | exact WPL.jnI rfl rfl sbb Imp.pk
  refine WPL.nil ?_
  refine WPC.cond rfl (fun h0 => ?_) (fun h0 => ?_)
  · try simp only [decide_eq_true_eq, decide_eq_false_iff_not, beq_iff_eq, bne_iff_ne, beq_eq_false_iff_ne, bne_eq_false_iff_eq, Bool.not_eq_true', Bool.not_eq_false', Bool.not_eq_eq_eq_not, Bool.not_true, Bool.not_false, ne_eq, Decidable.not_not, Int.not_lt, Int.not_le, gt_iff_lt, ge_iff_le] at h0
    simp only [Bool.or_eq_true, decide_eq_true_eq] at h0
    omega
  · skip
    refine WPC.skip ?_
    refine thenQ_n ?_
    refine WPC.seqD mixed ?_
    refine atP 0 rfl ?_
    refine atP 2 rfl ?_
    refine WPA.two 1 3 (by kernel_rfl) ?_ ?_
    · refine Eff.mk 1 [] rfl rfl (by repeat (first | exact .nil | refine .anc rfl ?_ | refine .keep mm ?_)) (E1.wpo (e_make (n := (k : Int)) (c := (k : Int)) mk_sl_disk_sector (by decide) rfl rfl (by omega) (by omega) (by omega) (by omega)) rfl ?_)
      rintro _ _ ⟨bs, rfl, rfl⟩
      rw [show ((k : Int)).toNat = k by omega, show repZ (List.replicate 64 (.int .u8 0)) k = (List.replicate k Sec.zero).flatMap encS from zeros_flat k _ rfl]
      refine ⟨(.nil _), ?_⟩
      refine WPA.putS ?_
      refine WPA.oneE 3 [] (by kernel_rfl) rfl rfl (by repeat (first | exact .nil | refine .anc rfl ?_ | refine .keep mm ?_)) (E1.wpo (e_make (n := (k : Int)) (c := (k : Int)) mk_sl_disk_sector (by decide) rfl rfl (by omega) (by omega) (by omega) (by omega)) rfl ?_)
      rintro _ _ ⟨bu, rfl, rfl⟩
      rw [show ((k : Int)).toNat = k by omega, show repZ (List.replicate 64 (.int .u8 0)) k = (List.replicate k Sec.zero).flatMap encS from zeros_flat k _ rfl]
      refine ⟨(.nil _), ?_⟩
      refine WPA.putS ?_
      refine WPA.takeP 4 rfl (q_build (cs := [_, _, _, _, _]) pl_disk_Disk rfl rfl) (by kernel_rfl) (by kernel_rfl) (by kernel_rfl) rfl rfl (.nil _) ?_
      refine WPA.putS ?_
      first | refine WPA.oneE 5 [] (by kernel_rfl) rfl rfl (by repeat (first | exact .nil | refine .anc rfl ?_ | refine .keep mm ?_)) (E1.wpo (e_boxN rfl) rfl ?_) | refine WPA.oneE 5 [] (by kernel_rfl) rfl rfl (by repeat (first | exact .nil | refine .anc rfl ?_ | refine .keep mm ?_)) (E1.wpo (e_box1 rfl rfl) rfl ?_)
      rintro _ _ ⟨bd, rfl, rfl⟩
      refine ⟨(.nil _), ?_⟩
      refine WPA.putS ?_
      refine atP 6 rfl ?_
      refine atP 7 rfl ?_
      refine WPA.done (by kernel_rfl) ?_
      refine WPC.ret ?_
      have hl : ((List.replicate k Sec.zero).flatMap encS).length = k * 64 := by rw [flat_length encS_len]; simp
      have hz : (DK.new k).seen.length = k := by simp [DK.new]
      have hz2 : (DK.new k).sure.length = k := by simp [DK.new]
      have hc := disk_close (b := bd) (d := DK.new k) ⟨some ⟨bs, 0, none⟩, k, some ⟨bu, 0, none⟩, k, none, 0⟩ ⟨by rw [hz]; exact ⟨hl, Nat.le_refl _, .inr (Pl.mk _ _)⟩, by rw [hz2]; exact ⟨hl, Nat.le_refl _, .inr (Pl.mk _ _)⟩⟩ (Γ := [])
      simp only [diskC, hz, hz2] at hc
      exact endR_r rfl (.tmp rfl (.tmp rfl .nil)) (Imp.bufNil.trans ((Imp.pk).trans hc)) ⟨bd, rfl, rfl⟩
    · refine Eff.mk 3 [] rfl rfl (by repeat (first | exact .nil | refine .anc rfl ?_ | refine .keep mm ?_)) (E1.wpo (e_make (n := (k : Int)) (c := (k : Int)) mk_sl_disk_sector (by decide) rfl rfl (by omega) (by omega) (by omega) (by omega)) rfl ?_)
      rintro _ _ ⟨bu, rfl, rfl⟩
      rw [show ((k : Int)).toNat = k by omega, show repZ (List.replicate 64 (.int .u8 0)) k = (List.replicate k Sec.zero).flatMap encS from zeros_flat k _ rfl]
      refine ⟨(.nil _), ?_⟩
      refine WPA.putS ?_
      refine WPA.oneE 1 [] (by kernel_rfl) rfl rfl (by repeat (first | exact .nil | refine .anc rfl ?_ | refine .keep mm ?_)) (E1.wpo (e_make (n := (k : Int)) (c := (k : Int)) mk_sl_disk_sector (by decide) rfl rfl (by omega) (by omega) (by omega) (by omega)) rfl ?_)
      rintro _ _ ⟨bs, rfl, rfl⟩
      rw [show ((k : Int)).toNat = k by omega, show repZ (List.replicate 64 (.int .u8 0)) k = (List.replicate k Sec.zero).flatMap encS from zeros_flat k _ rfl]
      refine ⟨(.nil _), ?_⟩
      refine WPA.putS ?_
      refine WPA.takeP 4 rfl (q_build (cs := [_, _, _, _, _]) pl_disk_Disk rfl rfl) (by kernel_rfl) (by kernel_rfl) (by kernel_rfl) rfl rfl (.nil _) ?_
      refine WPA.putS ?_
      first | refine WPA.oneE 5 [] (by kernel_rfl) rfl rfl (by repeat (first | exact .nil | refine .anc rfl ?_ | refine .keep mm ?_)) (E1.wpo (e_boxN rfl) rfl ?_) | refine WPA.oneE 5 [] (by kernel_rfl) rfl rfl (by repeat (first | exact .nil | refine .anc rfl ?_ | refine .keep mm ?_)) (E1.wpo (e_box1 rfl rfl) rfl ?_)
      rintro _ _ ⟨bd, rfl, rfl⟩
      refine ⟨(.nil _), ?_⟩
      refine WPA.putS ?_
      refine atP 6 rfl ?_
      refine atP 7 rfl ?_
      refine WPA.done (by kernel_rfl) ?_
      refine WPC.ret ?_
      have hl : ((List.replicate k Sec.zero).flatMap encS).length = k * 64 := by rw [flat_length encS_len]; simp
      have hz : (DK.new k).seen.length = k := by simp [DK.new]
      have hz2 : (DK.new k).sure.length = k := by simp [DK.new]
      have hc := disk_close (b := bd) (d := DK.new k) ⟨some ⟨bs, 0, none⟩, k, some ⟨bu, 0, none⟩, k, none, 0⟩ ⟨by rw [hz]; exact ⟨hl, Nat.le_refl _, .inr (Pl.mk _ _)⟩, by rw [hz2]; exact ⟨hl, Nat.le_refl _, .inr (Pl.mk _ _)⟩⟩ (Γ := [])
      simp only [diskC, hz, hz2] at hc
      exact endR_r rfl (.tmp rfl (.tmp rfl .nil)) (Imp.bufNil.trans ((Imp.pk).trans hc)) ⟨bd, rfl, rfl⟩

end Go.Sl
/- Walks: writing, reading, syncing. -/
namespace Go.Sl
open Go Go.RowKit Go.Proofs
set_option linter.unusedSimpArgs false
set_option linter.unusedVariables false
attribute [local irreducible] faB szB ldB zB zL slB mkB arB plB intB cells objc star stars buf slv grp whole Sat WPC WPL WPA WPO WPQ Trip Q1 E1 S1 C1

theorem c_Write {b c : Nat} {d : DK} {a : Option Addr} {i : Int} {xs : List By} (hok : d.ok) (hpl : d.pend.length < 1000000) (hs : Sok 1 a xs.length c (xs.map u8)) : Trip Tryd.prog 36 #[.pointer (some ⟨b, 0, none⟩), .int .i64 i, .slice a xs.length c] [disk b d, sl false a (xs.map u8)] fun r Δ => r = .int .i64 (d.write i xs).2 ∧ Δ = [disk b (d.write i xs).1] := by
  refine disk_open fun L hL => ?_
  obtain ⟨sa, sc, ua, uc, pa, pc⟩ := L
  obtain ⟨hS, hU⟩ := hL
  dsimp only at hS hU
  refine Trip.start 45 [.tmp 6] [(0, .pointer (some ⟨b, 0, none⟩)), (1, .int .i64 i), (2, .slice a xs.length c)] Tryd.func36 rfl Tryd.ntmps36 rfl ⟨rfl, rfl, rfl, trivial⟩ rfl ?_
  refine WPC.seqR ?_
  refine stp ?_
  refine WPL.nil ?_
  refine WPC.seq ?_
  refine WPC.block ?_
  refine WPC.seqR ?_
  iterate 2 refine stp ?_
  refine kall rfl (c_has_ (L := (⟨sa, sc, ua, uc, pa, pc⟩ : DL)) i) ?_
  rintro _ _ ⟨rfl, rfl⟩
  iterate 2 refine stp ?_
  refine WPL.nil ?_
  refine WPC.cond rfl (fun h0 => ?_) (fun h0 => ?_)
  · have ew : d.write i xs = (d, 40) := by unfold DK.write; rw [if_pos (by simp at h0; omega)]
    rw [ew]
    refine WPC.seqR ?_
    refine stp ?_
    refine WPL.nil ?_
    refine WPC.ret ?_
    refine blockQ_r ?_
    refine thenQ_r ?_
    exact endR_r rfl (.tmp rfl .nil) ((Imp.pk).trans (disk_close (b := b) (d := d) (⟨sa, sc, ua, uc, pa, pc⟩ : DL) ⟨hS, hU⟩ (Γ := []))) ⟨rfl, rfl⟩
  · have hin : 0 ≤ i ∧ i < (d.seen.length : Int) := by simpa using h0
    obtain ⟨k, rfl⟩ : ∃ k : Nat, i = (k : Int) := ⟨i.toNat, by omega⟩
    have hk : k < d.seen.length := by omega
    refine WPC.seqR ?_
    iterate 4 refine stp ?_
    refine WPL.nil ?_
    refine WPC.cond rfl (fun h1 => ?_) (fun h1 => ?_)
    · have ew : d.write k xs = (d, 2) := by unfold DK.write; rw [if_neg (by omega), if_pos (by simp at h1; omega)]
      rw [ew]
      refine WPC.seqR ?_
      refine stp ?_
      refine WPL.nil ?_
      refine WPC.ret ?_
      refine blockQ_r ?_
      refine thenQ_r ?_
      exact endR_r rfl (.tmp rfl .nil) ((Imp.pk).trans (disk_close (b := b) (d := d) (⟨sa, sc, ua, uc, pa, pc⟩ : DL) ⟨hS, hU⟩ (Γ := []))) ⟨rfl, rfl⟩
    · have hx64 : xs.length ≤ 64 := by simp at h1; omega
      refine WPC.seqR ?_
      refine stp ?_
      refine kall rfl (c_done (L := (⟨sa, sc, ua, uc, pa, pc⟩ : DL)) hok.fr) ?_
      rintro _ _ ⟨rfl, rfl⟩
      iterate 2 refine stp ?_
      refine WPL.nil ?_
      refine WPC.cond rfl (fun h2 => ?_) (fun h2 => ?_)
      · have ew : d.write k xs = (d.done, 43) := by unfold DK.write; rw [if_neg (by omega), if_neg (by omega), if_pos (by simpa using h2)]
        rw [ew]
        refine WPC.seqR ?_
        refine stp ?_
        refine WPL.nil ?_
        refine WPC.ret ?_
        refine blockQ_r ?_
        refine thenQ_r ?_
        exact endR_r rfl (.tmp rfl .nil) ((Imp.pk).trans (disk_close (b := b) (d := d.done) (⟨sa, sc, ua, uc, pa, pc⟩ : DL) ⟨hS, hU⟩ (Γ := []))) ⟨rfl, rfl⟩
      · have ew : d.write k xs = ((d.done.put k (pad xs)), 0) := by unfold DK.write; rw [if_neg (by omega), if_neg (by omega), if_neg (by simpa using h2), Int.toNat_natCast]
        rw [ew]
        refine WPC.skip ?_
        refine blockQ_n ?_
        refine thenQ_n ?_
        refine WPC.seqR ?_
        refine stp ?_
        refine L_s (show Q1 _ _ _ _ (.agg (encW (k, Sec.zero)).toArray) from q_build (cs := encW (k, Sec.zero)) pl_disk_write rfl rfl) rfl ?_
        refine nw fun bw => ?_
        refine WPL.cons rfl (S1.wpo (s_storeAll (us := encW (k, Sec.zero)) sz_disk_write rfl rfl (encW_one _) (encW_len _) rfl uu) rfl ?_)
        refine WPL.putN ?_
        refine WPL.nil ?_
        refine WPC.seqR ?_
        refine stp ?_
        refine L_s (q_sliceAll ar_disk_sector rfl) rfl ?_
        refine stp ?_
        refine WPL.cons rfl (E1.wpo (e_copyRd (b := bw) (o := 0) (i := 1) (vs := encW (k, Sec.zero)) (news := xs.map u8) sl_sl_uint8 rfl rfl (Rd.mem (p := false) hs (hs.none0 (by omega)) mm) (by omega) (u8_one _) (by rw [encW_len]; omega) uu) rfl ?_)
        rintro _ _ ⟨rfl, rfl⟩
        rw [Nat.mul_one, pad_copy k xs hx64]
        refine WPL.putS ?_
        refine WPL.nil ?_
        refine WPC.seqD mixed ?_
        refine atP 0 rfl ?_
        refine atP 1 rfl ?_
        refine atP 2 rfl ?_
        have hp : Pl sa := hS.at (by omega) (by omega)
        refine atL 3 rfl ?_
        refine atP 4 rfl ?_
        refine atP 5 rfl ?_
        refine WPA.takeL 6 rfl (Ent.mem mm) (q_loadN (b := bw) (o := 0) (i := 1) (us := encS (pad xs)) ld_disk_sector rfl (.head _) rfl (encS_len _) (drop_encW k (pad xs))) (by kernel_rfl) (by kernel_rfl) (by kernel_rfl) rfl rfl (.cons (Ent.mem mm) (.nil _)) ?_
        refine WPA.putS ?_
        refine WPA.takeP 7 rfl (q_idxN (i := k) sl_sl_disk_sector rfl rfl hk hp) (by kernel_rfl) (by kernel_rfl) (by kernel_rfl) rfl rfl (.cons (Ent.mem mm) (.cons (Ent.mem mm) (.nil _))) ?_
        refine WPA.putS ?_
        refine WPA.oneE 8 [] (by kernel_rfl) rfl rfl (by repeat (first | exact .nil | refine .anc rfl ?_ | refine .keep mm ?_)) (S1.wpo (s_storeFlat (xs := d.seen) (enc := encS) (e := pad xs) sz_disk_sector rfl rfl (encS_one _) encS_len hk uu) rfl ?_)
        refine ⟨(.nil _), ?_⟩
        refine WPA.putN ?_
        refine WPA.done (by kernel_rfl) ?_
        refine WPC.seqD mixed ?_
        refine atP 0 rfl ?_
        refine atP 1 rfl ?_
        refine atP 2 rfl ?_
        refine atP 3 rfl ?_
        refine atL 4 rfl ?_
        refine WPA.takeL 5 rfl (Ent.mem mm) (q_loadAll (vs := encW (k, pad xs)) ld_disk_write rfl (.head _) (encW_len _)) (by kernel_rfl) (by kernel_rfl) (by kernel_rfl) rfl rfl (.cons (Ent.mem mm) (.nil _)) ?_
        refine WPA.putS ?_
        refine WPA.oneE 6 [(4, [_])] (by kernel_rfl) rfl rfl (by repeat (first | exact .nil | refine .anc rfl ?_ | refine .keep mm ?_)) (E1.wpo (e_buildOne (cs := encW (k, pad xs)) mk_sl_disk_write (by decide) rfl rfl (encW_len _)) rfl ?_)
        rintro _ _ ⟨bE, rfl, rfl⟩
        refine ⟨(.cons (Ent.mem mm) (.nil _)), ?_⟩
        refine WPA.putS ?_
        refine WPA.oneE 7 [] (by kernel_rfl) rfl rfl (by repeat (first | exact .nil | refine .anc rfl ?_ | refine .keep mm ?_)) (E1.wpo (e_append (m := 1) (news := encW (k, pad xs)) mk_sl_disk_write (by decide) rfl rfl pk1 (Rd.part (i := 0) (b := bE) (o := 0) (vs := encW (k, pad xs)) mm rfl (encW_len _) (by rw [List.drop_zero]; exact List.take_of_length_le (Nat.le_refl _))) (encW_one _) (by show d.pend.length + 1 ≤ _; omega) (by show (d.pend.length + 1) * _ ≤ _; omega)) rfl ?_)
        rintro _ _ ⟨a3, c3, rfl, -, rfl⟩
        refine ⟨(.nil _), ?_⟩
        refine WPA.putS ?_
        refine atP 8 rfl ?_
        refine atP 9 rfl ?_
        refine WPA.oneE 10 [] (by kernel_rfl) rfl rfl (by repeat (first | exact .nil | refine .anc rfl ?_ | refine .keep mm ?_)) (S1.wpo (s_store1k sz_sl_disk_write rfl rfl rfl rfl uu (by repeat constructor)) rfl ?_)
        refine ⟨(.nil _), ?_⟩
        refine WPA.putN ?_
        refine WPA.done (by kernel_rfl) ?_
        refine WPC.seqR ?_
        refine stp ?_
        refine WPL.nil ?_
        refine WPC.prune [(6, _)] sbb ?_
        refine WPC.ret ?_
        have hc := disk_close (b := b) (d := (d.done.put k (pad xs))) ⟨sa, sc, ua, uc, a3, c3⟩ ⟨⟨by rw [flat_length encS_len], by have := hS.cap; simpa [DK.put, DK.done] using this, .inr hp⟩, hU⟩ (Γ := [])
        simp only [diskC, DK.put, List.length_set, List.length_append, List.length_singleton, flat_snoc] at hc
        exact endR_r rfl (.tmp rfl .nil) ((Imp.pk).trans hc) ⟨rfl, rfl⟩

theorem c_DRead {b : Nat} {d : DK} {i : Int} : Trip Tryd.prog 68 #[.pointer (some ⟨b, 0, none⟩), .int .i64 i] [disk b d] fun r Δ => match d.read i with | some s => (∃ a c, r = .tuple #[.slice a 64 c, .int .i64 0] ∧ Sok 1 a 64 c (s.1.map u8) ∧ Δ = [disk b d, sl false a (s.1.map u8)]) | none => r = .tuple #[.slice none 0 0, .int .i64 40] ∧ Δ = [disk b d] := by
  refine disk_open fun L hL => ?_
  obtain ⟨sa, sc, ua, uc, pa, pc⟩ := L
  obtain ⟨hS, hU⟩ := hL
  dsimp only at hS hU
  refine Trip.start 18 [.tmp 4, .tmp 5] [(0, .pointer (some ⟨b, 0, none⟩)), (1, .int .i64 i)] Tryd.func68 rfl Tryd.ntmps68 rfl ⟨rfl, rfl, trivial⟩ rfl ?_
  refine WPC.seqR ?_
  iterate 2 refine stp ?_
  refine WPL.nil ?_
  refine WPC.seq ?_
  refine WPC.seqR ?_
  iterate 2 refine stp ?_
  refine kall rfl (c_has_ (L := (⟨sa, sc, ua, uc, pa, pc⟩ : DL)) i) ?_
  rintro _ _ ⟨rfl, rfl⟩
  refine stp ?_
  refine WPL.nil ?_
  refine WPC.cond rfl (fun h0 => ?_) (fun h0 => ?_)
  · have ew : d.read i = none := by unfold DK.read; rw [if_neg (by simp at h0; omega)]
    rw [ew]
    refine WPC.seqR ?_
    iterate 2 refine stp ?_
    refine WPL.nil ?_
    refine WPC.ret ?_
    refine thenQ_r ?_
    exact endR_r rfl (.tmp rfl (.tmp rfl .nil)) ((Imp.pk).trans (disk_close (b := b) (d := d) (⟨sa, sc, ua, uc, pa, pc⟩ : DL) ⟨hS, hU⟩ (Γ := []))) ⟨rfl, rfl⟩
  · have hin : 0 ≤ i ∧ i < (d.seen.length : Int) := by simpa using h0
    obtain ⟨k, rfl⟩ : ∃ k : Nat, i = (k : Int) := ⟨i.toNat, by omega⟩
    have hk : k < d.seen.length := by omega
    obtain ⟨s, hsx⟩ : ∃ s, d.seen[k]? = some s := ⟨d.seen[k], by simp [hk]⟩
    have ew : d.read k = some s := by unfold DK.read; rw [if_pos hin, Int.toNat_natCast, hsx]
    rw [ew]
    have hp : Pl sa := hS.at (by omega) (by omega)
    refine WPC.skip ?_
    refine thenQ_n ?_
    refine WPC.seqR ?_
    iterate 5 refine stp ?_
    refine L_s (q_idxN (i := k) sl_sl_disk_sector rfl rfl hk hp) rfl ?_
    refine L_s (q_sliceAll ar_disk_sector rfl) rfl ?_
    refine WPL.imp ((Imp.pk (Δ := [sl true sa (d.seen.flatMap encS), cells true b 0 (diskC d (⟨sa, sc, ua, uc, pa, pc⟩ : DL)), sl true ua (d.sure.flatMap encS), buf 65 pa d.pend.length pc (d.pend.flatMap encW)])).trans (flat_focus (i := k) encS_len hsx)) ?_
    refine kall rfl (c_CloneB (p := true) (a := some ⟨blk sa, off sa + k * 64, none⟩) (n := 64) (c := 64) (xs := s.1) ⟨by rw [List.length_map, s.2], Nat.le_refl _, .inr (Pl.mk _ _)⟩ (by omega)) ?_
    rintro _ _ ⟨a', c', rfl, rfl⟩
    refine WPL.bufRo fun hs' => ?_
    iterate 2 refine stp ?_
    refine WPL.nil ?_
    refine WPC.ret ?_
    have hput := flat_put (p := true) (b := blk sa) (o := off sa) (xs := d.seen) (y := s) encS_len hk (Γ := [cells true b 0 (diskC d (⟨sa, sc, ua, uc, pa, pc⟩ : DL)), sl true ua (d.sure.flatMap encS), buf 65 pa d.pend.length pc (d.pend.flatMap encW), sl false a' (s.1.map u8)])
    rw [set_self hsx] at hput
    exact endR_r rfl (.tmp rfl (.tmp rfl .nil)) ((Imp.pk (Δ := [sl true (some ⟨blk sa, off sa + k * 64, none⟩) (s.1.map u8), flatBut true (blk sa) (off sa) k 64 d.seen encS, cells true b 0 (diskC d (⟨sa, sc, ua, uc, pa, pc⟩ : DL)), sl true ua (d.sure.flatMap encS), buf 65 pa d.pend.length pc (d.pend.flatMap encW), sl false a' (s.1.map u8)])).trans (hput.trans ((Imp.pk).trans (disk_close (b := b) (d := d) (⟨sa, sc, ua, uc, pa, pc⟩ : DL) ⟨hS, hU⟩ (Γ := [sl false a' (s.1.map u8)]))))) ⟨a', c', rfl, hs', rfl⟩

theorem c_Sync {b : Nat} {d : DK} (hok : d.ok) (hpl : d.pend.length < 1000000) : Trip Tryd.prog 32 #[.pointer (some ⟨b, 0, none⟩)] [disk b d] fun r Δ => r = .tuple #[] ∧ Δ = [disk b d.sync] := by
  refine disk_open fun L hL => ?_
  obtain ⟨sa, sc, ua, uc, pa, pc⟩ := L
  obtain ⟨hS, hU⟩ := hL
  dsimp only at hS hU
  refine Trip.start 29 [] [(0, .pointer (some ⟨b, 0, none⟩))] Tryd.func32 rfl Tryd.ntmps32 rfl ⟨rfl, trivial⟩ rfl ?_
  refine WPC.seq ?_
  refine WPC.seqR ?_
  refine stp ?_
  refine kall rfl (c_done (L := (⟨sa, sc, ua, uc, pa, pc⟩ : DL)) hok.fr) ?_
  rintro _ _ ⟨rfl, rfl⟩
  refine stp ?_
  refine WPL.nil ?_
  refine WPC.cond rfl (fun h0 => ?_) (fun h0 => ?_)
  · have ew : d.sync = d.done := by unfold DK.sync; rw [if_pos (by simpa using h0)]
    rw [ew]
    refine WPC.ret ?_
    refine thenQ_r ?_
    exact endR_r rfl .nil ((Imp.pk).trans (disk_close (b := b) (d := d.done) (⟨sa, sc, ua, uc, pa, pc⟩ : DL) ⟨hS, hU⟩ (Γ := []))) ⟨rfl, rfl⟩
  · have ew : d.sync = { d.done with sure := flush d.sure d.pend, pend := [] } := by unfold DK.sync; rw [if_neg (by simpa using h0)]
    rw [ew]
    refine WPC.skip ?_
    refine thenQ_n ?_
    refine WPC.seq ?_
    refine WPC.seqR ?_
    iterate 5 refine stp ?_
    refine WPL.imp (Imp.pk (Δ := [buf 65 pa d.pend.length pc (d.pend.flatMap encW), cells true b 0 (diskC d.done (⟨sa, sc, ua, uc, pa, pc⟩ : DL)), sl true sa (d.seen.flatMap encS), sl true ua (d.sure.flatMap encS)])) ?_
    refine WPL.bufSl fun hP => ?_
    refine stp ?_
    refine WPL.nil ?_
    refine WPC.block ?_
    refine WPC.loopS (fun m e Γ => ∃ (k : Nat) (us : List Sec), m = d.pend.length - k ∧ k ≤ d.pend.length ∧ us.length = d.sure.length ∧ flush us (d.pend.drop k) = flush d.sure d.pend ∧ e = [(0, .pointer (some ⟨b, 0, none⟩)), (10, .slice pa d.pend.length pc), (11, .int .i64 (d.pend.length : Int)), (12, .int .i64 (k : Int))] ∧ Γ = [cells true b 0 (diskC d.done (⟨sa, sc, ua, uc, pa, pc⟩ : DL)), sl true sa (d.seen.flatMap encS), sl true ua (us.flatMap encS), sl true pa (d.pend.flatMap encW)]) (d.pend.length) ⟨0, d.sure, rfl, by omega, rfl, rfl, rfl, rfl⟩ sbb Imp.pk ?_
    rintro m e Γ ⟨k, us, rfl, hk, hul, hfl, rfl, rfl⟩
    refine WPC.seqR ?_
    refine stp ?_
    refine WPL.nil ?_
    refine WPC.seq ?_
    refine WPC.cond rfl (fun h1 => ?_) (fun h1 => ?_)
    · simp only [decide_eq_true_eq, Int.ofNat_lt] at h1
      have hp : Pl pa := hP.at (by omega) (by omega)
      obtain ⟨w, hw⟩ : ∃ w, d.pend[k]? = some w := ⟨d.pend[k], by simp [h1]⟩
      have hwi : w.1 < d.sure.length := by rw [hok.same]; exact hok.idx w (List.mem_of_getElem? hw)
      have hpu : Pl ua := hU.at (by omega) (by omega)
      rw [drop_step hw] at hfl
      refine WPC.skip ?_
      refine thenQ_n ?_
      refine WPC.seq ?_
      refine WPC.block ?_
      refine WPC.seqR ?_
      refine L_s (q_idxN (i := k) sl_sl_disk_write rfl rfl h1 hp) rfl ?_
      refine L_s (q_ldFlat ld_disk_write rfl mm encW_len hw) rfl ?_
      refine nw fun bw => ?_
      refine WPL.cons rfl (S1.wpo (s_storeAll (us := encW w) sz_disk_write rfl rfl (encW_one _) (encW_len _) rfl uu) rfl ?_)
      refine WPL.putN ?_
      refine WPL.nil ?_
      refine WPC.draw mixed ?_
      refine atP 0 rfl ?_
      refine atP 1 rfl ?_
      refine atP 2 rfl ?_
      refine atL 3 rfl ?_
      refine atP 4 rfl ?_
      refine atL 5 rfl ?_
      refine atP 6 rfl ?_
      refine WPA.takeL 7 rfl (Ent.mem mm) (q_loadN (b := bw) (o := 0) (i := 1) (us := encS w.2) ld_disk_sector rfl (.head _) rfl (encS_len _) (drop_encW w.1 w.2)) (by kernel_rfl) (by kernel_rfl) (by kernel_rfl) rfl rfl (.cons (Ent.mem mm) (.cons (Ent.mem mm) (.nil _))) ?_
      refine WPA.putS ?_
      refine WPA.takeP 8 rfl (q_idxN (i := w.1) sl_sl_disk_sector rfl rfl (show w.1 < d.done.sure.length from hwi) hpu) (by kernel_rfl) (by kernel_rfl) (by kernel_rfl) rfl rfl (.cons (Ent.mem mm) (.cons (Ent.mem mm) (.cons (Ent.mem mm) (.nil _)))) ?_
      refine WPA.putS ?_
      refine WPA.oneE 9 [] (by kernel_rfl) rfl rfl (by repeat (first | exact .nil | refine .anc rfl ?_ | refine .keep mm ?_)) (S1.wpo (s_storeFlat (xs := us) (enc := encS) (e := w.2) sz_disk_sector rfl rfl (encS_one _) encS_len (by omega) uu) rfl ?_)
      refine ⟨(.nil _), ?_⟩
      refine WPA.putN ?_
      refine WPA.done (by kernel_rfl) ?_
      refine blockQ_n ?_
      refine thenQ_n ?_
      refine WPC.region ?_
      iterate 2 refine stp ?_
      refine WPL.nil ?_
      refine thenQ_n ?_
      exact ⟨rfl, _, _, _, by omega, ⟨k + 1, us.set w.1 w.2, rfl, by omega, by rw [List.length_set]; exact hul, hfl, rfl, rfl⟩, sbb, Imp.pk⟩
    · simp only [decide_eq_false_iff_not, Int.ofNat_lt] at h1
      rw [List.drop_eq_nil_of_le (by omega)] at hfl
      have hfl2 : us = flush d.sure d.pend := hfl
      refine WPC.exit ?_
      refine thenQ_e ?_
      refine thenQ_e ?_
      refine blockQ_here ?_
      refine thenQ_n ?_
      refine WPC.region ?_
      iterate 3 refine stp ?_
      refine sto ?_
      refine WPL.nil ?_
      have hc := disk_close (b := b) (d := { d.done with sure := us, pend := [] }) ⟨sa, sc, ua, uc, none, 0⟩ ⟨hS, ⟨flat_length encS_len _, by rw [hul]; exact hU.cap, by rcases hU.pl with h | h; (left; rw [List.eq_nil_of_length_eq_zero (l := us.flatMap encS) (by rw [flat_length encS_len, hul, ← flat_length encS_len, h]; rfl)]); exact .inr h⟩⟩ (Γ := [])
      simp only [diskC, hul] at hc
      rw [← hfl2]
      exact endR_n rfl .nil (Imp.bufNil.trans ((Imp.pk).trans hc)) ⟨rfl, rfl⟩

end Go.Sl
/- Walks: crashes. -/
namespace Go.Sl
open Go Go.RowKit Go.Proofs
set_option linter.unusedSimpArgs false
set_option linter.unusedVariables false
attribute [local irreducible] faB szB ldB zB zL slB mkB arB plB intB cells objc star stars buf slv grp whole Sat WPC WPL WPA WPO WPQ Trip Q1 E1 S1 C1

theorem c_Crash {b c : Nat} {d : DK} {q : Bool} {a : Option Addr} {ps : List Int} (hok : d.ok) (hpl : d.pend.length < 1000000) (hs : Sok 1 a ps.length c (ps.map (.int .i64))) : Trip Tryd.prog 13 #[.pointer (some ⟨b, 0, none⟩), .slice a ps.length c] [disk b d, sl q a (ps.map (.int .i64))] fun r Δ => r = .tuple #[] ∧ Δ = [disk b (d.crash ps), sl q a (ps.map (.int .i64))] := by
  refine disk_open fun L hL => ?_
  obtain ⟨sa, sc, ua, uc, pa, pc⟩ := L
  obtain ⟨hS, hU⟩ := hL
  dsimp only at hS hU
  refine Trip.start 57 [] [(0, .pointer (some ⟨b, 0, none⟩)), (1, .slice a ps.length c)] Tryd.func13 rfl Tryd.ntmps13 rfl ⟨rfl, rfl, trivial⟩ rfl ?_
  refine WPC.seq ?_
  refine WPC.seqR ?_
  iterate 4 refine stp ?_
  refine WPL.imp (Imp.pk (Δ := [buf 65 pa d.pend.length pc (d.pend.flatMap encW), cells true b 0 (diskC d (⟨sa, sc, ua, uc, pa, pc⟩ : DL)), sl true sa (d.seen.flatMap encS), sl true ua (d.sure.flatMap encS), sl q a (ps.map (.int .i64))])) ?_
  refine WPL.bufSl fun hP => ?_
  iterate 2 refine stp ?_
  refine WPL.nil ?_
  refine WPC.block ?_
  refine WPC.loopS (fun m e Γ => ∃ (k : Nat) (us : List Sec), m = d.pend.length - k ∧ k ≤ d.pend.length ∧ us.length = d.sure.length ∧ crashL us (d.pend.drop k) (ps.drop k) = crashL d.sure d.pend ps ∧ e = [(0, .pointer (some ⟨b, 0, none⟩)), (1, .slice a ps.length c), (10, .slice pa d.pend.length pc), (11, .int .i64 (d.pend.length : Int)), (12, .int .i64 (k : Int))] ∧ Γ = [cells true b 0 (diskC d (⟨sa, sc, ua, uc, pa, pc⟩ : DL)), sl true sa (d.seen.flatMap encS), sl true ua (us.flatMap encS), sl true pa (d.pend.flatMap encW), sl q a (ps.map (.int .i64))]) (d.pend.length) ⟨0, d.sure, rfl, by omega, rfl, rfl, rfl, rfl⟩ sbb Imp.pk ?_
  rintro m e Γ ⟨k, us, rfl, hk, hul, hfl, rfl, rfl⟩
  refine WPC.seqR ?_
  refine stp ?_
  refine WPL.nil ?_
  refine WPC.seq ?_
  refine WPC.cond rfl (fun h0 => ?_) (fun h0 => ?_)
  · simp only [decide_eq_true_eq, Int.ofNat_lt] at h0
    have hp : Pl pa := hP.at (by omega) (by omega)
    obtain ⟨w, hw⟩ : ∃ w, d.pend[k]? = some w := ⟨d.pend[k], by simp [h0]⟩
    have hwi : w.1 < d.sure.length := by rw [hok.same]; exact hok.idx w (List.mem_of_getElem? hw)
    have hpu : Pl ua := hU.at (by omega) (by omega)
    obtain ⟨s, hsu⟩ : ∃ s, us[w.1]? = some s := ⟨us[w.1]'(by omega), by simp⟩
    rw [drop_step hw] at hfl
    simp only [crashL, hsu, Option.getD_some, List.tail_drop] at hfl
    have hpv : (pickOf (ps.drop k)) ≤ 64 := pickOf_le _
    refine WPC.skip ?_
    refine thenQ_n ?_
    refine WPC.seq ?_
    refine WPC.block ?_
    refine WPC.seqR ?_
    refine stp ?_
    refine L_s (q_idxN (i := k) sl_sl_disk_write rfl rfl h0 hp) rfl ?_
    refine L_s (q_ldFlat ld_disk_write rfl mm encW_len hw) rfl ?_
    refine nw fun bw => ?_
    refine stp ?_
    refine WPL.cons rfl (S1.wpo (s_storeAll (us := encW w) sz_disk_write rfl rfl (encW_one _) (encW_len _) rfl uu) rfl ?_)
    refine WPL.putN ?_
    refine WPL.nil ?_
    refine WPC.seqR ?_
    refine stp ?_
    refine WPL.nil ?_
    refine WPC.seq ?_
    refine WPC.seqR ?_
    iterate 4 refine stp ?_
    refine WPL.nil ?_
    refine WPC.midS (fun e Γ => e = [(0, .pointer (some ⟨b, 0, none⟩)), (1, .slice a ps.length c), (5, .pointer (some ⟨bw, 0, none⟩)), (6, .int .i64 ((pickOf (ps.drop k)) : Int)), (10, .slice pa d.pend.length pc), (11, .int .i64 (d.pend.length : Int)), (12, .int .i64 (k : Int))] ∧ Γ = cells true bw 0 (encW w) :: [cells true b 0 (diskC d (⟨sa, sc, ua, uc, pa, pc⟩ : DL)), sl true sa (d.seen.flatMap encS), sl true ua (us.flatMap encS), sl true pa (d.pend.flatMap encW), sl q a (ps.map (.int .i64))]) ?_ ?_
    · refine WPC.cond rfl (fun h1 => ?_) (fun h1 => ?_)
      · simp only [decide_eq_true_eq, Int.ofNat_lt] at h1
        have hpa : Pl a := hs.at (by omega) (by omega)
        obtain ⟨pv, hpx⟩ : ∃ pv, ps[k]? = some pv := ⟨ps[k], by simp [h1]⟩
        have hpe : ((pickOf (ps.drop k)) : Int) = max 0 (min pv 64) := by rw [drop_step hpx]; simp only [pickOf]; omega
        refine WPC.region ?_
        iterate 2 refine stp ?_
        refine L_s (q_idxN (i := k) sl_sl_int rfl rfl h1 hpa) rfl ?_
        refine L_s (q_ldMap ld_int rfl mm hpx) rfl ?_
        iterate 2 refine stp ?_
        rw [← hpe]
        refine stp ?_
        refine WPL.nil ?_
        refine thenQ_n ?_
        exact ⟨rfl, _, _, ⟨rfl, rfl⟩, sbb, Imp.pk⟩
      · simp only [decide_eq_false_iff_not, Int.ofNat_lt] at h1
        have hpe : (pickOf (ps.drop k)) = 0 := by rw [List.drop_eq_nil_of_le (by omega)]; rfl
        rw [hpe]
        refine WPC.skip ?_
        refine thenQ_n ?_
        exact ⟨rfl, _, _, ⟨rfl, rfl⟩, sbb, Imp.pk⟩
    · rintro e Γ ⟨rfl, rfl⟩
      refine WPC.draw mixed ?_
      refine atP 0 rfl ?_
      refine atP 1 rfl ?_
      refine atP 2 rfl ?_
      refine atL 3 rfl ?_
      refine atP 4 rfl ?_
      refine atL 5 rfl ?_
      refine WPA.takeP 6 rfl (q_idxN (i := w.1) sl_sl_disk_sector rfl rfl (show w.1 < d.sure.length from hwi) hpu) (by kernel_rfl) (by kernel_rfl) (by kernel_rfl) rfl rfl (.cons (Ent.mem mm) (.cons (Ent.mem mm) (.nil _))) ?_
      refine WPA.putS ?_
      refine WPA.takeP 7 rfl (q_sliceAll ar_disk_sector rfl) (by kernel_rfl) (by kernel_rfl) (by kernel_rfl) rfl rfl (.cons (Ent.mem mm) (.cons (Ent.mem mm) (.nil _))) ?_
      refine WPA.putS ?_
      refine atP 8 rfl ?_
      refine atP 9 rfl ?_
      refine WPA.takeP 10 rfl (q_sliceAHi (j := (pickOf (ps.drop k))) ar_disk_sector rfl rfl hpv) (by kernel_rfl) (by kernel_rfl) (by kernel_rfl) rfl rfl (.cons (Ent.mem mm) (.cons (Ent.mem mm) (.nil _))) ?_
      refine WPA.putS ?_
      refine WPA.imp ((Imp.pk (Δ := [sl true ua (us.flatMap encS), cells true bw 0 (encW w), cells true b 0 (diskC d (⟨sa, sc, ua, uc, pa, pc⟩ : DL)), sl true sa (d.seen.flatMap encS), sl true pa (d.pend.flatMap encW), sl q a (ps.map (.int .i64))])).trans (flat_focus (i := w.1) encS_len hsu)) ?_
      refine WPA.oneE 11 [] (by kernel_rfl) rfl rfl (by repeat (first | exact .nil | refine .anc rfl ?_ | refine .keep mm ?_)) (E1.wpo (e_copyRd (b := blk ua) (o := off ua + w.1 * 64) (i := 0) (m := (pickOf (ps.drop k))) (vs := encS s) (news := (encS w.2).take (pickOf (ps.drop k))) sl_sl_uint8 rfl rfl (Rd.part (i := 1) (b := bw) (o := 0) (vs := encW w) mm rfl (by rw [List.length_take, encS_len]; omega) (take_part w (pickOf (ps.drop k)))) hpv (take_one _ _ (encS_one _)) (by rw [encS_len]; omega) uu) rfl ?_)
      rintro _ _ ⟨rfl, rfl⟩
      rw [Nat.mul_one, Nat.zero_add, List.take_zero, List.nil_append, torn_enc]
      refine ⟨(.nil _), ?_⟩
      refine WPA.putS ?_
      refine WPA.done (by kernel_rfl) ?_
      refine blockQ_n ?_
      refine thenQ_n ?_
      refine WPC.region ?_
      refine WPL.imp ((Imp.pk (Δ := [cells true (blk ua) (off ua + w.1 * 64) (encS (torn (pickOf (ps.drop k)) w.2 s)), flatBut true (blk ua) (off ua) w.1 64 us encS, cells true b 0 (diskC d (⟨sa, sc, ua, uc, pa, pc⟩ : DL)), sl true sa (d.seen.flatMap encS), sl true pa (d.pend.flatMap encW), sl q a (ps.map (.int .i64))])).trans (flat_put (i := w.1) (xs := us) (y := torn (pickOf (ps.drop k)) w.2 s) encS_len (by omega))) ?_
      iterate 2 refine stp ?_
      refine WPL.nil ?_
      refine thenQ_n ?_
      exact ⟨rfl, _, _, _, by omega, ⟨k + 1, us.set w.1 (torn (pickOf (ps.drop k)) w.2 s), rfl, by omega, by rw [List.length_set]; exact hul, hfl, rfl, rfl⟩, sbb, Imp.pk⟩
  · simp only [decide_eq_false_iff_not, Int.ofNat_lt] at h0
    rw [List.drop_eq_nil_of_le (by omega)] at hfl
    have hfl2 : us = crashL d.sure d.pend ps := hfl
    refine WPC.exit ?_
    refine thenQ_e ?_
    refine thenQ_e ?_
    refine blockQ_here ?_
    refine thenQ_n ?_
    refine WPC.seqR ?_
    iterate 5 refine stp ?_
    refine sto ?_
    iterate 2 refine stp ?_
    refine sto ?_
    iterate 2 refine stp ?_
    refine sto ?_
    refine WPL.nil ?_
    refine WPC.region ?_
    iterate 5 refine stp ?_
    refine kall rfl (c_CloneS (p := true) (xs := us) (n := d.sure.length) (c := uc) ⟨by rw [flat_length encS_len, hul], hU.cap, by rcases hU.pl with h | h; (left; exact List.eq_nil_of_length_eq_zero (by rw [flat_length encS_len, hul, ← flat_length encS_len, h]; rfl)); exact .inr h⟩ (by rw [hok.same]; exact hok.n)) ?_
    rintro _ _ ⟨a', c', rfl, rfl⟩
    refine WPL.bufSl fun hs' => ?_
    iterate 2 refine stp ?_
    refine sto ?_
    refine WPL.nil ?_
    have hU2 : Sok 64 ua us.length uc (us.flatMap encS) := ⟨flat_length encS_len _, by rw [hul]; exact hU.cap, by rcases hU.pl with h | h; (left; exact List.eq_nil_of_length_eq_zero (by rw [flat_length encS_len, hul, ← flat_length encS_len, h]; rfl)); exact .inr h⟩
    have hc := disk_close (b := b) (d := ⟨us, us, [], -1, false⟩) ⟨a', c', ua, uc, none, 0⟩ ⟨by rw [← hul] at hs'; exact hs', hU2⟩ (Γ := [sl q a (ps.map (.int .i64))])
    simp only [diskC, hul] at hc
    unfold DK.crash
    rw [← hfl2]
    exact endR_n rfl .nil (Imp.bufNil.trans ((Imp.pk).trans hc)) ⟨rfl, rfl⟩

end Go.Sl
/- Walks: slots. -/
namespace Go.Sl
open Go Go.RowKit Go.Proofs
set_option linter.unusedSimpArgs false
set_option linter.unusedVariables false
attribute [local irreducible] faB szB ldB zB zL slB mkB arB plB intB cells objc star stars buf slv grp whole Sat WPC WPL WPA WPO WPQ Trip Q1 E1 S1 C1

theorem c_ParseU {a : Option Addr} {c : Nat} (s : Sec) (hs : Sok 1 a 64 c (s.1.map u8)) : Trip Tryd.prog 69 #[.slice a 64 c] [sl false a (s.1.map u8), tblA] fun r Δ => ∃ a' c', r = .tuple #[.int .u32 (pS s.1 : Int), .int .u32 (pE s.1 : Int), .slice a' (pB s.1).length c', .bool (pOk s.1)] ∧ Sok 1 a' (pB s.1).length c' ((pB s.1).map u8) ∧ Δ = [sl false a' ((pB s.1).map u8)] := by
  have h := c_Parse s hs
  unfold pS pE pB pOk
  cases hp : parse s.1 with
  | some t =>
    obtain ⟨x, y, z⟩ := t
    rw [hp] at h
    exact h
  | none =>
    rw [hp] at h
    unfold Trip at h ⊢
    intro F w t
    refine (h F w t).mono ?_
    rintro e w' ⟨v, Δ, rfl, ⟨rfl, rfl⟩, t', ad⟩
    exact ⟨_, _, rfl, ⟨none, 0, rfl, ⟨rfl, Nat.le_refl _, .inl rfl⟩, rfl⟩, Imp.slEmpty _ _ t', ad⟩
theorem c_DReadOk {b : Nat} {d : DK} {i : Int} {s : Sec} (hr : d.read i = some s) : Trip Tryd.prog 68 #[.pointer (some ⟨b, 0, none⟩), .int .i64 i] [disk b d] fun r Δ => ∃ a c, r = .tuple #[.slice a 64 c, .int .i64 0] ∧ Sok 1 a 64 c (s.1.map u8) ∧ Δ = [disk b d, sl false a (s.1.map u8)] := by
  have h := c_DRead (b := b) (d := d) (i := i)
  rw [hr] at h
  exact h

theorem c_right {b : Nat} {d : DK} {i : Int} (hi : i < 9223372036854775807) (hd : d.ok) : Trip Tryd.prog 63 #[.pointer (some ⟨b, 0, none⟩), .int .i64 i] [disk b d] fun r Δ => r = .bool (right_ d i) ∧ Δ = [disk b d] := by
  refine disk_open fun L hL => ?_
  have hdn := hd.n
  refine Trip.start 14 [.tmp 4] [(0, .pointer (some ⟨b, 0, none⟩)), (1, .int .i64 i)] Tryd.func63 rfl Tryd.ntmps63 rfl ⟨rfl, rfl, trivial⟩ rfl ?_
  refine WPC.seqR ?_
  refine stp ?_
  refine WPL.nil ?_
  refine WPC.seqR ?_
  iterate 3 refine stp ?_
  apply WPL.joinA (e' := [(4, _)]) 7 13 6 rfl
  · intro g1_2
    try simp only [decide_eq_true_eq, decide_eq_false_iff_not, beq_iff_eq, bne_iff_ne, beq_eq_false_iff_ne, bne_eq_false_iff_eq, Bool.not_eq_true', Bool.not_eq_false', Bool.not_eq_eq_eq_not, Bool.not_true, Bool.not_false, ne_eq, Decidable.not_not, Int.not_lt, Int.not_le, gt_iff_lt, ge_iff_le] at g1_2
    iterate 2 refine stpY rfl rfl ?_
    refine L_eyes rfl rfl rfl (C1.call (c_call Tryd.func39 rfl rfl rfl) (c_DLen (d := d) (L := L)) pkk rfl ?_)
    rintro _ _ ⟨rfl, rfl⟩
    refine WPL.putS ?_
    iterate 2 refine stpY rfl rfl ?_
    refine stp ?_
    first | exact WPL.jn rfl rfl sbb | exact WPL.jnI rfl rfl sbb Imp.pk
  · intro g1_2
    try simp only [decide_eq_true_eq, decide_eq_false_iff_not, beq_iff_eq, bne_iff_ne, beq_eq_false_iff_ne, bne_eq_false_iff_eq, Bool.not_eq_true', Bool.not_eq_false', Bool.not_eq_eq_eq_not, Bool.not_true, Bool.not_false, ne_eq, Decidable.not_not, Int.not_lt, Int.not_le, gt_iff_lt, ge_iff_le] at g1_2
    refine L_no rfl rfl rfl rfl ?_
    refine L_no rfl rfl rfl rfl ?_
    refine L_no rfl rfl rfl rfl ?_
    refine L_no rfl rfl rfl rfl ?_
    refine L_no rfl rfl rfl rfl ?_
    refine stp ?_
    first | exact WPL.jn rfl rfl sbb | exact WPL.jnI rfl rfl sbb Imp.pk
  refine stp ?_
  refine WPL.nil ?_
  refine WPC.ret ?_
  exact endR_r rfl (.tmp rfl .nil) ((Imp.pk).trans (disk_close L hL (Γ := []))) ⟨by simp only [packV, right_], rfl⟩

theorem c_records1 {l bo b1 b2 db : Nat} {rec : Loop} {p1 p2 : Bool} {d : DK} {i : Int} {out : SR} (hi : 0 ≤ i ∧ i + 1 < (d.seen.length : Int)) (hd : d.ok) (hY : ∀ (x : SR) (a : Option Addr) (c : Nat) (out : SR), Sok 1 a x.b.length c (x.b.map u8) → YTrip Tryd.prog l #[(.agg #[.int .i64 x.at_, .int .u32 (x.seq : Int), .slice a x.b.length c])] [objc true l (.loop rec), outA bo out, sl false a (x.b.map u8)] (fun v Δ => v = .bool true ∧ Δ = [objc true l (.loop rec), outA bo (if out.seq < x.seq then x else out)])) : Trip Tryd.prog 80 #[.func (.yield l) #[] #[], .pointer (some ⟨b1, 0, none⟩), .pointer (some ⟨b2, 0, none⟩)] [objc true l (.loop rec), outA bo (lastK d i out 0), cells p1 b1 0 [.int .i64 i], cells p2 b2 0 [.pointer (some ⟨db, 0, none⟩)], disk db d, tblA] fun r Δ => r = .tuple #[] ∧ Δ = [objc true l (.loop rec), outA bo (lastK d i out 2), disk db d] := by
  have hdn := hd.n
  refine Trip.start 45 [] [(0, .func (.yield l) #[] #[]), (1, .pointer (some ⟨b1, 0, none⟩)), (2, .pointer (some ⟨b2, 0, none⟩))] Tryd.func80 rfl Tryd.ntmps80 rfl ⟨rfl, rfl, rfl, trivial⟩ rfl ?_
  refine WPC.seqR ?_
  iterate 2 refine stp ?_
  refine WPL.nil ?_
  refine WPC.block ?_
  refine WPC.loopS (fun m e Γ => ∃ (k : Nat) (v : Int), m = 3 - k ∧ k ≤ 2 ∧ v = i + (k : Int) ∧ e = [(0, .func (.yield l) #[] #[]), (1, .pointer (some ⟨b1, 0, none⟩)), (2, .pointer (some ⟨b2, 0, none⟩)), (4, .int .i64 v)] ∧ Γ = [objc true l (.loop rec), outA bo (lastK d i out k), cells p1 b1 0 [.int .i64 i], cells p2 b2 0 [.pointer (some ⟨db, 0, none⟩)], disk db d, tblA]) (3) ⟨0, i, rfl, by omega, by simp, rfl, rfl⟩ sbb Imp.pk ?_
  rintro m e Γ ⟨k, v, rfl, hk, hv, rfl, rfl⟩
  refine WPC.seq ?_
  refine WPC.seqR ?_
  iterate 4 refine stp ?_
  refine WPL.nil ?_
  refine WPC.cond rfl (fun h0 => ?_) (fun h0 => ?_)
  · simp only [decide_eq_true_eq] at h0
    have hk2 : k < 2 := by omega
    obtain ⟨s, hr⟩ := read_in (d := d) (i := v) (by omega)
    have hst := lastStep_of (out := lastK d i out k) hr
    refine WPC.skip ?_
    refine thenQ_n ?_
    refine WPC.seq ?_
    refine WPC.block ?_
    refine WPC.seqR ?_
    iterate 2 refine stp ?_
    refine kall rfl (c_DReadOk hr) ?_
    rintro _ _ ⟨a, c, rfl, hs, rfl⟩
    iterate 5 refine stp ?_
    refine WPL.nil ?_
    refine WPC.seqR ?_
    refine stp ?_
    refine kall rfl (c_ParseU s hs) ?_
    rintro _ _ ⟨a', c', rfl, hb, rfl⟩
    iterate 9 refine stp ?_
    refine WPL.nil ?_
    refine WPC.prune [(0, _), (1, _), (2, _), (4, _), (5, _), (7, _), (8, _), (9, _), (10, _), (12, _), (13, _), (14, _), (15, _), (18, _), (19, _), (20, _), (21, _), (22, _), (23, _), (24, _), (25, _), (26, _), (27, _), (28, _), (29, _), (30, _)] sbb ?_
    refine WPC.seqCutS (fun e Γ => e = [(0, .func (.yield l) #[] #[]), (1, .pointer (some ⟨b1, 0, none⟩)), (2, .pointer (some ⟨b2, 0, none⟩)), (4, .int .i64 v), (44, .bool false)] ∧ Γ = [objc true l (.loop rec), outA bo (lastK d i out (k + 1)), cells p1 b1 0 [.int .i64 i], cells p2 b2 0 [.pointer (some ⟨db, 0, none⟩)], disk db d, tblA]) ?_ ?_
    · rcases pcase s.1 with hc | hc | hc
      · rw [hc.1, hc.2]
        have hl : lastK d i out (k + 1) = if (lastK d i out k).seq < (⟨v, pS s.1, pB s.1⟩ : SR).seq then (⟨v, pS s.1, pB s.1⟩ : SR) else lastK d i out k := by
          show lastStep d (i + k) (lastK d i out k) = _
          rw [← hv, hst]; simp [hc.1, hc.2]
        rw [hl]
        refine WPC.regionI ?_
        refine WPI.take 11 ?_
        iterate 2 refine stp ?_
        refine stpY rfl rfl ?_
        refine L_yes rfl rfl (show Q1 _ _ _ _ (.bool true) from q_int rfl rfl rfl) rfl ?_
        iterate 2 refine stp ?_
        iterate 4 refine stpY rfl rfl ?_
        refine L_yes rfl rfl (q_build (cs := [_, _, _]) pl_slot_record rfl rfl) rfl ?_
        refine WPL.nil ?_
        refine WPI.yield (wanted_yes rfl rfl rfl) rfl rfl (hY (⟨v, pS s.1, pB s.1⟩ : SR) a' c' (lastK d i out k) hb) pkk rfl ?_
        rintro _ _ ⟨rfl, rfl⟩
        refine WPI.all ?_
        refine WPL.putS ?_
        refine stpY rfl rfl ?_
        refine stp ?_
        refine WPL.nil ?_
        refine thenQ_n ?_
        exact ⟨rfl, _, _, ⟨rfl, rfl⟩, sbb, Imp.pk⟩
      · rw [hc.1]
        have hE : (((pE s.1 : Nat) : Int) == 0) = false := by simp; exact hc.2
        have hl : lastK d i out (k + 1) = lastK d i out k := by
          show lastStep d (i + k) (lastK d i out k) = _
          rw [← hv, hst]; simp [hc.2]
        rw [hl]
        refine WPC.region ?_
        iterate 2 refine stp ?_
        iterate 2 refine stpY rfl rfl ?_
        rw [hE]
        iterate 2 refine stp ?_
        refine L_no rfl rfl rfl rfl ?_
        refine L_no rfl rfl rfl rfl ?_
        refine L_no rfl rfl rfl rfl ?_
        refine L_no rfl rfl rfl rfl ?_
        refine L_no rfl rfl rfl rfl ?_
        refine L_no rfl rfl rfl rfl ?_
        refine L_no rfl rfl rfl rfl ?_
        refine stp ?_
        refine WPL.nil ?_
        refine thenQ_n ?_
        exact ⟨rfl, _, _, ⟨rfl, rfl⟩, sbb, Imp.pk⟩
      · rw [hc]
        have hl : lastK d i out (k + 1) = lastK d i out k := by
          show lastStep d (i + k) (lastK d i out k) = _
          rw [← hv, hst]; simp [hc]
        rw [hl]
        refine WPC.region ?_
        iterate 2 refine stp ?_
        refine L_no rfl rfl rfl rfl ?_
        refine L_no rfl rfl rfl rfl ?_
        iterate 2 refine stp ?_
        refine L_no rfl rfl rfl rfl ?_
        refine L_no rfl rfl rfl rfl ?_
        refine L_no rfl rfl rfl rfl ?_
        refine L_no rfl rfl rfl rfl ?_
        refine L_no rfl rfl rfl rfl ?_
        refine L_no rfl rfl rfl rfl ?_
        refine L_no rfl rfl rfl rfl ?_
        refine stp ?_
        refine WPL.nil ?_
        refine thenQ_n ?_
        exact ⟨rfl, _, _, ⟨rfl, rfl⟩, sbb, Imp.pk⟩
    · rintro e Γ ⟨rfl, rfl⟩
      refine WPC.cond rfl (fun h1 => ?_) (fun h1 => ?_)
      · try simp only [decide_eq_true_eq, decide_eq_false_iff_not, beq_iff_eq, bne_iff_ne, beq_eq_false_iff_ne, bne_eq_false_iff_eq, Bool.not_eq_true', Bool.not_eq_false', Bool.not_eq_eq_eq_not, Bool.not_true, Bool.not_false, ne_eq, Decidable.not_not, Int.not_lt, Int.not_le, gt_iff_lt, ge_iff_le] at h1
        simp at h1
      · skip
        refine WPC.skip ?_
        refine blockQ_n ?_
        refine thenQ_n ?_
        refine WPC.region ?_
        iterate 3 refine stp ?_
        refine WPL.nil ?_
        refine thenQ_n ?_
        exact ⟨rfl, _, _, _, by omega, ⟨k + 1, v + 1, rfl, by omega, by omega, rfl, rfl⟩, sbb, Imp.pk⟩
  · simp only [decide_eq_false_iff_not] at h0
    have hk2 : k = 2 := by omega
    subst hk2
    refine WPC.exit ?_
    refine thenQ_e ?_
    refine thenQ_e ?_
    refine blockQ_here ?_
    exact endR_n rfl .nil Imp.pk ⟨rfl, rfl⟩

theorem c_records {db : Nat} {i : Int} : Trip Tryd.prog 75 #[.pointer (some ⟨db, 0, none⟩), .int .i64 i] [] fun r Δ => ∃ b1 b2, r = .func (.func 80) #[] #[.pointer (some ⟨b1, 0, none⟩), .pointer (some ⟨b2, 0, none⟩)] ∧ Δ = [cells true b1 0 [.int .i64 i], cells true b2 0 [.pointer (some ⟨db, 0, none⟩)]] := by
  refine Trip.start 6 [.tmp 4] [(0, .pointer (some ⟨db, 0, none⟩)), (1, .int .i64 i)] Tryd.func75 rfl Tryd.ntmps75 rfl ⟨rfl, rfl, trivial⟩ rfl ?_
  refine WPC.seqR ?_
  refine nw fun b1 => ?_
  refine nw fun b2 => ?_
  refine stp ?_
  refine WPL.nil ?_
  refine WPC.seqR ?_
  iterate 2 refine stp ?_
  refine WPL.nil ?_
  refine WPC.ret ?_
  exact endR_r rfl (.tmp rfl .nil) Imp.pk ⟨b2, b1, rfl, rfl⟩

theorem c_last {db : Nat} {d : DK} {i : Int} (hi : 0 ≤ i ∧ i + 1 < (d.seen.length : Int)) (hd : d.ok) : Trip Tryd.prog 64 #[.pointer (some ⟨db, 0, none⟩), .int .i64 i] [disk db d, tblA] fun r Δ => ∃ a c, r = .agg #[.int .i64 (last d i).at_, .int .u32 ((last d i).seq : Int), .slice a (last d i).b.length c] ∧ Sok 1 a (last d i).b.length c ((last d i).b.map u8) ∧ Δ = [disk db d, sl false a ((last d i).b.map u8)] := by
  have hdn := hd.n
  refine Trip.startM 21 [.cell 4 115] [(0, .pointer (some ⟨db, 0, none⟩)), (1, .int .i64 i)] Tryd.func64 rfl Tryd.ntmps64 rfl ⟨rfl, rfl, trivial⟩ rfl ?_
  refine WPC.seqR ?_
  refine nw fun br => ?_
  refine WPL.nil ?_
  refine WPC.seqR ?_
  iterate 2 refine stp ?_
  refine L_s (q_build (cs := [_, _, _]) pl_slot_record rfl rfl) rfl ?_
  refine nw fun bo => ?_
  refine sto ?_
  refine WPL.nil ?_
  refine WPC.seq ?_
  refine WPC.seqR ?_
  iterate 2 refine stp ?_
  refine kall rfl c_records ?_
  rintro _ _ ⟨b1, b2, rfl, rfl⟩
  refine WPL.nil ?_
  refine WPC.block ?_
  refine WPC.rangeFunc rfl Tryd.func80 rfl rfl (fun l D rec hst hpd hps has hbo hokk => ?_)
  have hY : ∀ (x : SR) (a : Option Addr) (c : Nat) (out : SR), Sok 1 a x.b.length c (x.b.map u8) → YTrip Tryd.prog l #[(.agg #[.int .i64 x.at_, .int .u32 (x.seq : Int), .slice a x.b.length c])] [objc true l (.loop rec), outA bo out, sl false a (x.b.map u8)] (fun v Δ => v = .bool true ∧ Δ = [objc true l (.loop rec), outA bo (if out.seq < x.seq then x else out)]) := by
    intro x a c out hsx
    refine YTrip.round hst hpd hps rfl hokk ?_
    rw [has]
    refine WPR.region rfl ?_
    refine WPL.imp (Imp.pk (Δ := [outA bo out, objc true l (.loop rec), sl false a (x.b.map u8)])) ?_
    refine WPL.exg (L := fun L => outL bo out L) fun L => WPL.pure fun hL => ?_
    refine nw fun bx => ?_
    refine sto ?_
    refine WPL.nil ?_
    refine assignQ_n [cells true bx 0 [.int .i64 x.at_, .int .u32 (x.seq : Int), .slice a x.b.length c], cells true bo 0 [.int .i64 out.at_, .int .u32 (out.seq : Int), .slice L.1 out.b.length L.2], sl false L.1 (out.b.map u8), sl false a (x.b.map u8)] Imp.pk hbo ?_
    refine WPR.block ?_
    refine WPR.seq ?_
    refine WPR.region rfl ?_
    iterate 5 refine stp ?_
    refine WPL.nil ?_
    refine thenQ_n ?_
    refine WPR.cond rfl (fun h0 => ?_) (fun h0 => ?_)
    · simp only [decide_eq_true_eq] at h0
      refine WPR.region rfl ?_
      refine stp ?_
      refine sto ?_
      refine WPL.nil ?_
      refine blockQ_n ?_
      refine roundQ_n [outA bo x] ((Imp.pk (Δ := [cells true bo 0 [.int .i64 x.at_, .int .u32 (x.seq : Int), .slice a x.b.length c], sl false a (x.b.map u8), objc true l (.loop { rec with state := .busy })])).trans ((outA_close a c hsx).trans (Imp.perm (.swap _ _ _)))) ⟨rfl, by rw [if_pos (by omega)]⟩
    · simp only [decide_eq_false_iff_not] at h0
      refine WPR.skip ?_
      refine blockQ_n ?_
      refine roundQ_n [outA bo out] ((Imp.pk (Δ := [cells true bo 0 [.int .i64 out.at_, .int .u32 (out.seq : Int), .slice L.1 out.b.length L.2], sl false L.1 (out.b.map u8), objc true l (.loop { rec with state := .busy })])).trans ((outA_close L.1 L.2 hL).trans (Imp.perm (.swap _ _ _)))) ⟨rfl, by rw [if_neg (by omega)]⟩
  refine Trip.mono (Trip.imp ((Imp.slEmpty (p := false) (a := none)).trans ((Imp.pk (Δ := [cells true bo 0 [.int .i64 (⟨i + 1, 0, []⟩ : SR).at_, .int .u32 ((⟨i + 1, 0, []⟩ : SR).seq : Int), .slice none (⟨i + 1, 0, []⟩ : SR).b.length 0], sl false none (([] : List By).map u8), objc true l (.loop rec), cells true b1 0 [.int .i64 i], cells true b2 0 [.pointer (some ⟨db, 0, none⟩)], disk db d, tblA, cells true br 0 [.int .i64 0, .int .u32 0, .slice none 0 0]])).trans ((outA_close (bo := bo) (r := (⟨i + 1, 0, []⟩ : SR)) none 0 ⟨rfl, Nat.le_refl _, .inl rfl⟩).trans (Imp.perm (.swap _ _ _))))) ((c_records1 (p1 := true) (p2 := true) (out := (⟨i + 1, 0, []⟩ : SR)) hi hd hY).frame [cells true br 0 [.int .i64 0, .int .u32 0, .slice none 0 0]])) ?_
  rintro _ _ ⟨Δ', ⟨rfl, rfl⟩, rfl⟩
  refine ⟨_, rfl, ?_⟩
  refine blockQ_n ?_
  refine thenQ_n ?_
  refine WPC.seqR ?_
  rw [show lastK d i (⟨i + 1, 0, []⟩ : SR) 2 = last d i from last_eq d i]
  refine WPL.imp (Imp.pk (Δ := [outA bo (last d i), objc true D (.deferred (some [])), disk db d, cells true br 0 [.int .i64 0, .int .u32 0, .slice none 0 0]])) ?_
  refine WPL.exg (L := fun L => outL bo (last d i) L) fun L => WPL.pure fun hL => ?_
  refine stp ?_
  refine sto ?_
  refine WPL.nil ?_
  refine WPC.ret ?_
  exact endRM_r rfl (Imp.pk (Δ := [objc true D (.deferred (some [])), cells true br 0 [.int .i64 (last d i).at_, .int .u32 ((last d i).seq : Int), .slice L.1 (last d i).b.length L.2], disk db d, sl false L.1 ((last d i).b.map u8)])) (.cellN (us := [_, _, _]) rfl ld_slot_record mm rfl rfl .nil) Imp.pk ⟨L.1, L.2, rfl, hL, rfl⟩

end Go.Sl
/- Walks: loading and saving. -/
namespace Go.Sl
open Go Go.RowKit Go.Proofs
set_option linter.unusedSimpArgs false
set_option linter.unusedVariables false
attribute [local irreducible] faB szB ldB zB zL slB mkB arB plB intB cells objc star stars buf slv grp whole Sat WPC WPL WPA WPO WPQ Trip Q1 E1 S1 C1

theorem c_Write64 {b c : Nat} {d : DK} {a : Option Addr} {i : Int} {xs : List By} (hok : d.ok) (hpl : d.pend.length < 1000000) (h64 : xs.length = 64) (hs : Sok 1 a 64 c (xs.map u8)) : Trip Tryd.prog 36 #[.pointer (some ⟨b, 0, none⟩), .int .i64 i, .slice a 64 c] [disk b d, sl false a (xs.map u8)] fun r Δ => r = .int .i64 (d.write i xs).2 ∧ Δ = [disk b (d.write i xs).1] := by
  have h := c_Write (b := b) (c := c) (d := d) (a := a) (i := i) (xs := xs) hok hpl (by rw [h64]; exact hs)
  rw [h64] at h
  exact h
theorem c_WriteNil {b : Nat} {d : DK} {i : Int} (hok : d.ok) (hpl : d.pend.length < 1000000) : Trip Tryd.prog 36 #[.pointer (some ⟨b, 0, none⟩), .int .i64 i, .slice none 0 0] [disk b d] fun r Δ => r = .int .i64 (d.write i []).2 ∧ Δ = [disk b (d.write i []).1] :=
  Trip.imp ((Imp.slEmpty (p := false) (a := none)).trans (Imp.perm (.swap _ _ _))) (c_Write (xs := []) (c := 0) hok hpl ⟨rfl, Nat.le_refl _, .inl rfl⟩)

theorem c_DownD {b : Nat} {d : DK} : Trip Tryd.prog 78 #[.pointer (some ⟨b, 0, none⟩)] [disk b d] fun r Δ => r = .bool d.down ∧ Δ = [disk b d] := by
  refine disk_open fun L hL => ?_
  refine Trip.start 7 [.tmp 2] [(0, .pointer (some ⟨b, 0, none⟩))] Tryd.func78 rfl Tryd.ntmps78 rfl ⟨rfl, trivial⟩ rfl ?_
  refine WPC.seqR ?_
  refine stp ?_
  refine WPL.nil ?_
  refine WPC.seqR ?_
  iterate 5 refine stp ?_
  refine WPL.nil ?_
  refine WPC.ret ?_
  exact endR_r rfl (.tmp rfl .nil) ((Imp.pk).trans (disk_close L hL (Γ := []))) ⟨rfl, rfl⟩

theorem c_Load {b : Nat} {d : DK} {i : Int} (hi : 0 ≤ i ∧ i + 1 < (d.seen.length : Int)) (hd : d.ok) : Trip Tryd.prog 40 #[.pointer (some ⟨b, 0, none⟩), .int .i64 i] [disk b d, tblA] fun r Δ => ∃ a c, r = .tuple #[.slice a (if (last d i).seq = 0 then [] else (last d i).b).length c, .int .u32 ((last d i).seq : Int), .int .i64 (if (last d i).seq = 0 then 41 else 0)] ∧ Sok 1 a (if (last d i).seq = 0 then [] else (last d i).b).length c ((if (last d i).seq = 0 then [] else (last d i).b).map u8) ∧ Δ = [disk b d, sl false a ((if (last d i).seq = 0 then [] else (last d i).b).map u8)] := by
  have hdn := hd.n
  have hr := right_in hi
  refine Trip.start 22 [.tmp 4, .tmp 5, .tmp 6] [(0, .pointer (some ⟨b, 0, none⟩)), (1, .int .i64 i)] Tryd.func40 rfl Tryd.ntmps40 rfl ⟨rfl, rfl, trivial⟩ rfl ?_
  refine WPC.seqR ?_
  iterate 3 refine stp ?_
  refine WPL.nil ?_
  refine WPC.seq ?_
  refine WPC.seqR ?_
  iterate 2 refine stp ?_
  refine kall rfl (c_right (by omega) hd) ?_
  rintro _ _ ⟨rfl, rfl⟩
  refine stp ?_
  refine WPL.nil ?_
  refine WPC.cond rfl (fun h0 => ?_) (fun h0 => ?_)
  · try simp only [decide_eq_true_eq, decide_eq_false_iff_not, beq_iff_eq, bne_iff_ne, beq_eq_false_iff_ne, bne_eq_false_iff_eq, Bool.not_eq_true', Bool.not_eq_false', Bool.not_eq_eq_eq_not, Bool.not_true, Bool.not_false, ne_eq, Decidable.not_not, Int.not_lt, Int.not_le, gt_iff_lt, ge_iff_le] at h0
    simp [hr] at h0
  · skip
    refine WPC.skip ?_
    refine thenQ_n ?_
    refine WPC.seqR ?_
    iterate 2 refine stp ?_
    refine kall rfl (c_last hi hd) ?_
    rintro _ _ ⟨a, c, rfl, hb, rfl⟩
    refine nw fun bL => ?_
    refine sto ?_
    refine WPL.nil ?_
    refine WPC.seq ?_
    refine WPC.seqR ?_
    iterate 3 refine stp ?_
    refine WPL.nil ?_
    refine WPC.cond rfl (fun h1 => ?_) (fun h1 => ?_)
    · have h1 : (last d i).seq = 0 := by simpa using h1
      rw [h1]
      simp only [if_true]
      refine WPC.seqR ?_
      iterate 3 refine stp ?_
      refine WPL.nil ?_
      refine WPC.ret ?_
      refine thenQ_r ?_
      exact endR_r rfl (.tmp rfl (.tmp rfl (.tmp rfl .nil))) ((Imp.slEmpty (p := false) (a := none)).trans Imp.pk) ⟨none, 0, rfl, ⟨rfl, Nat.le_refl _, .inl rfl⟩, rfl⟩
    · have h1 : (last d i).seq ≠ 0 := by simpa using h1
      simp only [if_neg h1]
      refine WPC.skip ?_
      refine thenQ_n ?_
      refine WPC.seqQ mixed (by kernel_rfl) ?_
      iterate 7 refine stq ?_
      refine WPQ.nil ?_
      refine WPC.ret ?_
      exact endR_r rfl (.tmp rfl (.tmp rfl (.tmp rfl .nil))) Imp.pk ⟨a, c, rfl, hb, rfl⟩

theorem c_Put {b c : Nat} {d : DK} {a : Option Addr} {i : Int} {xs : List By} (hi : 0 ≤ i ∧ i + 1 < (d.seen.length : Int)) (hd : d.ok) (hpl : d.pend.length < 900000) (hx : xs.length ≤ 43) (hs : Sok 1 a xs.length c (xs.map u8)) : Trip Tryd.prog 77 #[.pointer (some ⟨b, 0, none⟩), .int .i64 i, .slice a xs.length c] [disk b d, sl false a (xs.map u8), tblA] fun r Δ => r = .int .i64 (put d i xs).2 ∧ Δ = [disk b (put d i xs).1] := by
  have hdn := hd.n
  have hr := right_in hi
  have hlt := (last_lt d i).1
  have hat := last_at d i
  have hsp := sync_pend d
  refine Trip.start 44 [.tmp 6] [(0, .pointer (some ⟨b, 0, none⟩)), (1, .int .i64 i), (2, .slice a xs.length c)] Tryd.func77 rfl Tryd.ntmps77 rfl ⟨rfl, rfl, rfl, trivial⟩ rfl ?_
  refine WPC.seqR ?_
  refine stp ?_
  refine WPL.nil ?_
  refine WPC.seq ?_
  refine WPC.seqR ?_
  iterate 2 refine stp ?_
  refine kall rfl (c_right (by omega) hd) ?_
  rintro _ _ ⟨rfl, rfl⟩
  refine stp ?_
  refine WPL.nil ?_
  refine WPC.cond rfl (fun h0 => ?_) (fun h0 => ?_)
  · try simp only [decide_eq_true_eq, decide_eq_false_iff_not, beq_iff_eq, bne_iff_ne, beq_eq_false_iff_ne, bne_eq_false_iff_eq, Bool.not_eq_true', Bool.not_eq_false', Bool.not_eq_eq_eq_not, Bool.not_true, Bool.not_false, ne_eq, Decidable.not_not, Int.not_lt, Int.not_le, gt_iff_lt, ge_iff_le] at h0
    simp [hr] at h0
  · skip
    refine WPC.skip ?_
    refine thenQ_n ?_
    refine WPC.seqR ?_
    iterate 2 refine stp ?_
    refine kall rfl (c_last hi hd) ?_
    rintro _ _ ⟨al, cl, rfl, hb, rfl⟩
    refine nw fun bL => ?_
    refine sto ?_
    refine WPL.nil ?_
    refine WPC.seqR ?_
    iterate 2 refine stp ?_
    refine L_s (q_add32 (a := (last d i).seq) (b := 1) rfl rfl) rfl ?_
    refine stp ?_
    refine kall rfl (c_Stamp (seq := ((last d i).seq + 1) % 4294967296) (epoch := 0) hs (Nat.mod_lt _ (by omega)) (by omega) hx) ?_
    rintro _ _ ⟨a2, c2, rfl, hs2, rfl⟩
    iterate 5 refine stp ?_
    refine WPL.nil ?_
    refine WPC.seq ?_
    refine WPC.block ?_
    refine WPC.seqR ?_
    iterate 3 refine stp ?_
    refine WPL.nil ?_
    refine WPC.prune [(0, _), (1, _), (6, _), (7, _), (8, _), (9, _), (25, _)] sbb ?_
    refine WPC.cond rfl (fun h1 => ?_) (fun h1 => ?_)
    · try simp only [decide_eq_true_eq, decide_eq_false_iff_not, beq_iff_eq, bne_iff_ne, beq_eq_false_iff_ne, bne_eq_false_iff_eq, Bool.not_eq_true', Bool.not_eq_false', Bool.not_eq_eq_eq_not, Bool.not_true, Bool.not_false, ne_eq, Decidable.not_not, Int.not_lt, Int.not_le, gt_iff_lt, ge_iff_le] at h1
      simp at h1
    · skip
      refine WPC.seqR ?_
      iterate 4 refine stp ?_
      refine WPL.nil ?_
      refine WPC.cond rfl (fun h2 => ?_) (fun h2 => ?_)
      · have h2 : (last d i).seq = 4294967295 := by simp at h2; omega
        have ep : put d i xs = (d, 42) := by unfold put; rw [if_neg (by rw [hr]; simp), if_neg (by omega), if_pos h2]
        rw [ep]
        refine WPC.seqR ?_
        refine stp ?_
        refine WPL.nil ?_
        refine WPC.ret ?_
        refine blockQ_r ?_
        refine thenQ_r ?_
        exact endR_r rfl (.tmp rfl .nil) Imp.pk ⟨rfl, rfl⟩
      · have h2 : (last d i).seq ≠ 4294967295 := by simp at h2; omega
        have hse : ((last d i).seq + 1) % 4294967296 = (last d i).seq + 1 := Nat.mod_eq_of_lt (by omega)
        rw [hse] at hs2 ⊢
        have ep : put d i xs = d.sync.write (2 * i + 1 - (last d i).at_) (stamp ((last d i).seq + 1) 0 xs) := by unfold put; rw [if_neg (by rw [hr]; simp), if_neg (by omega), if_neg h2]
        rw [ep]
        refine WPC.skip ?_
        refine blockQ_n ?_
        refine thenQ_n ?_
        refine WPC.seqR ?_
        refine stp ?_
        refine kall rfl (c_Sync hd (by omega)) ?_
        rintro _ _ ⟨rfl, rfl⟩
        refine WPL.nil ?_
        refine WPC.seqR ?_
        iterate 8 refine stp ?_
        refine kall rfl (c_Write64 hd.sync (by omega) (stamp_length hx) hs2) ?_
        rintro _ _ ⟨rfl, rfl⟩
        refine stp ?_
        refine WPL.nil ?_
        refine WPC.ret ?_
        exact endR_r rfl (.tmp rfl .nil) Imp.pk ⟨rfl, rfl⟩

theorem c_Save {b c : Nat} {d : DK} {a : Option Addr} {i : Int} {xs : List By} (hi : 0 ≤ i ∧ i + 1 < (d.seen.length : Int)) (hd : d.ok) (hpl : d.pend.length < 900000) (hx : xs.length ≤ 43) (hs : Sok 1 a xs.length c (xs.map u8)) : Trip Tryd.prog 70 #[.pointer (some ⟨b, 0, none⟩), .int .i64 i, .slice a xs.length c] [disk b d, sl false a (xs.map u8), tblA] fun r Δ => r = .int .i64 (save d i xs).2 ∧ Δ = [disk b (save d i xs).1] := by
  have hpp := put_pend d i xs
  refine Trip.start 23 [.tmp 6] [(0, .pointer (some ⟨b, 0, none⟩)), (1, .int .i64 i), (2, .slice a xs.length c)] Tryd.func70 rfl Tryd.ntmps70 rfl ⟨rfl, rfl, rfl, trivial⟩ rfl ?_
  refine WPC.seqR ?_
  refine stp ?_
  refine WPL.nil ?_
  refine WPC.seqR ?_
  iterate 3 refine stp ?_
  refine kall rfl (c_Put hi hd hpl hx hs) ?_
  rintro _ _ ⟨rfl, rfl⟩
  refine stp ?_
  refine WPL.nil ?_
  refine WPC.seq ?_
  refine WPC.seqR ?_
  iterate 2 refine stp ?_
  refine WPL.nil ?_
  refine WPC.cond rfl (fun h0 => ?_) (fun h0 => ?_)
  · have h0 : (put d i xs).2 = 0 := by simpa using h0
    have ep : save d i xs = ((put d i xs).1.sync, if (put d i xs).1.sync.down then 43 else 0) := by unfold save; rw [if_pos h0]
    rw [ep]
    refine WPC.region ?_
    refine stp ?_
    refine kall rfl (c_Sync (put_ok hd i xs) (by omega)) ?_
    rintro _ _ ⟨rfl, rfl⟩
    refine WPL.nil ?_
    refine thenQ_n ?_
    refine WPC.seq ?_
    refine WPC.seqR ?_
    iterate 3 refine stp ?_
    apply WPL.joinA (e' := [(6, _), (7, _)]) 18 21 3 rfl
    · intro g4_2
      try simp only [decide_eq_true_eq, decide_eq_false_iff_not, beq_iff_eq, bne_iff_ne, beq_eq_false_iff_ne, bne_eq_false_iff_eq, Bool.not_eq_true', Bool.not_eq_false', Bool.not_eq_eq_eq_not, Bool.not_true, Bool.not_false, ne_eq, Decidable.not_not, Int.not_lt, Int.not_le, gt_iff_lt, ge_iff_le] at g4_2
      refine stpY rfl rfl ?_
      refine L_eyes rfl rfl rfl (C1.call (c_call Tryd.func78 rfl rfl rfl) c_DownD pkk rfl ?_)
      rintro _ _ ⟨rfl, rfl⟩
      refine WPL.putS ?_
      refine stp ?_
      first | exact WPL.jn rfl rfl sbb | exact WPL.jnI rfl rfl sbb Imp.pk
    · intro g4_2
      try simp only [decide_eq_true_eq, decide_eq_false_iff_not, beq_iff_eq, bne_iff_ne, beq_eq_false_iff_ne, bne_eq_false_iff_eq, Bool.not_eq_true', Bool.not_eq_false', Bool.not_eq_eq_eq_not, Bool.not_true, Bool.not_false, ne_eq, Decidable.not_not, Int.not_lt, Int.not_le, gt_iff_lt, ge_iff_le] at g4_2
      refine L_no rfl rfl rfl rfl ?_
      refine L_no rfl rfl rfl rfl ?_
      refine stp ?_
      first | exact WPL.jn rfl rfl sbb | exact WPL.jnI rfl rfl sbb Imp.pk
    refine WPL.nil ?_
    refine WPC.cond rfl (fun h1 => ?_) (fun h1 => ?_)
    · have h1 : (put d i xs).1.sync.down = true := by simp at h1; exact h1.2
      rw [h1]
      refine WPC.seqR ?_
      refine stp ?_
      refine WPL.nil ?_
      refine WPC.ret ?_
      refine thenQ_r ?_
      exact endR_r rfl (.tmp rfl .nil) Imp.pk ⟨rfl, rfl⟩
    · have h1 : (put d i xs).1.sync.down = false := by simp at h1; exact h1 h0
      rw [h1, h0]
      refine WPC.skip ?_
      refine thenQ_n ?_
      refine WPC.seqR ?_
      iterate 2 refine stp ?_
      refine WPL.nil ?_
      refine WPC.ret ?_
      exact endR_r rfl (.tmp rfl .nil) Imp.pk ⟨rfl, rfl⟩
  · have h0 : (put d i xs).2 ≠ 0 := by simpa using h0
    have ep : save d i xs = put d i xs := by unfold save; rw [if_neg h0]
    rw [ep]
    refine WPC.skip ?_
    refine thenQ_n ?_
    refine WPC.seq ?_
    refine WPC.seqR ?_
    iterate 3 refine stp ?_
    apply WPL.joinA (e' := [(6, _), (7, _)]) 18 21 3 rfl
    · intro g4_2
      try simp only [decide_eq_true_eq, decide_eq_false_iff_not, beq_iff_eq, bne_iff_ne, beq_eq_false_iff_ne, bne_eq_false_iff_eq, Bool.not_eq_true', Bool.not_eq_false', Bool.not_eq_eq_eq_not, Bool.not_true, Bool.not_false, ne_eq, Decidable.not_not, Int.not_lt, Int.not_le, gt_iff_lt, ge_iff_le] at g4_2
      refine stpY rfl rfl ?_
      refine L_eyes rfl rfl rfl (C1.call (c_call Tryd.func78 rfl rfl rfl) c_DownD pkk rfl ?_)
      rintro _ _ ⟨rfl, rfl⟩
      refine WPL.putS ?_
      refine stp ?_
      first | exact WPL.jn rfl rfl sbb | exact WPL.jnI rfl rfl sbb Imp.pk
    · intro g4_2
      try simp only [decide_eq_true_eq, decide_eq_false_iff_not, beq_iff_eq, bne_iff_ne, beq_eq_false_iff_ne, bne_eq_false_iff_eq, Bool.not_eq_true', Bool.not_eq_false', Bool.not_eq_eq_eq_not, Bool.not_true, Bool.not_false, ne_eq, Decidable.not_not, Int.not_lt, Int.not_le, gt_iff_lt, ge_iff_le] at g4_2
      refine L_no rfl rfl rfl rfl ?_
      refine L_no rfl rfl rfl rfl ?_
      refine stp ?_
      first | exact WPL.jn rfl rfl sbb | exact WPL.jnI rfl rfl sbb Imp.pk
    refine WPL.nil ?_
    refine WPC.cond rfl (fun h1 => ?_) (fun h1 => ?_)
    · skip
      simp at h1; exact absurd h1.1 h0
    · skip
      refine WPC.skip ?_
      refine thenQ_n ?_
      refine WPC.seqR ?_
      iterate 2 refine stp ?_
      refine WPL.nil ?_
      refine WPC.ret ?_
      exact endR_r rfl (.tmp rfl .nil) Imp.pk ⟨rfl, rfl⟩

end Go.Sl
/- Walks: journals. -/
namespace Go.Sl
open Go Go.RowKit Go.Proofs
set_option linter.unusedSimpArgs false
set_option linter.unusedVariables false
attribute [local irreducible] faB szB ldB zB zL slB mkB arB plB intB cells objc star stars buf slv grp whole Sat WPC WPL WPA WPO WPQ Trip Q1 E1 S1 C1

theorem c_next {b db : Nat} {j : JN} {L : JL} (hl : L.rs.length = j.held.length) (h1 : j.first < 4294967296) (h2 : j.held.length ≤ 1000) : Trip Tryd.prog 34 #[.pointer (some ⟨b, 0, none⟩)] [cells true b 0 (jourC db j L)] fun r Δ => r = .int .u64 (j.next : Int) ∧ Δ = [cells true b 0 (jourC db j L)] := by
  refine Trip.start 15 [.tmp 2] [(0, .pointer (some ⟨b, 0, none⟩))] Tryd.func34 rfl Tryd.ntmps34 rfl ⟨rfl, trivial⟩ rfl ?_
  refine WPC.seqR ?_
  refine stp ?_
  refine WPL.nil ?_
  refine WPC.seqQ mixed (by kernel_rfl) ?_
  iterate 11 refine stq ?_
  refine WPQ.cons (q_addUN (a := j.first) (b := L.rs.length) rfl rfl (by omega)) rfl ?_
  refine stq ?_
  refine WPQ.nil ?_
  refine WPC.ret ?_
  exact endR_r rfl (.tmp rfl .nil) Imp.pk ⟨by simp only [packV, JN.next, hl], rfl⟩

theorem c_sector {b db : Nat} {j : JN} {L : JL} {seq : Nat} (hs : seq < 4294967296) (hn : 1 ≤ j.n ∧ j.n ≤ 100) (ha : j.at_ ≤ 1000) : Trip Tryd.prog 37 #[.pointer (some ⟨b, 0, none⟩), .int .u32 (seq : Int)] [cells true b 0 (jourC db j L)] fun r Δ => r = .int .i64 (j.place seq : Int) ∧ Δ = [cells true b 0 (jourC db j L)] := by
  have hm := Nat.mod_lt seq (show 0 < j.n by omega)
  refine Trip.start 19 [.tmp 4] [(0, .pointer (some ⟨b, 0, none⟩)), (1, .int .u32 (seq : Int))] Tryd.func37 rfl Tryd.ntmps37 rfl ⟨rfl, rfl, trivial⟩ rfl ?_
  refine WPC.seqR ?_
  refine stp ?_
  refine WPL.nil ?_
  refine WPC.seqQ mixed (by kernel_rfl) ?_
  iterate 11 refine stq ?_
  refine WPQ.cons (q_remNN (a := seq) (b := j.n) rfl rfl (by omega)) rfl ?_
  iterate 3 refine stq ?_
  refine WPQ.nil ?_
  refine WPC.ret ?_
  exact endR_r rfl (.tmp rfl .nil) Imp.pk ⟨by simp [packV, JN.place], rfl⟩

theorem c_meta {b db : Nat} {j : JN} {L : JL} {a : Option Addr} {c : Nat} {xs : List By} (hs : Sok 1 a xs.length c (xs.map u8)) (hx : xs.length < 1000) : Trip Tryd.prog 41 #[.pointer (some ⟨b, 0, none⟩), .slice a xs.length c] [cells true b 0 (jourC db j L), sl false a (xs.map u8)] fun r Δ => ∃ v : Bool, r = .bool v ∧ (v = true ↔ xs.length = 12 ∧ 0 < num xs 0 4 ∧ num xs 8 4 ≤ num xs 4 4) ∧ Δ = [cells true b 0 (jourC db (j.withMeta xs) L)] := by
  have hT := T_len xs
  have hb1 := rnum_lt xs false
  have hb2 := rnum_lt (T1 xs).2.1 (T1 xs).2.2
  have hb3 := rnum_lt (T2 xs).2.1 (T2 xs).2.2
  change ofLE (T1 xs).1 < _ at hb1
  change ofLE (T2 xs).1 < _ at hb2
  change ofLE (T3 xs).1 < _ at hb3
  refine Trip.start 47 [.tmp 4] [(0, .pointer (some ⟨b, 0, none⟩)), (1, .slice a xs.length c)] Tryd.func41 rfl Tryd.ntmps41 rfl ⟨rfl, rfl, trivial⟩ rfl ?_
  refine WPC.seqR ?_
  refine stp ?_
  refine WPL.nil ?_
  refine WPC.seqR ?_
  refine stp ?_
  refine kall rfl (c_Read hs) ?_
  rintro _ _ ⟨br, rfl, rfl⟩
  refine stp ?_
  refine WPL.nil ?_
  refine WPC.seqR ?_
  iterate 4 refine stp ?_
  refine kall rfl (show Trip _ _ _ [rd br 0 xs false] (fun r Δ => r = .int .u64 ((ofLE (T1 xs).1 : Nat) : Int) ∧ Δ = [rd br 0 (T1 xs).2.1 (T1 xs).2.2]) from c_RNumber (k := 4) (by omega) (by omega)) ?_
  rintro _ _ ⟨rfl, rfl⟩
  iterate 2 refine stp ?_
  refine kall rfl (show Trip _ _ _ [rd br 0 (T1 xs).2.1 (T1 xs).2.2] (fun r Δ => r = .int .u64 ((ofLE (T2 xs).1 : Nat) : Int) ∧ Δ = [rd br 0 (T2 xs).2.1 (T2 xs).2.2]) from c_RNumber (k := 4) (by omega) (by omega)) ?_
  rintro _ _ ⟨rfl, rfl⟩
  iterate 2 refine stp ?_
  refine kall rfl (show Trip _ _ _ [rd br 0 (T2 xs).2.1 (T2 xs).2.2] (fun r Δ => r = .int .u64 ((ofLE (T3 xs).1 : Nat) : Int) ∧ Δ = [rd br 0 (T3 xs).2.1 (T3 xs).2.2]) from c_RNumber (k := 4) (by omega) (by omega)) ?_
  rintro _ _ ⟨rfl, rfl⟩
  iterate 3 refine stp ?_
  refine sto ?_
  iterate 2 refine stp ?_
  refine sto ?_
  iterate 2 refine stp ?_
  refine sto ?_
  refine WPL.nil ?_
  refine WPC.seqD mixed ?_
  refine atP 0 rfl ?_
  refine WPA.oneE 1 [] (by kernel_rfl) rfl rfl (by repeat (first | exact .nil | refine .anc rfl ?_ | refine .keep mm ?_)) (C1.call (c_call Tryd.func67 rfl rfl rfl) (c_REnd (b := br) (o := 0) (xs := (T3 xs).2.1) (sh := (T3 xs).2.2)) pkk rfl ?_)
  rintro _ _ ⟨v, rfl, hv, rfl⟩
  refine ⟨(.nil _), ?_⟩
  refine WPA.putS ?_
  refine atP 2 rfl ?_
  refine atP 3 rfl ?_
  refine WPA.split 29 _ rfl (fun g3_3 => ?_) (fun g3_3 => ?_)
  · have h0 : v = 0 := by simpa using g3_3
    have h12 := T3_only (hv.1 h0).1 (hv.1 h0).2
    obtain ⟨-, -, e1, e2, e3⟩ := T3_twelve h12
    refine atPY 4 rfl rfl rfl ?_
    refine atPY 5 rfl rfl rfl ?_
    refine atPY 6 rfl rfl rfl ?_
    refine atLY 7 rfl rfl rfl ?_
    refine atPY 8 rfl rfl rfl ?_
    refine atP 9 rfl ?_
    refine atP 10 rfl ?_
    refine WPA.split 36 _ rfl (fun g3_10 => ?_) (fun g3_10 => ?_)
    · skip
      refine atPY 11 rfl rfl rfl ?_
      refine atPY 12 rfl rfl rfl ?_
      refine atPY 13 rfl rfl rfl ?_
      refine atLY 14 rfl rfl rfl ?_
      refine atPY 15 rfl rfl rfl ?_
      refine atPY 16 rfl rfl rfl ?_
      refine atPY 17 rfl rfl rfl ?_
      refine atLY 18 rfl rfl rfl ?_
      refine atPY 19 rfl rfl rfl ?_
      refine atP 20 rfl ?_
      refine atP 21 rfl ?_
      refine WPA.done (by kernel_rfl) ?_
      refine WPC.ret ?_
      exact endR_r rfl (.tmp rfl .nil) Imp.pk ⟨_, rfl, by simp only [decide_eq_true_eq]; rw [e2, e3]; rw [e1] at g3_10; simp at g3_10; omega, rfl⟩
    · skip
      refine WPA.takeN 11 rfl rfl rfl rfl rfl (by kernel_rfl) (by kernel_rfl) (by kernel_rfl) rfl (.cons (Ent.mem mm) (.nil _)) ?_
      refine WPA.putS ?_
      refine WPA.takeN 12 rfl rfl rfl rfl rfl (by kernel_rfl) (by kernel_rfl) (by kernel_rfl) rfl (.cons (Ent.mem mm) (.nil _)) ?_
      refine WPA.putS ?_
      refine WPA.takeN 13 rfl rfl rfl rfl rfl (by kernel_rfl) (by kernel_rfl) (by kernel_rfl) rfl (.cons (Ent.mem mm) (.nil _)) ?_
      refine WPA.putS ?_
      refine WPA.takeN 14 rfl rfl rfl rfl rfl (by kernel_rfl) (by kernel_rfl) (by kernel_rfl) rfl (.cons (Ent.mem mm) (.nil _)) ?_
      refine WPA.putS ?_
      refine WPA.takeN 15 rfl rfl rfl rfl rfl (by kernel_rfl) (by kernel_rfl) (by kernel_rfl) rfl (.cons (Ent.mem mm) (.nil _)) ?_
      refine WPA.putS ?_
      refine WPA.takeN 16 rfl rfl rfl rfl rfl (by kernel_rfl) (by kernel_rfl) (by kernel_rfl) rfl (.cons (Ent.mem mm) (.nil _)) ?_
      refine WPA.putS ?_
      refine WPA.takeN 17 rfl rfl rfl rfl rfl (by kernel_rfl) (by kernel_rfl) (by kernel_rfl) rfl (.cons (Ent.mem mm) (.nil _)) ?_
      refine WPA.putS ?_
      refine WPA.takeN 18 rfl rfl rfl rfl rfl (by kernel_rfl) (by kernel_rfl) (by kernel_rfl) rfl (.cons (Ent.mem mm) (.nil _)) ?_
      refine WPA.putS ?_
      refine WPA.takeN 19 rfl rfl rfl rfl rfl (by kernel_rfl) (by kernel_rfl) (by kernel_rfl) rfl (.cons (Ent.mem mm) (.nil _)) ?_
      refine WPA.putS ?_
      refine atP 20 rfl ?_
      refine atP 21 rfl ?_
      refine WPA.done (by kernel_rfl) ?_
      refine WPC.ret ?_
      exact endR_r rfl (.tmp rfl .nil) Imp.pk ⟨_, rfl, by rw [e1] at g3_10; simp at g3_10 ⊢; omega, rfl⟩
  · have h0 : v ≠ 0 := by simpa using g3_3
    have h12 : xs.length ≠ 12 := fun h => h0 (hv.2 ⟨(T3_twelve h).1, (T3_twelve h).2.1⟩)
    refine WPA.takeN 4 rfl rfl rfl rfl rfl (by kernel_rfl) (by kernel_rfl) (by kernel_rfl) rfl (.nil _) ?_
    refine WPA.putS ?_
    refine WPA.takeN 5 rfl rfl rfl rfl rfl (by kernel_rfl) (by kernel_rfl) (by kernel_rfl) rfl (.nil _) ?_
    refine WPA.putS ?_
    refine WPA.takeN 6 rfl rfl rfl rfl rfl (by kernel_rfl) (by kernel_rfl) (by kernel_rfl) rfl (.nil _) ?_
    refine WPA.putS ?_
    refine WPA.takeN 7 rfl rfl rfl rfl rfl (by kernel_rfl) (by kernel_rfl) (by kernel_rfl) rfl (.nil _) ?_
    refine WPA.putS ?_
    refine WPA.takeN 8 rfl rfl rfl rfl rfl (by kernel_rfl) (by kernel_rfl) (by kernel_rfl) rfl (.nil _) ?_
    refine WPA.putS ?_
    refine atP 9 rfl ?_
    refine atP 10 rfl ?_
    refine WPA.split 36 _ rfl (fun g3_10 => ?_) (fun g3_10 => ?_)
    · skip
      simp at g3_10
    · skip
      refine WPA.takeN 11 rfl rfl rfl rfl rfl (by kernel_rfl) (by kernel_rfl) (by kernel_rfl) rfl (.nil _) ?_
      refine WPA.putS ?_
      refine WPA.takeN 12 rfl rfl rfl rfl rfl (by kernel_rfl) (by kernel_rfl) (by kernel_rfl) rfl (.nil _) ?_
      refine WPA.putS ?_
      refine WPA.takeN 13 rfl rfl rfl rfl rfl (by kernel_rfl) (by kernel_rfl) (by kernel_rfl) rfl (.nil _) ?_
      refine WPA.putS ?_
      refine WPA.takeN 14 rfl rfl rfl rfl rfl (by kernel_rfl) (by kernel_rfl) (by kernel_rfl) rfl (.nil _) ?_
      refine WPA.putS ?_
      refine WPA.takeN 15 rfl rfl rfl rfl rfl (by kernel_rfl) (by kernel_rfl) (by kernel_rfl) rfl (.nil _) ?_
      refine WPA.putS ?_
      refine WPA.takeN 16 rfl rfl rfl rfl rfl (by kernel_rfl) (by kernel_rfl) (by kernel_rfl) rfl (.nil _) ?_
      refine WPA.putS ?_
      refine WPA.takeN 17 rfl rfl rfl rfl rfl (by kernel_rfl) (by kernel_rfl) (by kernel_rfl) rfl (.nil _) ?_
      refine WPA.putS ?_
      refine WPA.takeN 18 rfl rfl rfl rfl rfl (by kernel_rfl) (by kernel_rfl) (by kernel_rfl) rfl (.nil _) ?_
      refine WPA.putS ?_
      refine WPA.takeN 19 rfl rfl rfl rfl rfl (by kernel_rfl) (by kernel_rfl) (by kernel_rfl) rfl (.nil _) ?_
      refine WPA.putS ?_
      refine atP 20 rfl ?_
      refine atP 21 rfl ?_
      refine WPA.done (by kernel_rfl) ?_
      refine WPC.ret ?_
      exact endR_r rfl (.tmp rfl .nil) Imp.pk ⟨_, rfl, by simp [h12], rfl⟩

theorem c_jsave {b db : Nat} {j : JN} {L : JL} {d : DK} (hj : j.ok d) (hd : d.ok) (hpl : d.pend.length < 900000) : Trip Tryd.prog 43 #[.pointer (some ⟨b, 0, none⟩)] [cells true b 0 (jourC db j L), disk db d, tblA] fun r Δ => r = .int .i64 (jsave d j).2 ∧ Δ = [cells true b 0 (jourC db j L), disk db (jsave d j).1] := by
  have h1 := hj.first
  have h2 := hj.epoch
  have h3 := hj.low
  have h4 := hj.at_
  have h5 := hd.n
  have hml : j.metaB.length = 12 := by simp [JN.metaB, le_length]
  refine Trip.start 32 [.tmp 2] [(0, .pointer (some ⟨b, 0, none⟩))] Tryd.func43 rfl Tryd.ntmps43 rfl ⟨rfl, trivial⟩ rfl ?_
  refine WPC.seqR ?_
  refine stp ?_
  refine WPL.nil ?_
  refine WPC.seqR ?_
  refine nw fun bW => ?_
  refine WPL.nil ?_
  refine WPC.imp (Imp.bufNil (sz := 1)) ?_
  refine WPC.imp ((Imp.pk (Δ := [cells true bW 0 [.slice none 0 0], buf 1 none 0 0 (([] : List By).map u8), cells true b 0 (jourC db j L), disk db d, tblA])).trans (wr_close (b := bW) (o := 0) (xs := []) none 0 0 (Γ := [cells true b 0 (jourC db j L), disk db d, tblA]))) ?_
  refine WPC.seqR ?_
  iterate 5 refine stp ?_
  refine kall rfl (c_WNumber (xs := []) (v := j.first) (k := 4) (by omega) (by simp)) ?_
  rintro _ _ ⟨rfl, rfl⟩
  rw [List.nil_append]
  refine WPL.nil ?_
  refine WPC.seqR ?_
  iterate 5 refine stp ?_
  refine kall rfl (c_WNumber (xs := le j.first 4) (v := j.epoch) (k := 4) (by omega) (by simp [le_length])) ?_
  rintro _ _ ⟨rfl, rfl⟩
  refine WPL.nil ?_
  refine WPC.seqR ?_
  iterate 5 refine stp ?_
  refine kall rfl (c_WNumber (xs := le j.first 4 ++ le j.epoch 4) (v := j.low) (k := 4) (by omega) (by simp [le_length])) ?_
  rintro _ _ ⟨rfl, rfl⟩
  refine WPL.nil ?_
  refine WPC.seqD mixed ?_
  refine atP 0 rfl ?_
  refine atP 1 rfl ?_
  refine atP 2 rfl ?_
  refine atL 3 rfl ?_
  refine atP 4 rfl ?_
  refine atP 5 rfl ?_
  refine atP 6 rfl ?_
  refine atL 7 rfl ?_
  refine WPA.oneE 8 [(7, [_]), (3, [_])] (by kernel_rfl) rfl rfl (by repeat (first | exact .nil | refine .anc rfl ?_ | refine .keep mm ?_)) (C1.call (c_call Tryd.func60 rfl rfl rfl) (show Trip _ _ _ [wr bW 0 (le j.first 4 ++ le j.epoch 4 ++ le j.low 4)] (fun r Δ => ∃ a c, r = .slice a j.metaB.length c ∧ Sok 1 a j.metaB.length c (j.metaB.map u8) ∧ Δ = [sl false a (j.metaB.map u8), wr bW 0 j.metaB]) from c_WOut (xs := j.metaB) (by omega)) pkk rfl ?_)
  rintro _ _ ⟨a, c, rfl, hs, rfl⟩
  refine ⟨(.cons (Ent.mem mm) (.cons (Ent.mem mm) (.nil _))), ?_⟩
  refine WPA.putS ?_
  refine WPA.oneE 9 [] (by kernel_rfl) rfl rfl (by repeat (first | exact .nil | refine .anc rfl ?_ | refine .keep mm ?_)) (C1.call (c_call Tryd.func70 rfl rfl rfl) (show Trip _ _ _ [disk db d, sl false a (j.metaB.map u8), tblA] (fun r Δ => r = .int .i64 (jsave d j).2 ∧ Δ = [disk db (jsave d j).1]) from c_Save (i := (j.at_ : Int)) (by omega) hd hpl (by omega) hs) pkk rfl ?_)
  rintro _ _ ⟨rfl, rfl⟩
  refine ⟨(.nil _), ?_⟩
  refine WPA.putS ?_
  refine atP 10 rfl ?_
  refine WPA.done (by kernel_rfl) ?_
  refine WPC.ret ?_
  exact endR_r rfl (.tmp rfl .nil) Imp.pk ⟨rfl, rfl⟩

theorem c_All_ {b db : Nat} {j : JN} {L : JL} (hL : JOk j L) (hn : L.rs.length ≤ 1000) (hb : ∀ r ∈ L.rs, r.x.bs.length ≤ 1000) (hs : Sok 2 L.a L.rs.length L.c (L.rs.flatMap encR)) : Trip Tryd.prog 11 #[.pointer (some ⟨b, 0, none⟩)] [cells true b 0 (jourC db j L), sl true L.a (L.rs.flatMap encR), bytes (L.rs.map (·.x))] fun r Δ => ∃ (a c : _) (ys : List BS), r = .slice a ys.length c ∧ Sok 1 a ys.length c (ys.map bsV) ∧ ys.map BS.bs = j.held.map (·.2) ∧ (∀ y ∈ ys, y.ok) ∧ Δ = [cells true b 0 (jourC db j L), sl true L.a (L.rs.flatMap encR), buf 1 a ys.length c (ys.map bsV), bytes ys] := by
  refine Trip.start 23 [.tmp 2] [(0, .pointer (some ⟨b, 0, none⟩))] Tryd.func11 rfl Tryd.ntmps11 rfl ⟨rfl, trivial⟩ rfl ?_
  refine WPC.seqR ?_
  refine stp ?_
  refine WPL.nil ?_
  refine WPC.seqR ?_
  refine stp ?_
  refine WPL.nil ?_
  refine WPC.imp ((Imp.bufNil (sz := 1)).trans bytes_nil) ?_
  refine WPC.seq ?_
  refine WPC.seqR ?_
  iterate 6 refine stp ?_
  refine WPL.nil ?_
  refine WPC.block ?_
  refine WPC.loopS (fun m e Γ => ∃ (k : Nat) (a2 : Option Addr) (c2 : Nat) (ys : List BS), m = L.rs.length - k ∧ k ≤ L.rs.length ∧ ys.length = k ∧ ys.map BS.bs = (L.rs.take k).map (·.x.bs) ∧ (∀ y ∈ ys, y.ok) ∧ e = [(0, .pointer (some ⟨b, 0, none⟩)), (3, .slice a2 k c2), (9, .slice L.a L.rs.length L.c), (10, .int .i64 (L.rs.length : Int)), (11, .int .i64 (k : Int))] ∧ Γ = [cells true b 0 (jourC db j L), sl true L.a (L.rs.flatMap encR), bytes (L.rs.map (·.x)), buf 1 a2 k c2 (ys.map bsV), bytes ys]) (L.rs.length) ⟨0, none, 0, [], rfl, by omega, rfl, rfl, by simp, rfl, rfl⟩ sbb Imp.pk ?_
  rintro m e Γ ⟨k, a2, c2, ys, rfl, hk, hyl, hye, hyo, rfl, rfl⟩
  refine WPC.seqR ?_
  refine stp ?_
  refine WPL.nil ?_
  refine WPC.seq ?_
  refine WPC.cond rfl (fun h0 => ?_) (fun h0 => ?_)
  · simp only [decide_eq_true_eq, Int.ofNat_lt] at h0
    have hp : Pl L.a := hs.at (by omega) (by omega)
    obtain ⟨r, hr⟩ : ∃ r, L.rs[k]? = some r := ⟨L.rs[k], by simp [h0]⟩
    have hrm := List.mem_of_getElem? hr
    have hro := hL.ok r hrm
    have hrn := hro.n
    have hrl := hb r hrm
    refine WPC.skip ?_
    refine thenQ_n ?_
    refine WPC.seq ?_
    refine WPC.block ?_
    refine WPC.seqR ?_
    refine L_s (q_idxN (i := k) sl_sl_journal_record rfl rfl h0 hp) rfl ?_
    refine L_s (q_ldFlat ld_journal_record rfl mm encR_len hr) rfl ?_
    refine nw fun bw => ?_
    refine sto ?_
    refine WPL.nil ?_
    refine WPC.region ?_
    iterate 3 refine stp ?_
    refine WPL.imp ((Imp.pk (Δ := [bytes (L.rs.map (·.x)), cells true bw 0 (encR r), cells true b 0 (jourC db j L), sl true L.a (L.rs.flatMap encR), buf 1 a2 k c2 (ys.map bsV), bytes ys])).trans (bytes_one (List.mem_map.2 ⟨r, hrm, rfl⟩))) ?_
    refine kall rfl (c_CloneB (p := false) hro (by omega)) ?_
    rintro _ _ ⟨a3, c3, rfl, rfl⟩
    refine WPL.bufRo fun hs3 => ?_
    refine nwb [_] fun bE => ?_
    refine WPL.cons rfl (E1.wpo (e_append (m := 1) (news := [bsV ⟨r.x.bs, a3, r.x.n, c3⟩]) mk_sl_sl_uint8 (by decide) rfl rfl pk1 (Rd.part (i := 0) (b := bE) (o := 0) (vs := [bsV ⟨r.x.bs, a3, r.x.n, c3⟩]) mm rfl rfl rfl) (by simp [Value.oneCell']) (by omega) (by omega)) rfl ?_)
    rintro _ _ ⟨a4, c4, rfl, -, rfl⟩
    rw [show ys.map bsV ++ [bsV ⟨r.x.bs, a3, r.x.n, c3⟩] = (ys ++ [(⟨r.x.bs, a3, r.x.n, c3⟩ : BS)]).map bsV by simp]
    refine WPL.putS ?_
    refine stp ?_
    refine WPL.nil ?_
    refine blockQ_n ?_
    refine thenQ_n ?_
    refine WPC.region ?_
    refine WPL.imp ((Imp.pk (Δ := [BS.at_ ⟨r.x.bs, a3, r.x.n, c3⟩, bytes ys, cells true b 0 (jourC db j L), sl true L.a (L.rs.flatMap encR), bytes (L.rs.map (·.x)), buf 1 a4 (k + 1) c4 ((ys ++ [(⟨r.x.bs, a3, r.x.n, c3⟩ : BS)]).map bsV)])).trans bytes_snoc) ?_
    iterate 2 refine stp ?_
    refine WPL.nil ?_
    refine thenQ_n ?_
    exact ⟨rfl, _, _, _, by omega, ⟨k + 1, a4, c4, ys ++ [⟨r.x.bs, a3, r.x.n, c3⟩], rfl, by omega, by simp [hyl], by rw [take_succ hr]; simp [hye], by intro y hy; rcases List.mem_append.1 hy with hy | hy; exact hyo y hy; rw [List.mem_singleton.1 hy]; exact hs3, rfl, rfl⟩, sbb, Imp.pk⟩
  · simp only [decide_eq_false_iff_not, Int.ofNat_lt] at h0
    have hk2 : k = L.rs.length := by omega
    refine WPC.exit ?_
    refine thenQ_e ?_
    refine thenQ_e ?_
    refine blockQ_here ?_
    refine thenQ_n ?_
    refine WPC.seqR ?_
    iterate 2 refine stp ?_
    refine WPL.nil ?_
    refine WPC.bufFact mm fun hsb => ?_
    refine WPC.ret ?_
    rw [List.take_of_length_le (by omega)] at hye
    have hye2 : ys.map BS.bs = j.held.map (·.2) := by rw [hye, ← hL.held]; simp
    subst hyl
    exact endR_r rfl (.tmp rfl .nil) Imp.pk ⟨a2, c2, ys, rfl, hsb, hye2, hyo, rfl⟩

end Go.Sl
/- Walks: journals that change. -/
namespace Go.Sl
open Go Go.RowKit Go.Proofs
set_option linter.unusedSimpArgs false
set_option linter.unusedVariables false
attribute [local irreducible] faB szB ldB zB zL slB mkB arB plB intB cells objc star stars buf slv grp whole Sat WPC WPL WPA WPO WPQ Trip Q1 E1 S1 C1

theorem c_Delete {a : Option Addr} {n c k : Nat} {rs : List JR} {sp : List Value} (hs : Sok 2 a n c (rs.flatMap encR)) (hn : rs.length = n) (hk : k ≤ n) (hn2 : n ≤ 1000) (hsp : sp.length = (c - n) * 2) : Trip Tryd.prog 45 #[.slice a n c, .int .i64 0, .int .i64 (k : Int)] [cells true (blk a) (off a) (rs.flatMap encR ++ sp)] fun r Δ => ∃ sp', r = .slice a (n - k) c ∧ sp'.length = (c - (n - k)) * 2 ∧ Δ = [cells true (blk a) (off a) (((rs.drop k).flatMap encR) ++ sp')] := by
  have hcap := hs.cap
  refine Trip.start 33 [.tmp 6] [(0, .slice a n c), (1, .int .i64 0), (2, .int .i64 (k : Int))] Tryd.func45 rfl Tryd.ntmps45 rfl ⟨rfl, rfl, rfl, trivial⟩ rfl ?_
  refine WPC.seqR ?_
  refine stp ?_
  refine WPL.nil ?_
  refine WPC.seqR ?_
  iterate 6 refine stp ?_
  refine WPL.nil ?_
  refine WPC.seq ?_
  refine WPC.seqR ?_
  iterate 3 refine stp ?_
  refine WPL.nil ?_
  refine WPC.cond rfl (fun h0 => ?_) (fun h0 => ?_)
  · have hk0 : k = 0 := by simp at h0; omega
    subst hk0
    refine WPC.seqR ?_
    iterate 2 refine stp ?_
    refine WPL.nil ?_
    refine WPC.ret ?_
    refine thenQ_r ?_
    exact endR_r rfl (.tmp rfl .nil) Imp.pk ⟨sp, rfl, hsp, rfl⟩
  · have hk0 : 0 < k := by simp at h0; omega
    have hp : Pl a := hs.at (by omega) (by omega)
    obtain ⟨ab, ao, rfl⟩ : ∃ ab ao, a = some ⟨ab, ao, none⟩ := ⟨blk a, off a, hp⟩
    dsimp only [blk, off]
    refine WPC.skip ?_
    refine thenQ_n ?_
    refine WPC.seqR ?_
    iterate 3 refine stp ?_
    refine WPL.nil ?_
    refine WPC.seqD mixed ?_
    refine atP 0 rfl ?_
    refine atP 1 rfl ?_
    refine WPA.takeP 2 rfl (q_sliceHi (j := 0) sl_sl_journal_record rfl rfl (by omega)) (by kernel_rfl) (by kernel_rfl) (by kernel_rfl) rfl rfl (.nil _) ?_
    refine WPA.putS ?_
    refine atP 3 rfl ?_
    refine atP 4 rfl ?_
    refine WPA.takeP 5 rfl (q_sliceLoC (l := k) sl_sl_journal_record rfl rfl hk hcap) (by kernel_rfl) (by kernel_rfl) (by kernel_rfl) rfl rfl (.nil _) ?_
    refine WPA.putS ?_
    refine WPA.oneE 6 [] (by kernel_rfl) rfl rfl (by repeat (first | exact .nil | refine .anc rfl ?_ | refine .keep mm ?_)) (E1.wpo (e_appendRoom (b := ab) (o := ao) (i := 0) (n := 0) (c := c) (m := n - k) (vs := (rs.flatMap encR ++ sp)) (news := ((rs.drop k).flatMap encR)) mk_sl_journal_record rfl rfl (rd_cut mm hk hn hcap) (encR_one _) (by omega) (by show 0 + (0 + (n - k)) * 2 ≤ _; rw [List.length_append, flat_length encR_len, hn, hsp]; omega) uu) rfl ?_)
    rintro _ _ ⟨rfl, rfl⟩
    rw [show ao + 0 = ao from rfl, show 0 + (n - k) = n - k by omega, show ((rs.flatMap encR ++ sp).take (0 + 0 * [Value.int .u32 0, Value.slice none 0 0].length) ++ ((rs.drop k).flatMap encR) ++ (rs.flatMap encR ++ sp).drop (0 + (n - k) * [Value.int .u32 0, Value.slice none 0 0].length)) = (((rs.drop k).flatMap encR) ++ (rs.flatMap encR ++ sp).drop ((n - k) * 2)) by simp]
    refine ⟨(.nil _), ?_⟩
    refine WPA.putS ?_
    refine atP 7 rfl ?_
    refine WPA.done (by kernel_rfl) ?_
    refine WPC.seqR ?_
    iterate 4 refine stp ?_
    refine L_s (q_sliceLH (l := n - k) (j := n) sl_sl_journal_record rfl rfl rfl (by omega) hcap) rfl ?_
    rw [cut_pl (Pl.mk ab ao) (show c ≠ n - k by omega)]
    simp only [blk_some, off_some]
    refine WPL.cons rfl (E1.wpo (e_clear (b := ab) (o := ao) (i := (n - k) * 2) (m := n - (n - k)) (vs := (((rs.drop k).flatMap encR) ++ (rs.flatMap encR ++ sp).drop ((n - k) * 2))) mk_sl_journal_record (by decide) (by simp [Value.oneCell']) rfl (by omega) (by show (n - k) * 2 + (n - (n - k)) * 2 ≤ _; rw [List.length_append, List.length_drop, List.length_append, flat_length encR_len, flat_length encR_len, List.length_drop, hn, hsp]; omega) uu) rfl ?_)
    rintro _ _ ⟨rfl, rfl⟩
    rw [show n - (n - k) = k by omega, show ((((rs.drop k).flatMap encR) ++ (rs.flatMap encR ++ sp).drop ((n - k) * 2)).take ((n - k) * 2) ++ repZ [Value.int .u32 0, Value.slice none 0 0] k ++ (((rs.drop k).flatMap encR) ++ (rs.flatMap encR ++ sp).drop ((n - k) * 2)).drop ((n - k) * 2 + k * [Value.int .u32 0, Value.slice none 0 0].length)) = ((rs.drop k).flatMap encR) ++ (repZ [Value.int .u32 0, Value.slice none 0 0] k ++ sp) from del_list hk hn]
    refine WPL.putN ?_
    refine WPL.nil ?_
    refine WPC.prune [(0, _), (6, _)] sbb ?_
    refine WPC.seqR ?_
    iterate 2 refine stp ?_
    refine WPL.nil ?_
    refine WPC.ret ?_
    exact endR_r rfl (.tmp rfl .nil) Imp.pk ⟨repZ [Value.int .u32 0, Value.slice none 0 0] k ++ sp, rfl, by rw [List.length_append, repZ_length, hsp]; show k * 2 + _ = _; omega, rfl⟩

theorem c_JAppend {b db : Nat} {j : JN} {d : DK} (hj : j.ok d) (hd : d.ok) (hpl : d.pend.length < 800000) {a : Option Addr} {c : Nat} {xs : List By} (hs : Sok 1 a xs.length c (xs.map u8)) : Trip Tryd.prog 12 #[.pointer (some ⟨b, 0, none⟩), .slice a xs.length c] [jour b db j, disk db d, tblA, sl false a (xs.map u8)] fun r Δ => r = .int .i64 (jappend d j xs).2.2 ∧ Δ = [jour b db (jappend d j xs).2.1, disk db (jappend d j xs).1] := by
  refine jour_open fun L hL => ?_
  obtain ⟨rs, la, lc⟩ := L
  obtain ⟨hheld, hrok⟩ := hL
  dsimp only at hheld hrok
  have hlen : rs.length = j.held.length := by rw [← hheld, List.length_map]
  have q1 := hj.first
  have q2 := hj.epoch
  have q3 := hj.low
  have q4 := hj.at_
  have q5 := hj.n
  have q6 := hj.held
  have q7 := hd.n
  refine Trip.start 66 [.tmp 4] [(0, .pointer (some ⟨b, 0, none⟩)), (1, .slice a xs.length c)] Tryd.func12 rfl Tryd.ntmps12 rfl ⟨rfl, rfl, trivial⟩ rfl ?_
  refine WPC.seqR ?_
  refine stp ?_
  refine WPL.nil ?_
  refine WPC.seq ?_
  refine WPC.block ?_
  refine WPC.seqR ?_
  iterate 4 refine stp ?_
  refine WPL.nil ?_
  refine WPC.cond rfl (fun h0 => ?_) (fun h0 => ?_)
  · have ea : jappend d j xs = (d, j, 2) := by unfold jappend; rw [if_pos (by simp at h0; omega)]
    rw [ea]
    refine WPC.seqR ?_
    refine stp ?_
    refine WPL.nil ?_
    refine WPC.ret ?_
    refine blockQ_r ?_
    refine thenQ_r ?_
    exact endR_r rfl (.tmp rfl .nil) ((Imp.pk).trans (jour_close (b := b) (db := db) (j := j) ⟨rs, la, lc⟩ ⟨hheld, hrok⟩ (Γ := [disk db d]))) ⟨rfl, rfl⟩
  · have hx43 : xs.length ≤ 43 := by simp at h0; omega
    refine WPC.seqD mixed ?_
    refine atP 0 rfl ?_
    refine atP 1 rfl ?_
    refine atP 2 rfl ?_
    refine atL 3 rfl ?_
    refine atP 4 rfl ?_
    refine atP 5 rfl ?_
    refine atP 6 rfl ?_
    refine atP 7 rfl ?_
    refine atL 8 rfl ?_
    refine atP 9 rfl ?_
    refine atP 10 rfl ?_
    refine WPA.split 23 _ rfl (fun g3_10 => ?_) (fun g3_10 => ?_)
    · skip
      refine WPA.takeN 11 rfl rfl rfl rfl rfl (by kernel_rfl) (by kernel_rfl) (by kernel_rfl) rfl (.cons (Ent.mem mm) (.cons (Ent.mem mm) (.nil _))) ?_
      refine WPA.putS ?_
      refine WPA.takeN 12 rfl rfl rfl rfl rfl (by kernel_rfl) (by kernel_rfl) (by kernel_rfl) rfl (.cons (Ent.mem mm) (.cons (Ent.mem mm) (.nil _))) ?_
      refine WPA.putS ?_
      refine WPA.takeN 13 rfl rfl rfl rfl rfl (by kernel_rfl) (by kernel_rfl) (by kernel_rfl) rfl (.cons (Ent.mem mm) (.cons (Ent.mem mm) (.nil _))) ?_
      refine WPA.putS ?_
      refine atP 14 rfl ?_
      refine atP 15 rfl ?_
      refine WPA.done (by kernel_rfl) ?_
      refine WPC.cond rfl (fun h1 => ?_) (fun h1 => ?_)
      · have ea : jappend d j xs = (d, j, 42) := by unfold jappend; rw [if_neg (by omega), if_pos (by simp at g3_10; omega)]
        rw [ea]
        refine WPC.seqR ?_
        refine stp ?_
        refine WPL.nil ?_
        refine WPC.ret ?_
        refine blockQ_r ?_
        refine thenQ_r ?_
        exact endR_r rfl (.tmp rfl .nil) ((Imp.pk).trans (jour_close (b := b) (db := db) (j := j) ⟨rs, la, lc⟩ ⟨hheld, hrok⟩ (Γ := [disk db d]))) ⟨rfl, rfl⟩
      · skip
        simp at h1
    · skip
      refine atPY 11 rfl rfl rfl ?_
      refine WPA.oneY 12 [] (by kernel_rfl) rfl rfl rfl rfl (by repeat (first | exact .nil | refine .anc rfl ?_ | refine .keep mm ?_)) (C1.call (c_call Tryd.func34 rfl rfl rfl) (c_next (L := ⟨rs, la, lc⟩) hlen q1 (by omega)) pkk rfl ?_)
      rintro _ _ ⟨rfl, rfl⟩
      refine ⟨(.nil _), ?_⟩
      refine WPA.putS ?_
      refine atPY 13 rfl rfl rfl ?_
      refine atP 14 rfl ?_
      refine atP 15 rfl ?_
      refine WPA.done (by kernel_rfl) ?_
      refine WPC.cond rfl (fun h1 => ?_) (fun h1 => ?_)
      · have ea : jappend d j xs = (d, j, 42) := by unfold jappend; rw [if_neg (by omega), if_pos (by simp at h1; omega)]
        rw [ea]
        refine WPC.seqR ?_
        refine stp ?_
        refine WPL.nil ?_
        refine WPC.ret ?_
        refine blockQ_r ?_
        refine thenQ_r ?_
        exact endR_r rfl (.tmp rfl .nil) ((Imp.pk).trans (jour_close (b := b) (db := db) (j := j) ⟨rs, la, lc⟩ ⟨hheld, hrok⟩ (Γ := [disk db d]))) ⟨rfl, rfl⟩
      · have hnm : j.next ≤ 4294967295 := by simp at h1; omega
        have hnn : j.held.length ≠ j.n := by simp at g3_10; omega
        have ea : jappend d j xs = ((d.write (j.place j.next) (stamp j.next j.epoch xs)).1, ({ j with held := j.held ++ [(j.epoch, xs)] } : JN), (d.write (j.place j.next) (stamp j.next j.epoch xs)).2) := by unfold jappend; rw [if_neg (by omega), if_neg (by omega)]
        rw [ea]
        refine WPC.skip ?_
        refine blockQ_n ?_
        refine thenQ_n ?_
        refine WPC.seqR ?_
        refine stp ?_
        refine kall rfl (c_next (L := ⟨rs, la, lc⟩) hlen q1 (by omega)) ?_
        rintro _ _ ⟨rfl, rfl⟩
        iterate 2 refine stp ?_
        refine WPL.nil ?_
        refine WPC.prune [(0, _), (1, _), (4, _), (5, _)] sbb ?_
        refine WPC.seqR ?_
        iterate 6 refine stp ?_
        refine kall rfl (c_Stamp (seq := j.next) (epoch := j.epoch) hs (by omega) q2 hx43) ?_
        rintro _ _ ⟨a2, c2, rfl, hs2, rfl⟩
        iterate 5 refine stp ?_
        refine WPL.nil ?_
        refine WPC.seqD mixed ?_
        refine atP 0 rfl ?_
        refine atP 1 rfl ?_
        refine atP 2 rfl ?_
        refine atP 3 rfl ?_
        refine atL 4 rfl ?_
        refine atP 5 rfl ?_
        refine atP 6 rfl ?_
        refine atP 7 rfl ?_
        refine atL 8 rfl ?_
        refine atP 9 rfl ?_
        refine WPA.oneE 10 [(8, [_]), (4, [_])] (by kernel_rfl) rfl rfl (by repeat (first | exact .nil | refine .anc rfl ?_ | refine .keep mm ?_)) (C1.call (c_call Tryd.func33 rfl rfl rfl) (c_CloneB (p := false) hs (by omega)) pkk rfl ?_)
        rintro _ _ ⟨a3, c3, rfl, rfl⟩
        refine ⟨(.cons (Ent.mem mm) (.cons (Ent.mem mm) (.nil _))), ?_⟩
        refine WPA.putS ?_
        refine WPA.bufRo fun hs3 => ?_
        refine WPA.takeP 11 rfl (q_build (cs := [_, _]) pl_journal_record rfl rfl) (by kernel_rfl) (by kernel_rfl) (by kernel_rfl) rfl rfl (.cons (Ent.mem mm) (.cons (Ent.mem mm) (.nil _))) ?_
        refine WPA.putS ?_
        refine WPA.oneE 12 [(4, [_])] (by kernel_rfl) rfl rfl (by repeat (first | exact .nil | refine .anc rfl ?_ | refine .keep mm ?_)) (E1.wpo (e_buildSlice (cs := [_, _]) mk_sl_journal_record (by decide) rfl rfl rfl) rfl ?_)
        rintro _ _ ⟨bE, rfl, rfl⟩
        refine ⟨(.cons (Ent.mem mm) (.nil _)), ?_⟩
        refine WPA.putS ?_
        refine WPA.oneE 13 [] (by kernel_rfl) rfl rfl (by repeat (first | exact .nil | refine .anc rfl ?_ | refine .keep mm ?_)) (E1.wpo (e_append (m := 1) (news := encR (⟨j.epoch, ⟨xs, a3, xs.length, c3⟩⟩ : JR)) mk_sl_journal_record (by decide) rfl rfl pk1 (Rd.part (i := 0) (b := bE) (o := 0) (vs := encR (⟨j.epoch, ⟨xs, a3, xs.length, c3⟩⟩ : JR)) mm rfl rfl rfl) (by simp [Value.oneCell']) (by show rs.length + 1 ≤ _; omega) (by show (rs.length + 1) * _ ≤ _; omega)) rfl ?_)
        rintro _ _ ⟨a4, c4, rfl, -, rfl⟩
        refine ⟨(.nil _), ?_⟩
        refine WPA.putS ?_
        refine atP 14 rfl ?_
        refine atP 15 rfl ?_
        refine WPA.oneE 16 [] (by kernel_rfl) rfl rfl (by repeat (first | exact .nil | refine .anc rfl ?_ | refine .keep mm ?_)) (S1.wpo (s_store1k sz_sl_journal_record rfl rfl rfl rfl uu (by repeat constructor)) rfl ?_)
        refine ⟨(.nil _), ?_⟩
        refine WPA.putN ?_
        refine WPA.done (by kernel_rfl) ?_
        have eb : rs.map (·.x) ++ [(⟨xs, a3, xs.length, c3⟩ : BS)] = (rs ++ [(⟨j.epoch, ⟨xs, a3, xs.length, c3⟩⟩ : JR)]).map (·.x) := by simp
        have el : rs.length + 1 = (rs ++ [(⟨j.epoch, ⟨xs, a3, xs.length, c3⟩⟩ : JR)]).length := by simp
        rw [el]
        refine WPC.imp ((Imp.pk (Δ := [BS.at_ ⟨xs, a3, xs.length, c3⟩, bytes (rs.map (·.x)), cells true b 0 (jourC db ({ j with held := j.held ++ [(j.epoch, xs)] } : JN) ⟨(rs ++ [(⟨j.epoch, ⟨xs, a3, xs.length, c3⟩⟩ : JR)]), a4, c4⟩), buf 2 a4 (rs ++ [(⟨j.epoch, ⟨xs, a3, xs.length, c3⟩⟩ : JR)]).length c4 (rs.flatMap encR ++ encR (⟨j.epoch, ⟨xs, a3, xs.length, c3⟩⟩ : JR)), disk db d, tblA, sl false a2 ((stamp j.next j.epoch xs).map u8)])).trans bytes_snoc) ?_
        rw [eb]
        refine WPC.seqD mixed ?_
        refine atP 0 rfl ?_
        refine atP 1 rfl ?_
        refine atP 2 rfl ?_
        refine atL 3 rfl ?_
        refine atP 4 rfl ?_
        refine atP 5 rfl ?_
        refine atP 7 rfl ?_
        refine WPA.oneE 6 [(3, [_])] (by kernel_rfl) rfl rfl (by repeat (first | exact .nil | refine .anc rfl ?_ | refine .keep mm ?_)) (C1.call (c_call Tryd.func37 rfl rfl rfl) (c_sector (j := ({ j with held := j.held ++ [(j.epoch, xs)] } : JN)) (L := ⟨rs ++ [(⟨j.epoch, ⟨xs, a3, xs.length, c3⟩⟩ : JR)], a4, c4⟩) (seq := j.next) (by omega) q5 (show j.at_ ≤ 1000 by omega)) pkk rfl ?_)
        rintro _ _ ⟨rfl, rfl⟩
        refine ⟨(.cons (Ent.mem mm) (.nil _)), ?_⟩
        refine WPA.putS ?_
        refine WPA.oneE 8 [] (by kernel_rfl) rfl rfl (by repeat (first | exact .nil | refine .anc rfl ?_ | refine .keep mm ?_)) (C1.call (c_call Tryd.func36 rfl rfl rfl) (c_Write64 hd (by omega) (stamp_length hx43) hs2) pkk rfl ?_)
        rintro _ _ ⟨rfl, rfl⟩
        refine ⟨(.nil _), ?_⟩
        refine WPA.putS ?_
        refine atP 9 rfl ?_
        refine WPA.done (by kernel_rfl) ?_
        refine WPC.ret ?_
        rw [← flat_snoc]
        exact endR_r rfl (.tmp rfl .nil) ((Imp.pk).trans (jour_close (b := b) (db := db) (j := ({ j with held := j.held ++ [(j.epoch, xs)] } : JN)) ⟨rs ++ [(⟨j.epoch, ⟨xs, a3, xs.length, c3⟩⟩ : JR)], a4, c4⟩ ⟨by simp [hheld], by intro r hr; rcases List.mem_append.1 hr with hr | hr; exact hrok r hr; rw [List.mem_singleton.1 hr]; exact hs3⟩ (Γ := [disk db (d.write (j.place j.next) (stamp j.next j.epoch xs)).1]))) ⟨rfl, rfl⟩

theorem c_JTrim {b db : Nat} {j : JN} {d : DK} (hj : j.ok d) (hd : d.ok) (hpl : d.pend.length < 800000) {i : Int} (hnx : j.next < 4294967296) : Trip Tryd.prog 16 #[.pointer (some ⟨b, 0, none⟩), .int .i64 i] [jour b db j, disk db d, tblA] fun r Δ => r = .int .i64 (jtrim d j i).2.2 ∧ Δ = [jour b db (jtrim d j i).2.1, disk db (jtrim d j i).1] := by
  refine jour_open fun L hL => ?_
  obtain ⟨rs, la, lc⟩ := L
  obtain ⟨hheld, hrok⟩ := hL
  dsimp only at hheld hrok
  have hlen : rs.length = j.held.length := by rw [← hheld, List.length_map]
  have q1 := hj.first
  have q2 := hj.epoch
  have q3 := hj.low
  have q4 := hj.at_
  have q5 := hj.n
  have q6 := hj.held
  have q7 := hd.n
  have q8 := hj.eps
  unfold JN.next at hnx
  refine Trip.start 50 [.tmp 4] [(0, .pointer (some ⟨b, 0, none⟩)), (1, .int .i64 i)] Tryd.func16 rfl Tryd.ntmps16 rfl ⟨rfl, rfl, trivial⟩ rfl ?_
  refine WPC.seqR ?_
  refine stp ?_
  refine WPL.nil ?_
  refine WPC.seq ?_
  refine WPC.seqR ?_
  iterate 3 refine stp ?_
  apply WPL.joinO (e' := [(0, _), (1, _), (4, _)]) 7 15 8 rfl
  · intro g1_2
    try simp only [decide_eq_true_eq, decide_eq_false_iff_not, beq_iff_eq, bne_iff_ne, beq_eq_false_iff_ne, bne_eq_false_iff_eq, Bool.not_eq_true', Bool.not_eq_false', Bool.not_eq_eq_eq_not, Bool.not_true, Bool.not_false, ne_eq, Decidable.not_not, Int.not_lt, Int.not_le, gt_iff_lt, ge_iff_le] at g1_2
    refine L_no rfl rfl rfl rfl ?_
    refine L_no rfl rfl rfl rfl ?_
    refine L_no rfl rfl rfl rfl ?_
    refine L_no rfl rfl rfl rfl ?_
    refine L_no rfl rfl rfl rfl ?_
    refine L_no rfl rfl rfl rfl ?_
    refine L_no rfl rfl rfl rfl ?_
    refine stp ?_
    first | exact WPL.jn rfl rfl sbb | exact WPL.jnI rfl rfl sbb Imp.pk
  · intro g1_2
    try simp only [decide_eq_true_eq, decide_eq_false_iff_not, beq_iff_eq, bne_iff_ne, beq_eq_false_iff_ne, bne_eq_false_iff_eq, Bool.not_eq_true', Bool.not_eq_false', Bool.not_eq_eq_eq_not, Bool.not_true, Bool.not_false, ne_eq, Decidable.not_not, Int.not_lt, Int.not_le, gt_iff_lt, ge_iff_le] at g1_2
    iterate 7 refine stpY rfl rfl ?_
    refine stp ?_
    first | exact WPL.jn rfl rfl sbb | exact WPL.jnI rfl rfl sbb Imp.pk
  refine WPL.nil ?_
  refine WPC.cond rfl (fun h0 => ?_) (fun h0 => ?_)
  · have et : jtrim d j i = (d, j, 1) := by unfold jtrim; rw [if_pos (by simp at h0; omega)]
    rw [et]
    refine WPC.seqR ?_
    refine stp ?_
    refine WPL.nil ?_
    refine WPC.ret ?_
    refine thenQ_r ?_
    exact endR_r rfl (.tmp rfl .nil) ((Imp.pk).trans (jour_close (b := b) (db := db) (j := j) ⟨rs, la, lc⟩ ⟨hheld, hrok⟩ (Γ := [disk db d]))) ⟨rfl, rfl⟩
  · obtain ⟨k, rfl⟩ : ∃ k : Nat, i = (k : Int) := ⟨i.toNat, by simp at h0; omega⟩
    have hk : k ≤ rs.length := by simp at h0; omega
    obtain ⟨low', hlow⟩ : ∃ l, l = (if 0 < (k : Int) then ((j.held[k - 1]?).getD (0, [])).1 else j.low) := ⟨_, rfl⟩
    have hlowlt : low' < 4294967296 := by rw [hlow]; split; exact getD_lt q8 _; exact q3
    have et : jtrim d j k = ((jsave d ({ j with low := low', first := j.first + k, held := j.held.drop k } : JN)).1, ({ j with low := low', first := j.first + k, held := j.held.drop k } : JN), (jsave d ({ j with low := low', first := j.first + k, held := j.held.drop k } : JN)).2) := by unfold jtrim; rw [if_neg (by omega)]; simp only [Int.toNat_natCast, ← hlow]
    rw [et]
    refine WPC.skip ?_
    refine thenQ_n ?_
    refine WPC.seq ?_
    refine WPC.seqR ?_
    refine WPL.imp (Imp.pk (Δ := [buf 2 la rs.length lc (rs.flatMap encR), cells true b 0 (jourC db j ⟨rs, la, lc⟩), bytes (rs.map (·.x)), disk db d, tblA])) ?_
    refine WPL.bufAll fun sp hs hsp hpc => ?_
    iterate 2 refine stp ?_
    refine WPL.nil ?_
    refine WPC.midS (fun e Γ => e = [(0, .pointer (some ⟨b, 0, none⟩)), (1, .int .i64 (k : Int))] ∧ Γ = [cells true b 0 (jourC db { j with low := low' } ⟨rs, la, lc⟩), cells true (blk la) (off la) (rs.flatMap encR ++ sp), bytes (rs.map (·.x)), disk db d, tblA]) ?_ ?_
    · refine WPC.cond rfl (fun h1 => ?_) (fun h1 => ?_)
      · have hk0 : 0 < k := by simp at h1; omega
        have hp : Pl la := hs.at (by omega) (by omega)
        obtain ⟨r, hr⟩ : ∃ r, rs[k - 1]? = some r := ⟨rs[k - 1]'(by omega), by simp⟩
        have hl2 : low' = r.ep := by rw [hlow, if_pos (by omega), ← hheld]; simp [hr]
        have hget : (rs.flatMap encR ++ sp)[(k - 1) * 2]? = some (.int .u32 (r.ep : Int)) := by rw [List.getElem?_append_left (by rw [flat_length encR_len]; omega)]; exact flat_get encR_len rs (k - 1) 0 hr (by omega)
        refine WPC.region ?_
        iterate 6 refine stp ?_
        refine L_s (q_decN rfl rfl hk0 (by omega)) rfl ?_
        refine L_s (q_idxN (i := k - 1) sl_sl_journal_record rfl rfl (show k - 1 < rs.length by omega) hp) rfl ?_
        refine stp ?_
        refine L_s (q_load1 (i := (k - 1) * 2) ld_uint32 rfl mm rfl hget) rfl ?_
        rw [← hl2]
        iterate 2 refine stp ?_
        refine sto ?_
        refine WPL.nil ?_
        refine thenQ_n ?_
        exact ⟨rfl, _, _, ⟨rfl, rfl⟩, sbb, Imp.pk⟩
      · have hk0 : k = 0 := by simp at h1; omega
        have hl2 : low' = j.low := by rw [hlow, if_neg (by omega)]
        dsimp only [jourC]
        rw [← hl2]
        refine WPC.skip ?_
        refine thenQ_n ?_
        exact ⟨rfl, _, _, ⟨rfl, rfl⟩, sbb, Imp.pk⟩
    · rintro e Γ ⟨rfl, rfl⟩
      refine WPC.seqR ?_
      iterate 6 refine stp ?_
      refine L_s (q_add32 (a := j.first) (b := k) rfl rfl) rfl ?_
      rw [Nat.mod_eq_of_lt (show j.first + k < 4294967296 by omega)]
      iterate 2 refine stp ?_
      refine sto ?_
      refine WPL.nil ?_
      refine WPC.seqR ?_
      iterate 6 refine stp ?_
      refine kall rfl (c_Delete (n := rs.length) (c := lc) (k := k) hs rfl hk (by omega) hsp) ?_
      rintro _ _ ⟨sp', rfl, hsp', rfl⟩
      rw [show rs.length - k = (rs.drop k).length by simp]
      iterate 2 refine stp ?_
      refine sto ?_
      refine WPL.nil ?_
      refine WPC.seqR ?_
      refine stp ?_
      refine kall rfl (c_jsave (j := ({ j with low := low', first := j.first + k, held := j.held.drop k } : JN)) (L := ⟨rs.drop k, la, lc⟩) (d := d) ⟨q5, q4, by show j.first + k < _; omega, q2, hlowlt, by show (j.held.drop k).length ≤ _; rw [List.length_drop]; exact Nat.le_trans (Nat.sub_le _ _) q6, fun x hx => q8 x (List.mem_of_mem_drop hx)⟩ hd (by omega)) ?_
      rintro _ _ ⟨rfl, rfl⟩
      refine stp ?_
      refine WPL.nil ?_
      refine WPC.ret ?_
      rw [show rs.length - k = (rs.drop k).length by simp] at hsp'
      have hs4 : Sok 2 la (rs.drop k).length lc ((rs.drop k).flatMap encR) := ⟨flat_length encR_len _, by rw [List.length_drop]; exact Nat.le_trans (Nat.sub_le _ _) hs.cap, by rcases hs.pl with h | h; (left; exact List.eq_nil_of_length_eq_zero (by have := congrArg List.length h; rw [flat_length encR_len] at this; rw [flat_length encR_len, List.length_drop]; simp only [List.length_nil] at this; omega)); exact .inr h⟩
      exact endR_r rfl (.tmp rfl .nil) ((Imp.pk (Δ := [cells true (blk la) (off la) ((rs.drop k).flatMap encR ++ sp'), cells true b 0 (jourC db ({ j with low := low', first := j.first + k, held := j.held.drop k } : JN) ⟨(rs.drop k), la, lc⟩), bytes (rs.map (·.x)), disk db (jsave d ({ j with low := low', first := j.first + k, held := j.held.drop k } : JN)).1])).trans ((Imp.bufI hs4 hpc hsp').trans ((Imp.pk (Δ := [bytes (rs.map (·.x)), buf 2 la (rs.drop k).length lc ((rs.drop k).flatMap encR), cells true b 0 (jourC db ({ j with low := low', first := j.first + k, held := j.held.drop k } : JN) ⟨(rs.drop k), la, lc⟩), disk db (jsave d ({ j with low := low', first := j.first + k, held := j.held.drop k } : JN)).1])).trans ((bytes_sub (ys := (rs.drop k).map (·.x)) (fun y hy => by obtain ⟨r, hr, rfl⟩ := List.mem_map.1 hy; exact List.mem_map.2 ⟨r, List.mem_of_mem_drop hr, rfl⟩)).trans ((Imp.pk).trans (jour_close (b := b) (db := db) (j := ({ j with low := low', first := j.first + k, held := j.held.drop k } : JN)) ⟨rs.drop k, la, lc⟩ ⟨by rw [← hheld, List.map_drop], fun r hr => hrok r (List.mem_of_mem_drop hr)⟩ (Γ := [disk db (jsave d ({ j with low := low', first := j.first + k, held := j.held.drop k } : JN)).1]))))))) ⟨rfl, rfl⟩

end Go.Sl
/- Walks: Cut, scan. -/
namespace Go.Sl
open Go Go.RowKit Go.Proofs
set_option linter.unusedSimpArgs false
set_option linter.unusedVariables false
attribute [local irreducible] faB szB ldB zB zL slB mkB arB plB intB cells objc star stars buf slv grp whole Sat WPC WPL WPA WPO WPQ Trip Q1 E1 S1 C1

theorem c_JCut {b db : Nat} {j : JN} {d : DK} (hj : j.ok d) (hd : d.ok) (hpl : d.pend.length < 700000) {i : Int} (hnx : j.next < 4294967296) : Trip Tryd.prog 18 #[.pointer (some ⟨b, 0, none⟩), .int .i64 i] [jour b db j, disk db d, tblA] fun r Δ => r = .int .i64 (jcut d j i).2.2 ∧ Δ = [jour b db (jcut d j i).2.1, disk db (jcut d j i).1] := by
  refine jour_open fun L hL => ?_
  obtain ⟨rs, la, lc⟩ := L
  obtain ⟨hheld, hrok⟩ := hL
  dsimp only at hheld hrok
  have hlen : rs.length = j.held.length := by rw [← hheld, List.length_map]
  have q1 := hj.first
  have q2 := hj.epoch
  have q3 := hj.low
  have q4 := hj.at_
  have q5 := hj.n
  have q6 := hj.held
  have q7 := hd.n
  have q8 := hj.eps
  unfold JN.next at hnx
  refine Trip.start 70 [.tmp 4] [(0, .pointer (some ⟨b, 0, none⟩)), (1, .int .i64 i)] Tryd.func18 rfl Tryd.ntmps18 rfl ⟨rfl, rfl, trivial⟩ rfl ?_
  refine WPC.seqR ?_
  refine stp ?_
  refine WPL.nil ?_
  refine WPC.seq ?_
  refine WPC.block ?_
  refine WPC.seqR ?_
  iterate 3 refine stp ?_
  apply WPL.joinO (e' := [(0, _), (1, _), (4, _)]) 8 16 8 rfl
  · intro g1_2
    try simp only [decide_eq_true_eq, decide_eq_false_iff_not, beq_iff_eq, bne_iff_ne, beq_eq_false_iff_ne, bne_eq_false_iff_eq, Bool.not_eq_true', Bool.not_eq_false', Bool.not_eq_eq_eq_not, Bool.not_true, Bool.not_false, ne_eq, Decidable.not_not, Int.not_lt, Int.not_le, gt_iff_lt, ge_iff_le] at g1_2
    refine L_no rfl rfl rfl rfl ?_
    refine L_no rfl rfl rfl rfl ?_
    refine L_no rfl rfl rfl rfl ?_
    refine L_no rfl rfl rfl rfl ?_
    refine L_no rfl rfl rfl rfl ?_
    refine L_no rfl rfl rfl rfl ?_
    refine L_no rfl rfl rfl rfl ?_
    refine stp ?_
    first | exact WPL.jn rfl rfl sbb | exact WPL.jnI rfl rfl sbb Imp.pk
  · intro g1_2
    try simp only [decide_eq_true_eq, decide_eq_false_iff_not, beq_iff_eq, bne_iff_ne, beq_eq_false_iff_ne, bne_eq_false_iff_eq, Bool.not_eq_true', Bool.not_eq_false', Bool.not_eq_eq_eq_not, Bool.not_true, Bool.not_false, ne_eq, Decidable.not_not, Int.not_lt, Int.not_le, gt_iff_lt, ge_iff_le] at g1_2
    iterate 7 refine stpY rfl rfl ?_
    refine stp ?_
    first | exact WPL.jn rfl rfl sbb | exact WPL.jnI rfl rfl sbb Imp.pk
  refine stp ?_
  refine WPL.nil ?_
  refine WPC.cond rfl (fun h0 => ?_) (fun h0 => ?_)
  · have et : jcut d j i = (d, j, 1) := by unfold jcut; rw [if_pos (by simp at h0; omega)]
    rw [et]
    refine WPC.seqR ?_
    refine stp ?_
    refine WPL.nil ?_
    refine WPC.ret ?_
    refine blockQ_r ?_
    refine thenQ_r ?_
    exact endR_r rfl (.tmp rfl .nil) ((Imp.pk).trans (jour_close (b := b) (db := db) (j := j) ⟨rs, la, lc⟩ ⟨hheld, hrok⟩ (Γ := [disk db d]))) ⟨rfl, rfl⟩
  · obtain ⟨k, rfl⟩ : ∃ k : Nat, i = (k : Int) := ⟨i.toNat, by simp at h0; omega⟩
    have hk : k ≤ rs.length := by simp at h0; omega
    refine WPC.seqR ?_
    iterate 6 refine stp ?_
    refine WPL.nil ?_
    refine WPC.cond rfl (fun h1 => ?_) (fun h1 => ?_)
    · have he : j.epoch = 4294967295 := by simp at h1; omega
      have et : jcut d j k = (d, j, 42) := by unfold jcut; rw [if_neg (by omega), if_pos he]
      rw [et]
      refine WPC.seqR ?_
      refine stp ?_
      refine WPL.nil ?_
      refine WPC.ret ?_
      refine blockQ_r ?_
      refine thenQ_r ?_
      exact endR_r rfl (.tmp rfl .nil) ((Imp.pk).trans (jour_close (b := b) (db := db) (j := j) ⟨rs, la, lc⟩ ⟨hheld, hrok⟩ (Γ := [disk db d]))) ⟨rfl, rfl⟩
    · have he : j.epoch ≠ 4294967295 := by simp at h1; omega
      refine WPC.skip ?_
      refine blockQ_n ?_
      refine thenQ_n ?_
      refine WPC.seqR ?_
      iterate 4 refine stp ?_
      refine kall rfl (c_Sync hd (by omega)) ?_
      rintro _ _ ⟨rfl, rfl⟩
      refine WPL.nil ?_
      refine WPC.seq ?_
      refine WPC.seqR ?_
      iterate 2 refine stp ?_
      refine WPL.nil ?_
      refine WPC.block ?_
      refine WPC.loopS (fun m e Γ => ∃ (i : Nat) (dk : DK) (rk : List JR), m = k - i ∧ i ≤ k ∧ rk.length = rs.length - i ∧ (∀ r ∈ rk, r ∈ rs) ∧ dk.ok ∧ dk.seen.length = d.seen.length ∧ dk.pend.length ≤ d.pend.length + i ∧ cutL dk ({ j with held := rk.map jrP } : JN) (k - i) = cutL d.sync j k ∧ e = [(0, .pointer (some ⟨b, 0, none⟩)), (28, .int .i64 (k : Int)), (29, .int .i64 (i : Int))] ∧ Γ = [cells true b 0 (jourC db ({ j with held := rk.map jrP } : JN) ⟨rk, la, lc⟩), buf 2 la rk.length lc (rk.flatMap encR), bytes (rs.map (·.x)), disk db dk, tblA]) (k) ⟨0, d.sync, rs, rfl, by omega, rfl, fun _ h => h, hd.sync, sync_len d, by have := sync_pend d; omega, by rw [hheld]; rfl, rfl, rfl⟩ sbb Imp.pk ?_
      rintro m e Γ ⟨i, dk, rk, rfl, hi, hrl, hrs, hdk, hdl, hdp, hcut, rfl, rfl⟩
      refine WPC.seqR ?_
      refine stp ?_
      refine WPL.nil ?_
      refine WPC.seq ?_
      refine WPC.cond rfl (fun h2 => ?_) (fun h2 => ?_)
      · simp only [decide_eq_true_eq, Int.ofNat_lt] at h2
        refine WPC.bufFact mm fun hsk => ?_
        have hne : rk ≠ [] := by intro h; rw [h] at hrl; simp at hrl; omega
        obtain ⟨ri, rl, rfl⟩ : ∃ ri rl, rk = ri ++ [rl] := ⟨rk.dropLast, rk.getLast hne, (List.dropLast_concat_getLast hne).symm⟩
        have hril : ri.length + 1 = rs.length - i := by simpa using hrl
        have hcap : ri.length + 1 ≤ lc := by simpa using hsk.cap
        have hbuf := Imp.bufShrink (sz := 2) (m := ri.length) (n := (ri ++ [rl]).length) (c := lc) (a := la) (xs := ri.flatMap encR) (ys := [rl].flatMap encR) (Γ := [cells true b 0 (jourC db ({ j with held := ri.map jrP } : JN) ⟨ri, la, lc⟩), bytes (rs.map (·.x)), disk db dk, tblA]) (flat_length encR_len _) (by simp)
        rw [← List.flatMap_append] at hbuf
        have hnxt := c_next (b := b) (db := db) (j := ({ j with held := ri.map jrP } : JN)) (L := ⟨ri, la, lc⟩) (by simp) q1 (by simp; omega)
        simp only [JN.next, List.length_map] at hnxt
        rw [show k - i = (k - (i + 1)) + 1 by omega] at hcut
        have hcut2 := cut_step hcut
        have hw1 := write_pend dk ((({ j with held := ri.map jrP } : JN)).place (j.first + ri.length)) []
        refine WPC.skip ?_
        refine thenQ_n ?_
        refine WPC.seq ?_
        refine WPC.block ?_
        refine WPC.seqD mixed ?_
        refine atP 0 rfl ?_
        refine atP 1 rfl ?_
        refine atP 2 rfl ?_
        refine atP 3 rfl ?_
        refine atL 4 rfl ?_
        refine atP 5 rfl ?_
        refine atP 6 rfl ?_
        refine atP 7 rfl ?_
        refine atL 8 rfl ?_
        refine atP 9 rfl ?_
        refine WPA.takeP 10 rfl (q_decN (k := (ri ++ [rl]).length) rfl rfl (by simp) (by simp; omega)) (by kernel_rfl) (by kernel_rfl) (by kernel_rfl) rfl rfl (.cons (Ent.mem mm) (.cons (Ent.mem mm) (.nil _))) ?_
        refine WPA.putS ?_
        rw [show (ri ++ [rl]).length - 1 = ri.length by simp]
        refine WPA.takeP 11 rfl (q_sliceHi (j := ri.length) sl_sl_journal_record rfl rfl (show ri.length ≤ lc by omega)) (by kernel_rfl) (by kernel_rfl) (by kernel_rfl) rfl rfl (.cons (Ent.mem mm) (.cons (Ent.mem mm) (.nil _))) ?_
        refine WPA.putS ?_
        refine atP 12 rfl ?_
        refine atP 13 rfl ?_
        refine WPA.oneE 14 [] (by kernel_rfl) rfl rfl (by repeat (first | exact .nil | refine .anc rfl ?_ | refine .keep mm ?_)) (S1.wpo (s_store1k sz_sl_journal_record rfl rfl rfl rfl uu (by repeat constructor)) rfl ?_)
        refine ⟨(.nil _), ?_⟩
        refine WPA.putN ?_
        refine WPA.done (by kernel_rfl) ?_
        refine WPC.imp ((Imp.pk (Δ := [buf 2 la (ri ++ [rl]).length lc ((ri ++ [rl]).flatMap encR), cells true b 0 (jourC db ({ j with held := ri.map jrP } : JN) ⟨ri, la, lc⟩), bytes (rs.map (·.x)), disk db dk, tblA])).trans hbuf) ?_
        refine WPC.draw mixed ?_
        refine atP 0 rfl ?_
        refine atP 1 rfl ?_
        refine atP 2 rfl ?_
        refine atL 3 rfl ?_
        refine atP 4 rfl ?_
        refine atP 5 rfl ?_
        refine WPA.oneE 6 [(3, [_])] (by kernel_rfl) rfl rfl (by repeat (first | exact .nil | refine .anc rfl ?_ | refine .keep mm ?_)) (C1.call (c_call Tryd.func34 rfl rfl rfl) hnxt pkk rfl ?_)
        rintro _ _ ⟨rfl, rfl⟩
        refine ⟨(.cons (Ent.mem mm) (.nil _)), ?_⟩
        refine WPA.putS ?_
        refine atP 7 rfl ?_
        refine WPA.oneE 8 [(3, [_])] (by kernel_rfl) rfl rfl (by repeat (first | exact .nil | refine .anc rfl ?_ | refine .keep mm ?_)) (C1.call (c_call Tryd.func37 rfl rfl rfl) (c_sector (j := ({ j with held := ri.map jrP } : JN)) (L := ⟨ri, la, lc⟩) (seq := j.first + ri.length) (by omega) q5 (show j.at_ ≤ 1000 by omega)) pkk rfl ?_)
        rintro _ _ ⟨rfl, rfl⟩
        refine ⟨(.cons (Ent.mem mm) (.nil _)), ?_⟩
        refine WPA.putS ?_
        refine WPA.oneE 9 [] (by kernel_rfl) rfl rfl (by repeat (first | exact .nil | refine .anc rfl ?_ | refine .keep mm ?_)) (C1.call (c_call Tryd.func36 rfl rfl rfl) (c_WriteNil hdk (by omega)) pkk rfl ?_)
        rintro _ _ ⟨rfl, rfl⟩
        refine ⟨(.nil _), ?_⟩
        refine WPA.putS ?_
        refine WPA.done (by kernel_rfl) ?_
        refine blockQ_n ?_
        refine thenQ_n ?_
        refine WPC.region ?_
        iterate 2 refine stp ?_
        refine WPL.nil ?_
        refine thenQ_n ?_
        exact ⟨rfl, _, _, _, by omega, ⟨i + 1, (dk.write ((({ j with held := ri.map jrP } : JN)).place (j.first + ri.length)) []).1, ri, rfl, by omega, by omega, fun r hr => hrs r (List.mem_append_left _ hr), hdk.write _ _, by rw [write_len]; exact hdl, by omega, hcut2, rfl, rfl⟩, sbb, Imp.pk⟩
      · simp only [decide_eq_false_iff_not, Int.ofNat_lt] at h2
        have hik : k - i = 0 := by omega
        rw [hik] at hcut
        have hcut2 : (dk, ({ j with held := rk.map jrP } : JN)) = cutL d.sync j k := hcut
        refine WPC.exit ?_
        refine thenQ_e ?_
        refine thenQ_e ?_
        refine blockQ_here ?_
        refine thenQ_n ?_
        refine WPC.seqR ?_
        iterate 4 refine stp ?_
        refine kall rfl (c_Sync hdk (by omega)) ?_
        rintro _ _ ⟨rfl, rfl⟩
        have hsp := sync_pend dk
        refine WPL.nil ?_
        refine WPC.seqR ?_
        iterate 4 refine stp ?_
        refine L_s (q_add32 (a := j.epoch) (b := 1) rfl rfl) rfl ?_
        rw [Nat.mod_eq_of_lt (show j.epoch + 1 < 4294967296 by omega)]
        iterate 2 refine stp ?_
        refine sto ?_
        refine WPL.nil ?_
        refine WPC.seqR ?_
        refine stp ?_
        refine kall rfl (c_jsave (j := ({ j with held := rk.map jrP, epoch := j.epoch + 1 } : JN)) (L := ⟨rk, la, lc⟩) (d := dk.sync) ⟨q5, by rw [sync_len, hdl]; exact q4, q1, by show j.epoch + 1 < _; omega, q3, by show (rk.map jrP).length ≤ _; rw [List.length_map]; show rk.length ≤ j.n; omega, fun x hx => by obtain ⟨r, hr, rfl⟩ := List.mem_map.1 hx; exact q8 _ (by rw [← hheld]; exact List.mem_map.2 ⟨r, hrs r hr, rfl⟩)⟩ hdk.sync (by omega)) ?_
        rintro _ _ ⟨rfl, rfl⟩
        refine stp ?_
        refine WPL.nil ?_
        refine WPC.ret ?_
        have et : jcut d j k = ((jsave dk.sync ({ j with held := rk.map jrP, epoch := j.epoch + 1 } : JN)).1, ({ j with held := rk.map jrP, epoch := j.epoch + 1 } : JN), (jsave dk.sync ({ j with held := rk.map jrP, epoch := j.epoch + 1 } : JN)).2) := by unfold jcut; rw [if_neg (by omega), if_neg he, Int.toNat_natCast, ← hcut2]
        rw [et]
        exact endR_r rfl (.tmp rfl .nil) ((Imp.pk (Δ := [bytes (rs.map (·.x)), buf 2 la rk.length lc (rk.flatMap encR), cells true b 0 (jourC db ({ j with held := rk.map jrP, epoch := j.epoch + 1 } : JN) ⟨rk, la, lc⟩), disk db (jsave dk.sync ({ j with held := rk.map jrP, epoch := j.epoch + 1 } : JN)).1])).trans ((bytes_sub (ys := rk.map (·.x)) (fun y hy => by obtain ⟨r, hr, rfl⟩ := List.mem_map.1 hy; exact List.mem_map.2 ⟨r, hrs r hr, rfl⟩)).trans ((Imp.pk).trans (jour_close (b := b) (db := db) (j := ({ j with held := rk.map jrP, epoch := j.epoch + 1 } : JN)) ⟨rk, la, lc⟩ ⟨rfl, fun r hr => hrok r (hrs r hr)⟩ (Γ := [disk db (jsave dk.sync ({ j with held := rk.map jrP, epoch := j.epoch + 1 } : JN)).1]))))) ⟨rfl, rfl⟩

theorem c_scan {b db : Nat} {j : JN} {d : DK} (hj : j.ok d) (hd : d.ok) (hpl : d.pend.length < 700000) (h0 : j.held = []) : Trip Tryd.prog 42 #[.pointer (some ⟨b, 0, none⟩)] [jour b db j, disk db d, tblA] fun r Δ => r = .tuple #[] ∧ Δ = [jour b db (j.scanned d), disk db d] := by
  refine jour_open fun L hL => ?_
  obtain ⟨rs, la, lc⟩ := L
  obtain ⟨hheld, hrok⟩ := hL
  dsimp only at hheld hrok
  have hlen : rs.length = j.held.length := by rw [← hheld, List.length_map]
  have q1 := hj.first
  have q2 := hj.epoch
  have q3 := hj.low
  have q4 := hj.at_
  have q5 := hj.n
  have q6 := hj.held
  have q7 := hd.n
  have q8 := hj.eps
  have hrs0 : rs = [] := List.eq_nil_of_length_eq_zero (by rw [hlen, h0]; rfl)
  subst hrs0
  clear hheld hlen
  refine Trip.start 84 [] [(0, .pointer (some ⟨b, 0, none⟩))] Tryd.func42 rfl Tryd.ntmps42 rfl ⟨rfl, trivial⟩ rfl ?_
  refine WPC.scopeS ?_
  refine WPC.seqR ?_
  iterate 5 refine stp ?_
  refine WPL.nil ?_
  refine WPC.seq ?_
  refine WPC.label ?_
  refine thenQ_n ?_
  refine WPC.block ?_
  refine WPC.loopS (fun m e Γ => ∃ (rk : List JR) (la : Option Addr) (lc low : Nat), m = j.n - rk.length ∧ rk.length ≤ j.n ∧ low < 4294967296 ∧ (∀ r ∈ rk, r.x.ok) ∧ rk.map jrP ++ scanL d j.at_ j.n j.epoch (j.n - rk.length) low (j.first + rk.length) = scanL d j.at_ j.n j.epoch j.n j.low j.first ∧ e = [(0, .pointer (some ⟨b, 0, none⟩)), (2, .int .u32 (low : Int))] ∧ Γ = [cells true b 0 (jourC db ({ j with held := rk.map jrP } : JN) ⟨rk, la, lc⟩), buf 2 la rk.length lc (rk.flatMap encR), bytes (rk.map (·.x)), disk db d, tblA]) (j.n) ⟨[], la, lc, j.low, rfl, by show 0 ≤ _; omega, q3, by simp, rfl, rfl, rfl⟩ sbb Imp.pk ?_
  clear hrok
  rintro m e Γ ⟨rk, la, lc, low, rfl, hrn, hlow, hrok, hinv, rfl, rfl⟩
  have hnxt := c_next (b := b) (db := db) (j := ({ j with held := rk.map jrP } : JN)) (L := ⟨rk, la, lc⟩) (by simp) q1 (by simp; omega)
  simp only [JN.next, List.length_map] at hnxt
  refine WPC.seq ?_
  refine WPC.seqD mixed ?_
  refine atP 0 rfl ?_
  refine atP 1 rfl ?_
  refine atP 2 rfl ?_
  refine atL 3 rfl ?_
  refine atP 4 rfl ?_
  refine atP 5 rfl ?_
  refine atP 6 rfl ?_
  refine atP 7 rfl ?_
  refine atL 8 rfl ?_
  refine atP 9 rfl ?_
  refine atP 10 rfl ?_
  refine WPA.split 23 _ rfl (fun g1_10 => ?_) (fun g1_10 => ?_)
  · have hlt : rk.length < j.n := by simpa using g1_10
    refine atPY 11 rfl rfl rfl ?_
    refine WPA.oneY 12 [] (by kernel_rfl) rfl rfl rfl rfl (by repeat (first | exact .nil | refine .anc rfl ?_ | refine .keep mm ?_)) (C1.call (c_call Tryd.func34 rfl rfl rfl) hnxt pkk rfl ?_)
    rintro _ _ ⟨rfl, rfl⟩
    refine ⟨(.nil _), ?_⟩
    refine WPA.putS ?_
    refine atPY 13 rfl rfl rfl ?_
    refine atP 14 rfl ?_
    refine WPA.done (by kernel_rfl) ?_
    refine WPC.cond rfl (fun h0 => ?_) (fun h0 => ?_)
    · have hmax : j.first + rk.length ≤ 4294967295 := by simp at h0; omega
      have hmod := Nat.mod_lt (j.first + rk.length) (show 0 < j.n by omega)
      obtain ⟨s, hr⟩ := read_in (d := d) (i := ((j.at_ + 2 + (j.first + rk.length) % j.n : Nat) : Int)) (by omega)
      have hpS := pS_lt s.1
      rw [show j.n - rk.length = (j.n - (rk.length + 1)) + 1 by omega] at hinv
      refine WPC.skip ?_
      refine thenQ_n ?_
      refine WPC.block ?_
      refine WPC.seqD mixed ?_
      refine atP 0 rfl ?_
      refine atP 1 rfl ?_
      refine atP 2 rfl ?_
      refine atL 3 rfl ?_
      refine atP 4 rfl ?_
      refine atP 5 rfl ?_
      refine WPA.oneE 6 [(3, [_])] (by kernel_rfl) rfl rfl (by repeat (first | exact .nil | refine .anc rfl ?_ | refine .keep mm ?_)) (C1.call (c_call Tryd.func34 rfl rfl rfl) hnxt pkk rfl ?_)
      rintro _ _ ⟨rfl, rfl⟩
      refine ⟨(.cons (Ent.mem mm) (.nil _)), ?_⟩
      refine WPA.putS ?_
      refine atP 7 rfl ?_
      refine WPA.oneE 8 [(3, [_])] (by kernel_rfl) rfl rfl (by repeat (first | exact .nil | refine .anc rfl ?_ | refine .keep mm ?_)) (C1.call (c_call Tryd.func37 rfl rfl rfl) (c_sector (j := ({ j with held := rk.map jrP } : JN)) (L := ⟨rk, la, lc⟩) (seq := j.first + rk.length) (by omega) q5 (show j.at_ ≤ 1000 by omega)) pkk rfl ?_)
      rintro _ _ ⟨rfl, rfl⟩
      refine ⟨(.cons (Ent.mem mm) (.nil _)), ?_⟩
      refine WPA.putS ?_
      refine WPA.oneE 9 [] (by kernel_rfl) rfl rfl (by repeat (first | exact .nil | refine .anc rfl ?_ | refine .keep mm ?_)) (C1.call (c_call Tryd.func68 rfl rfl rfl) (c_DReadOk hr) pkk rfl ?_)
      rintro _ _ ⟨ad, cd, rfl, hds, rfl⟩
      refine ⟨(.nil _), ?_⟩
      refine WPA.putS ?_
      refine atP 10 rfl ?_
      refine atP 11 rfl ?_
      refine atP 12 rfl ?_
      refine atP 13 rfl ?_
      refine atP 14 rfl ?_
      refine WPA.done (by kernel_rfl) ?_
      refine WPC.seqR ?_
      refine stp ?_
      refine kall rfl (c_ParseU s hds) ?_
      rintro _ _ ⟨a', c', rfl, hb, rfl⟩
      iterate 9 refine stp ?_
      refine WPL.nil ?_
      refine WPC.prune [(0, _), (2, _), (3, _), (5, _), (6, _), (7, _), (8, _), (13, _), (14, _), (15, _), (16, _), (17, _), (18, _), (19, _), (20, _), (21, _), (22, _), (23, _), (24, _), (25, _), (26, _), (27, _), (28, _), (29, _), (30, _), (31, _), (32, _), (33, _), (34, _), (35, _), (36, _), (37, _), (38, _), (39, _), (40, _), (41, _), (42, _), (43, _), (44, _), (45, _), (46, _), (47, _)] sbb ?_
      refine WPC.seq ?_
      refine WPC.block ?_
      refine WPC.seqR ?_
      iterate 3 refine stp ?_
      apply WPL.joinO (e' := [(0, _), (2, _), (3, _), (5, _), (6, _), (7, _), (8, _), (13, _), (14, _), (15, _), (16, _), (17, _), (18, _), (19, _), (20, _), (21, _), (22, _), (23, _), (24, _), (25, _), (26, _), (27, _), (28, _), (29, _), (30, _), (31, _), (32, _), (33, _), (34, _), (35, _), (36, _), (37, _), (38, _), (39, _), (40, _), (41, _), (42, _), (43, _), (44, _), (45, _), (46, _), (47, _), (49, _), (50, _)]) 51 57 6 rfl
      · intro g4_2
        try simp only [decide_eq_true_eq, decide_eq_false_iff_not, beq_iff_eq, bne_iff_ne, beq_eq_false_iff_ne, bne_eq_false_iff_eq, Bool.not_eq_true', Bool.not_eq_false', Bool.not_eq_eq_eq_not, Bool.not_true, Bool.not_false, ne_eq, Decidable.not_not, Int.not_lt, Int.not_le, gt_iff_lt, ge_iff_le] at g4_2
        refine L_no rfl rfl rfl rfl ?_
        refine L_no rfl rfl rfl rfl ?_
        refine L_no rfl rfl rfl rfl ?_
        refine L_no rfl rfl rfl rfl ?_
        refine L_no rfl rfl rfl rfl ?_
        refine stp ?_
        first | exact WPL.jn rfl rfl sbb | exact WPL.jnI rfl rfl sbb Imp.pk
      · intro g4_2
        try simp only [decide_eq_true_eq, decide_eq_false_iff_not, beq_iff_eq, bne_iff_ne, beq_eq_false_iff_ne, bne_eq_false_iff_eq, Bool.not_eq_true', Bool.not_eq_false', Bool.not_eq_eq_eq_not, Bool.not_true, Bool.not_false, ne_eq, Decidable.not_not, Int.not_lt, Int.not_le, gt_iff_lt, ge_iff_le] at g4_2
        iterate 3 refine stpY rfl rfl ?_
        refine L_eyes rfl rfl rfl (C1.call (c_call Tryd.func34 rfl rfl rfl) hnxt pkk rfl ?_)
        rintro _ _ ⟨rfl, rfl⟩
        refine WPL.putS ?_
        refine stpY rfl rfl ?_
        refine stp ?_
        first | exact WPL.jn rfl rfl sbb | exact WPL.jnI rfl rfl sbb Imp.pk
      refine stp ?_
      apply WPL.joinO (e' := [(0, _), (2, _), (3, _), (5, _), (6, _), (7, _), (8, _), (13, _), (14, _), (15, _), (16, _), (17, _), (18, _), (19, _), (20, _), (21, _), (22, _), (23, _), (24, _), (25, _), (26, _), (27, _), (28, _), (29, _), (30, _), (31, _), (32, _), (33, _), (34, _), (35, _), (36, _), (37, _), (38, _), (39, _), (40, _), (41, _), (42, _), (43, _), (44, _), (45, _), (46, _), (47, _), (49, _), (50, _), (57, _)]) 58 62 4 rfl
      · intro g4_9
        try simp only [decide_eq_true_eq, decide_eq_false_iff_not, beq_iff_eq, bne_iff_ne, beq_eq_false_iff_ne, bne_eq_false_iff_eq, Bool.not_eq_true', Bool.not_eq_false', Bool.not_eq_eq_eq_not, Bool.not_true, Bool.not_false, ne_eq, Decidable.not_not, Int.not_lt, Int.not_le, gt_iff_lt, ge_iff_le] at g4_9
        refine L_no rfl rfl rfl rfl ?_
        refine L_no rfl rfl rfl rfl ?_
        refine L_no rfl rfl rfl rfl ?_
        refine stp ?_
        first | exact WPL.jn rfl rfl sbb | exact WPL.jnI rfl rfl sbb Imp.pk
      · intro g4_9
        try simp only [decide_eq_true_eq, decide_eq_false_iff_not, beq_iff_eq, bne_iff_ne, beq_eq_false_iff_ne, bne_eq_false_iff_eq, Bool.not_eq_true', Bool.not_eq_false', Bool.not_eq_eq_eq_not, Bool.not_true, Bool.not_false, ne_eq, Decidable.not_not, Int.not_lt, Int.not_le, gt_iff_lt, ge_iff_le] at g4_9
        iterate 3 refine stpY rfl rfl ?_
        refine stp ?_
        first | exact WPL.jn rfl rfl sbb | exact WPL.jnI rfl rfl sbb Imp.pk
      refine stp ?_
      apply WPL.joinO (e' := [(0, _), (2, _), (3, _), (5, _), (6, _), (7, _), (8, _), (13, _), (14, _), (15, _), (16, _), (17, _), (18, _), (19, _), (20, _), (21, _), (22, _), (23, _), (24, _), (25, _), (26, _), (27, _), (28, _), (29, _), (30, _), (31, _), (32, _), (33, _), (34, _), (35, _), (36, _), (37, _), (38, _), (39, _), (40, _), (41, _), (42, _), (43, _), (44, _), (45, _), (46, _), (47, _), (49, _), (50, _), (57, _), (62, _)]) 63 70 7 rfl
      · intro g4_14
        try simp only [decide_eq_true_eq, decide_eq_false_iff_not, beq_iff_eq, bne_iff_ne, beq_eq_false_iff_ne, bne_eq_false_iff_eq, Bool.not_eq_true', Bool.not_eq_false', Bool.not_eq_eq_eq_not, Bool.not_true, Bool.not_false, ne_eq, Decidable.not_not, Int.not_lt, Int.not_le, gt_iff_lt, ge_iff_le] at g4_14
        refine L_no rfl rfl rfl rfl ?_
        refine L_no rfl rfl rfl rfl ?_
        refine L_no rfl rfl rfl rfl ?_
        refine L_no rfl rfl rfl rfl ?_
        refine L_no rfl rfl rfl rfl ?_
        refine L_no rfl rfl rfl rfl ?_
        refine stp ?_
        first | exact WPL.jn rfl rfl sbb | exact WPL.jnI rfl rfl sbb Imp.pk
      · intro g4_14
        try simp only [decide_eq_true_eq, decide_eq_false_iff_not, beq_iff_eq, bne_iff_ne, beq_eq_false_iff_ne, bne_eq_false_iff_eq, Bool.not_eq_true', Bool.not_eq_false', Bool.not_eq_eq_eq_not, Bool.not_true, Bool.not_false, ne_eq, Decidable.not_not, Int.not_lt, Int.not_le, gt_iff_lt, ge_iff_le] at g4_14
        iterate 6 refine stpY rfl rfl ?_
        refine stp ?_
        first | exact WPL.jn rfl rfl sbb | exact WPL.jnI rfl rfl sbb Imp.pk
      refine stp ?_
      refine WPL.nil ?_
      refine WPC.prune [(0, _), (2, _), (3, _), (5, _), (6, _), (7, _), (8, _), (13, _), (14, _), (15, _), (16, _), (17, _), (18, _), (19, _), (20, _), (21, _), (22, _), (23, _), (24, _), (25, _), (26, _), (27, _), (28, _), (29, _), (30, _), (31, _), (32, _), (33, _), (34, _), (35, _), (36, _), (37, _), (38, _), (39, _), (40, _), (41, _), (42, _), (43, _), (44, _), (45, _), (46, _), (47, _), (48, _), (49, _), (50, _), (57, _), (62, _), (70, _)] sbb ?_
      refine WPC.cond rfl (fun h1 => ?_) (fun h1 => ?_)
      · have hno : ¬ scanOk s.1 low (j.first + rk.length) j.epoch := by unfold scanOk; intro ⟨e1, e2, e3, e4⟩; rw [e1, e2] at h1; simp at h1; omega
        refine WPC.exit ?_
        refine blockQ_there (by decide) ?_
        refine thenQ_e ?_
        refine blockQ_there (by decide) ?_
        refine thenQ_e ?_
        refine blockQ_here ?_
        skip
        have hfin : rk.map jrP = scanL d j.at_ j.n j.epoch j.n j.low j.first := by rw [← hinv, scanL_no hr hno, List.append_nil]
        exact endR_n rfl .nil ((Imp.pk).trans (jour_close (b := b) (db := db) (j := (j.scanned d)) ⟨rk, la, lc⟩ ⟨hfin, hrok⟩ (Γ := [disk db d]))) ⟨rfl, rfl⟩
      · have hyes : scanOk s.1 low (j.first + rk.length) j.epoch := by simp at h1; obtain ⟨⟨⟨e1, e2⟩, e3⟩, e4⟩ := h1; exact ⟨e1, by omega, by omega, by omega⟩
        rw [scanL_yes hr hmax hyes] at hinv
        refine WPC.skip ?_
        refine blockQ_n ?_
        refine thenQ_n ?_
        refine WPC.seqR ?_
        iterate 2 refine stp ?_
        refine WPL.nil ?_
        refine WPC.prune [(0, _), (2, _), (3, _), (5, _), (6, _), (7, _), (8, _), (13, _), (14, _), (15, _), (16, _), (17, _), (18, _), (19, _), (20, _), (21, _), (22, _), (23, _), (24, _), (25, _), (26, _), (27, _), (28, _), (29, _), (30, _), (31, _), (32, _), (33, _), (34, _), (35, _), (36, _), (37, _), (38, _), (39, _), (40, _), (41, _), (42, _), (43, _), (44, _), (45, _), (46, _), (47, _), (48, _), (49, _), (50, _), (57, _), (62, _), (70, _), (71, _)] sbb ?_
        refine WPC.region ?_
        iterate 7 refine stp ?_
        refine L_s (q_build (cs := [_, _]) pl_journal_record rfl rfl) rfl ?_
        refine nwb [_, _] fun bE => ?_
        refine WPL.cons rfl (E1.wpo (e_append (m := 1) (news := encR (⟨pE s.1, ⟨pB s.1, a', (pB s.1).length, c'⟩⟩ : JR)) mk_sl_journal_record (by decide) rfl rfl pk1 (Rd.part (i := 0) (b := bE) (o := 0) (vs := encR (⟨pE s.1, ⟨pB s.1, a', (pB s.1).length, c'⟩⟩ : JR)) mm rfl rfl rfl) (by simp [Value.oneCell']) (by show rk.length + 1 ≤ _; omega) (by show (rk.length + 1) * _ ≤ _; omega)) rfl ?_)
        rintro _ _ ⟨a4, c4, rfl, -, rfl⟩
        have eb : rk.map (·.x) ++ [((⟨pE s.1, ⟨pB s.1, a', (pB s.1).length, c'⟩⟩ : JR)).x] = (rk ++ [(⟨pE s.1, ⟨pB s.1, a', (pB s.1).length, c'⟩⟩ : JR)]).map (·.x) := by simp
        have el : rk.length + 1 = (rk ++ [(⟨pE s.1, ⟨pB s.1, a', (pB s.1).length, c'⟩⟩ : JR)]).length := by simp
        refine WPL.putS ?_
        iterate 2 refine stp ?_
        refine sto ?_
        refine WPL.nil ?_
        refine blockQ_n ?_
        refine thenQ_n ?_
        have hby := bytes_snoc (xs := rk.map (·.x)) (x := ((⟨pE s.1, ⟨pB s.1, a', (pB s.1).length, c'⟩⟩ : JR)).x) (Γ := [cells true b 0 (jourC db ({ j with held := (rk ++ [(⟨pE s.1, ⟨pB s.1, a', (pB s.1).length, c'⟩⟩ : JR)]).map jrP } : JN) ⟨rk ++ [(⟨pE s.1, ⟨pB s.1, a', (pB s.1).length, c'⟩⟩ : JR)], a4, c4⟩), buf 2 a4 (rk ++ [(⟨pE s.1, ⟨pB s.1, a', (pB s.1).length, c'⟩⟩ : JR)]).length c4 (rk.flatMap encR ++ encR (⟨pE s.1, ⟨pB s.1, a', (pB s.1).length, c'⟩⟩ : JR)), disk db d, tblA])
        rw [eb, ← flat_snoc] at hby
        rw [el, ← flat_snoc]
        exact ⟨rfl, _, _, _, by simp only [List.length_append, List.length_singleton]; omega, ⟨rk ++ [(⟨pE s.1, ⟨pB s.1, a', (pB s.1).length, c'⟩⟩ : JR)], a4, c4, pE s.1, rfl, by simp; omega, hpS.2, by intro r hr; rcases List.mem_append.1 hr with hr | hr; exact hrok r hr; rw [List.mem_singleton.1 hr]; exact hb, by rw [← hinv]; simp [Nat.add_assoc], rfl, rfl⟩, sbb, ((Imp.pk (Δ := [((⟨pE s.1, ⟨pB s.1, a', (pB s.1).length, c'⟩⟩ : JR)).x.at_, bytes (rk.map (·.x)), cells true b 0 (jourC db ({ j with held := (rk ++ [(⟨pE s.1, ⟨pB s.1, a', (pB s.1).length, c'⟩⟩ : JR)]).map jrP } : JN) ⟨rk ++ [(⟨pE s.1, ⟨pB s.1, a', (pB s.1).length, c'⟩⟩ : JR)], a4, c4⟩), buf 2 a4 (rk ++ [(⟨pE s.1, ⟨pB s.1, a', (pB s.1).length, c'⟩⟩ : JR)]).length c4 ((rk ++ [(⟨pE s.1, ⟨pB s.1, a', (pB s.1).length, c'⟩⟩ : JR)]).flatMap encR), disk db d, tblA])).trans hby).trans Imp.pk⟩
    · have hmax : 4294967295 < j.first + rk.length := by simp at h0; omega
      refine WPC.exit ?_
      refine thenQ_e ?_
      refine thenQ_e ?_
      refine blockQ_here ?_
      skip
      have hfin : rk.map jrP = scanL d j.at_ j.n j.epoch j.n j.low j.first := by rw [← hinv, scanL_far hmax, List.append_nil]
      exact endR_n rfl .nil ((Imp.pk).trans (jour_close (b := b) (db := db) (j := (j.scanned d)) ⟨rk, la, lc⟩ ⟨hfin, hrok⟩ (Γ := [disk db d]))) ⟨rfl, rfl⟩
  · have hlt : rk.length = j.n := by simp at g1_10; omega
    refine WPA.takeN 11 rfl rfl rfl rfl rfl (by kernel_rfl) (by kernel_rfl) (by kernel_rfl) rfl (.cons (Ent.mem mm) (.cons (Ent.mem mm) (.nil _))) ?_
    refine WPA.putS ?_
    refine WPA.takeN 12 rfl rfl rfl rfl rfl (by kernel_rfl) (by kernel_rfl) (by kernel_rfl) rfl (.cons (Ent.mem mm) (.cons (Ent.mem mm) (.nil _))) ?_
    refine WPA.putS ?_
    refine WPA.takeN 13 rfl rfl rfl rfl rfl (by kernel_rfl) (by kernel_rfl) (by kernel_rfl) rfl (.cons (Ent.mem mm) (.cons (Ent.mem mm) (.nil _))) ?_
    refine WPA.putS ?_
    refine atP 14 rfl ?_
    refine WPA.done (by kernel_rfl) ?_
    refine WPC.cond rfl (fun h0 => ?_) (fun h0 => ?_)
    · skip
      simp at h0
    · skip
      refine WPC.exit ?_
      refine thenQ_e ?_
      refine thenQ_e ?_
      refine blockQ_here ?_
      skip
      have hfin : rk.map jrP = scanL d j.at_ j.n j.epoch j.n j.low j.first := by rw [← hinv, hlt, Nat.sub_self, scanL, List.append_nil]
      exact endR_n rfl .nil ((Imp.pk).trans (jour_close (b := b) (db := db) (j := (j.scanned d)) ⟨rk, la, lc⟩ ⟨hfin, hrok⟩ (Γ := [disk db d]))) ⟨rfl, rfl⟩

end Go.Sl
/- Walks: Open. -/
namespace Go.Sl
open Go Go.RowKit Go.Proofs
set_option linter.unusedSimpArgs false
set_option linter.unusedVariables false
attribute [local irreducible] faB szB ldB zB zL slB mkB arB plB intB cells objc star stars buf slv grp whole Sat WPC WPL WPA WPO WPQ Trip Q1 E1 S1 C1

theorem c_DLenD {b : Nat} {d : DK} : Trip Tryd.prog 39 #[.pointer (some ⟨b, 0, none⟩)] [disk b d] fun r Δ => r = .int .i64 (d.seen.length : Int) ∧ Δ = [disk b d] := by
  refine disk_open fun L hL => ?_
  refine Trip.start 8 [.tmp 2] [(0, .pointer (some ⟨b, 0, none⟩))] Tryd.func39 rfl Tryd.ntmps39 rfl ⟨rfl, trivial⟩ rfl ?_
  refine WPC.seqR ?_
  refine stp ?_
  refine WPL.nil ?_
  refine WPC.seqR ?_
  iterate 6 refine stp ?_
  refine WPL.nil ?_
  refine WPC.ret ?_
  exact endR_r rfl (.tmp rfl .nil) ((Imp.pk).trans (disk_close L hL (Γ := []))) ⟨rfl, rfl⟩

theorem c_Open {db : Nat} {d : DK} {at_ n : Nat} (hn : 1 ≤ n ∧ n ≤ 100) (hat : at_ + 2 + n ≤ d.seen.length) (hd : d.ok) (hpl : d.pend.length < 600000) : Trip Tryd.prog 14 #[.pointer (some ⟨db, 0, none⟩), .int .i64 (at_ : Int), .int .i64 (n : Int)] [disk db d, tblA] fun r Δ => match (jopen0 d at_ n).2.1 with | some j => (∃ (b : Nat) (a : Option Addr) (c : Nat) (ys : List BS), r = .tuple #[.pointer (some ⟨b, 0, none⟩), .slice a ys.length c, .int .i64 0] ∧ Sok 1 a ys.length c (ys.map bsV) ∧ ys.map BS.bs = j.held.map (·.2) ∧ (∀ y ∈ ys, y.ok) ∧ Δ = [jour b db j, disk db (jopen0 d at_ n).1, buf 1 a ys.length c (ys.map bsV), bytes ys]) | none => r = .tuple #[.pointer none, .slice none 0 0, .int .i64 (jopen0 d at_ n).2.2] ∧ Δ = [disk db (jopen0 d at_ n).1] := by
  have hdn := hd.n
  have hlt := last_lt d at_
  refine Trip.start 98 [.tmp 6, .tmp 7, .tmp 8] [(0, .pointer (some ⟨db, 0, none⟩)), (1, .int .i64 (at_ : Int)), (2, .int .i64 (n : Int))] Tryd.func14 rfl Tryd.ntmps14 rfl ⟨rfl, rfl, rfl, trivial⟩ rfl ?_
  refine WPC.seqR ?_
  iterate 3 refine stp ?_
  refine WPL.nil ?_
  refine WPC.seq ?_
  refine WPC.block ?_
  refine WPC.seqR ?_
  iterate 3 refine stp ?_
  apply WPL.joinO (e' := [(0, _), (1, _), (2, _), (6, _), (7, _), (8, _)]) 16 19 3 rfl
  · intro g1_2
    try simp only [decide_eq_true_eq, decide_eq_false_iff_not, beq_iff_eq, bne_iff_ne, beq_eq_false_iff_ne, bne_eq_false_iff_eq, Bool.not_eq_true', Bool.not_eq_false', Bool.not_eq_eq_eq_not, Bool.not_true, Bool.not_false, ne_eq, Decidable.not_not, Int.not_lt, Int.not_le, gt_iff_lt, ge_iff_le] at g1_2
    refine L_no rfl rfl rfl rfl ?_
    refine L_no rfl rfl rfl rfl ?_
    refine stp ?_
    first | exact WPL.jn rfl rfl sbb | exact WPL.jnI rfl rfl sbb Imp.pk
  · intro g1_2
    try simp only [decide_eq_true_eq, decide_eq_false_iff_not, beq_iff_eq, bne_iff_ne, beq_eq_false_iff_ne, bne_eq_false_iff_eq, Bool.not_eq_true', Bool.not_eq_false', Bool.not_eq_eq_eq_not, Bool.not_true, Bool.not_false, ne_eq, Decidable.not_not, Int.not_lt, Int.not_le, gt_iff_lt, ge_iff_le] at g1_2
    iterate 2 refine stpY rfl rfl ?_
    refine stp ?_
    first | exact WPL.jn rfl rfl sbb | exact WPL.jnI rfl rfl sbb Imp.pk
  refine stp ?_
  refine WPL.nil ?_
  refine WPC.cond rfl (fun h0 => ?_) (fun h0 => ?_)
  · try simp only [decide_eq_true_eq, decide_eq_false_iff_not, beq_iff_eq, bne_iff_ne, beq_eq_false_iff_ne, bne_eq_false_iff_eq, Bool.not_eq_true', Bool.not_eq_false', Bool.not_eq_eq_eq_not, Bool.not_true, Bool.not_false, ne_eq, Decidable.not_not, Int.not_lt, Int.not_le, gt_iff_lt, ge_iff_le] at h0
    simp at h0; omega
  · skip
    refine WPC.seqR ?_
    iterate 3 refine stp ?_
    apply WPL.joinO (e' := [(0, _), (1, _), (2, _), (6, _), (7, _), (8, _)]) 23 31 8 rfl
    · intro g3_2
      try simp only [decide_eq_true_eq, decide_eq_false_iff_not, beq_iff_eq, bne_iff_ne, beq_eq_false_iff_ne, bne_eq_false_iff_eq, Bool.not_eq_true', Bool.not_eq_false', Bool.not_eq_eq_eq_not, Bool.not_true, Bool.not_false, ne_eq, Decidable.not_not, Int.not_lt, Int.not_le, gt_iff_lt, ge_iff_le] at g3_2
      refine L_no rfl rfl rfl rfl ?_
      refine L_no rfl rfl rfl rfl ?_
      refine L_no rfl rfl rfl rfl ?_
      refine L_no rfl rfl rfl rfl ?_
      refine L_no rfl rfl rfl rfl ?_
      refine L_no rfl rfl rfl rfl ?_
      refine L_no rfl rfl rfl rfl ?_
      refine stp ?_
      first | exact WPL.jn rfl rfl sbb | exact WPL.jnI rfl rfl sbb Imp.pk
    · intro g3_2
      try simp only [decide_eq_true_eq, decide_eq_false_iff_not, beq_iff_eq, bne_iff_ne, beq_eq_false_iff_ne, bne_eq_false_iff_eq, Bool.not_eq_true', Bool.not_eq_false', Bool.not_eq_eq_eq_not, Bool.not_true, Bool.not_false, ne_eq, Decidable.not_not, Int.not_lt, Int.not_le, gt_iff_lt, ge_iff_le] at g3_2
      iterate 2 refine stpY rfl rfl ?_
      refine L_eyes rfl rfl rfl (C1.call (c_call Tryd.func39 rfl rfl rfl) c_DLenD pkk rfl ?_)
      rintro _ _ ⟨rfl, rfl⟩
      refine WPL.putS ?_
      iterate 4 refine stpY rfl rfl ?_
      refine stp ?_
      first | exact WPL.jn rfl rfl sbb | exact WPL.jnI rfl rfl sbb Imp.pk
    refine stp ?_
    refine WPL.nil ?_
    refine WPC.cond rfl (fun h1 => ?_) (fun h1 => ?_)
    · try simp only [decide_eq_true_eq, decide_eq_false_iff_not, beq_iff_eq, bne_iff_ne, beq_eq_false_iff_ne, bne_eq_false_iff_eq, Bool.not_eq_true', Bool.not_eq_false', Bool.not_eq_eq_eq_not, Bool.not_true, Bool.not_false, ne_eq, Decidable.not_not, Int.not_lt, Int.not_le, gt_iff_lt, ge_iff_le] at h1
      simp at h1; omega
    · skip
      refine WPC.skip ?_
      refine blockQ_n ?_
      refine thenQ_n ?_
      refine WPC.seqR ?_
      iterate 3 refine stp ?_
      refine L_s (q_build (cs := [_, _, _, _, _, _, _]) pl_journal_Journal rfl rfl) rfl ?_
      refine nw fun bj => ?_
      refine stp ?_
      refine WPL.nil ?_
      refine WPC.seq ?_
      refine WPC.seqR ?_
      iterate 2 refine stp ?_
      refine kall rfl (c_Load (i := (at_ : Int)) (by omega) hd) ?_
      rintro _ _ ⟨a, c, rfl, hb, rfl⟩
      iterate 7 refine stp ?_
      refine WPL.nil ?_
      refine WPC.seqR ?_
      iterate 3 refine stp ?_
      refine L_split 46 _ rfl (fun g7_2 => ?_) (fun g7_2 => ?_)
      · have hseq : (last d at_).seq ≠ 0 := by intro h; rw [h] at g7_2; simp at g7_2
        simp only [if_neg hseq] at hb ⊢
        iterate 2 refine stpY rfl rfl ?_
        refine L_eyes rfl rfl rfl (C1.call (c_call Tryd.func41 rfl rfl rfl) (c_meta (b := bj) (db := db) (j := JN.fresh at_ n) (L := ⟨[], none, 0⟩) hb (by omega)) pkk rfl ?_)
        rintro _ _ ⟨v, rfl, hv, rfl⟩
        refine WPL.putS ?_
        refine stpY rfl rfl ?_
        refine stp ?_
        refine WPL.nil ?_
        refine WPC.prune [(2, _), (6, _), (7, _), (8, _), (51, _)] sbb ?_
        refine WPC.cond rfl (fun h2 => ?_) (fun h2 => ?_)
        · have hv0 : v = false := by simpa using h2
          have hbad : ¬ ((last d at_).b.length = 12 ∧ 0 < num (last d at_).b 0 4 ∧ num (last d at_).b 8 4 ≤ num (last d at_).b 4 4) := fun h => by rw [hv.2 h] at hv0; cases hv0
          have hJ := jopen0_none (n := n) (begun_bad hseq hbad)
          refine WPC.seqR ?_
          iterate 3 refine stp ?_
          refine WPL.nil ?_
          refine WPC.ret ?_
          refine thenQ_r ?_
          rw [hJ]
          exact endR_r rfl (.tmp rfl (.tmp rfl (.tmp rfl .nil))) Imp.pk ⟨rfl, rfl⟩
        · have hv1 : v = true := by simpa using h2
          have hgood := hv.1 hv1
          refine WPC.imp (Imp.pk (Δ := [cells true bj 0 (jourC db ((JN.fresh at_ n).withMeta (last d at_).b) ⟨[], none, 0⟩), disk db d, tblA])) ?_
          obtain ⟨j0, hj0⟩ : ∃ j0, ((JN.fresh at_ n).withMeta (last d at_).b) = j0 := ⟨_, rfl⟩
          have hbg : JN.begun d at_ n = some j0 := by rw [← hj0]; exact begun_meta hseq hgood
          have hok0 : j0.ok d := by rw [← hj0]; exact meta_ok hn hat _
          have hh0 : j0.held = [] := by rw [← hj0]; rfl
          have hjn : j0.n = n := by rw [← hj0]; rfl
          have hja : j0.at_ = at_ := by rw [← hj0]; rfl
          rw [hj0]
          clear hj0
          refine WPC.skip ?_
          refine thenQ_n ?_
          refine WPC.seq ?_
          refine WPC.seqR ?_
          iterate 5 refine stp ?_
          refine WPL.nil ?_
          refine WPC.cond rfl (fun h3 => ?_) (fun h3 => ?_)
          · have he : j0.epoch = 4294967295 := by simp at h3; omega
            have hJ := jopen0_full hbg he
            refine WPC.seqR ?_
            iterate 3 refine stp ?_
            refine WPL.nil ?_
            refine WPC.ret ?_
            refine thenQ_r ?_
            rw [hJ]
            exact endR_r rfl (.tmp rfl (.tmp rfl (.tmp rfl .nil))) Imp.pk ⟨rfl, rfl⟩
          · have he : j0.epoch ≠ 4294967295 := by simp at h3; omega
            have hel := hok0.epoch
            refine WPC.skip ?_
            refine thenQ_n ?_
            refine WPC.seqR ?_
            refine stp ?_
            refine WPL.imp ((Imp.bufNil (sz := 2)).trans (bytes_nil.trans ((Imp.pk (Δ := [cells true bj 0 (jourC db j0 ⟨[], none, 0⟩), buf 2 none 0 0 (([] : List JR).flatMap encR), bytes (([] : List JR).map (·.x)), disk db d, tblA])).trans (jour_close (b := bj) (db := db) (j := j0) ⟨[], none, 0⟩ ⟨by rw [hh0]; rfl, by simp⟩ (Γ := [disk db d, tblA]))))) ?_
            refine kall rfl (c_scan hok0 hd (by omega) hh0) ?_
            rintro _ _ ⟨rfl, rfl⟩
            have hall := scanL_all (d := d) (at_ := j0.at_) (n := j0.n) (epoch := j0.epoch) j0.n j0.low j0.first
            refine WPL.nil ?_
            refine WPC.seq ?_
            refine WPC.seqR ?_
            have hok1 : (j0.scanned d).ok d := hok0.scanned
            have hall1 : ∀ x ∈ (j0.scanned d).held, x.1 < 4294967296 ∧ x.2.length ≤ 43 := hall.2
            have he1 : (j0.scanned d).epoch = j0.epoch := rfl
            have hn1 : (j0.scanned d).n = n := hjn
            have ha1 : (j0.scanned d).at_ = at_ := hja
            have hJerr := jopen0_err (n := n) hbg he
            have hJok := jopen0_ok (n := n) hbg he
            obtain ⟨j1, hj1⟩ : ∃ j1, j0.scanned d = j1 := ⟨_, rfl⟩
            rw [hj1] at hok1 hall1 he1 hn1 ha1 hJerr hJok ⊢
            refine WPL.imp (Imp.pk (Δ := [jour bj db j1, disk db d, tblA])) ?_
            refine WPL.exg (L := fun L => jourL bj db j1 L) fun L => WPL.pure fun hL => ?_
            obtain ⟨rs, la, lc⟩ := L
            obtain ⟨hheld, hrok⟩ := hL
            dsimp only at hheld hrok
            have hlen : rs.length = j1.held.length := by rw [← hheld, List.length_map]
            have hmx := hok1.held
            have hfx := hok1.first
            have hmod := Nat.mod_lt j1.next (show 0 < n by omega)
            obtain ⟨hd1, hdl, hdp⟩ := openD_ok hd j1 n
            obtain ⟨d1, hd1e⟩ : ∃ d1, openD d j1 n = d1 := ⟨_, rfl⟩
            rw [hd1e] at hd1 hdl hdp hJerr hJok
            iterate 7 refine stp ?_
            refine WPL.nil ?_
            refine WPC.midS (fun e Γ => e = [(6, .pointer (some ⟨bj, 0, none⟩))] ∧ Γ = [cells true bj 0 (jourC db j1 ⟨rs, la, lc⟩), buf 2 la rs.length lc (rs.flatMap encR), bytes (rs.map (·.x)), disk db d1, tblA]) ?_ ?_
            · refine WPC.cond rfl (fun h4 => ?_) (fun h4 => ?_)
              · have hl4 : j1.held.length < n := by simp at h4; omega
                have hd1t : (d.write ((j1.place j1.next : Nat) : Int) []).1 = d1 := by rw [← hd1e]; unfold openD; rw [if_pos hl4]
                refine WPC.draw mixed ?_
                refine atP 0 rfl ?_
                refine atP 1 rfl ?_
                refine atP 2 rfl ?_
                refine atL 3 rfl ?_
                refine atP 4 rfl ?_
                refine atP 5 rfl ?_
                refine atP 6 rfl ?_
                refine atL 7 rfl ?_
                refine atP 8 rfl ?_
                refine atP 9 rfl ?_
                refine atP 11 rfl ?_
                refine atP 12 rfl ?_
                refine WPA.oneE 10 [(7, [_]), (3, [_])] (by kernel_rfl) rfl rfl (by repeat (first | exact .nil | refine .anc rfl ?_ | refine .keep mm ?_)) (C1.call (c_call Tryd.func34 rfl rfl rfl) (c_next (b := bj) (db := db) (j := j1) (L := ⟨rs, la, lc⟩) hlen hfx (by omega)) pkk rfl ?_)
                rintro _ _ ⟨rfl, rfl⟩
                refine ⟨(.cons (Ent.mem mm) (.cons (Ent.mem mm) (.nil _))), ?_⟩
                refine WPA.putS ?_
                refine WPA.takeP 13 rfl (q_remNN (a := j1.next) (b := n) rfl rfl (by omega)) (by kernel_rfl) (by kernel_rfl) (by kernel_rfl) rfl rfl (.cons (Ent.mem mm) (.cons (Ent.mem mm) (.nil _))) ?_
                refine WPA.putS ?_
                refine atP 14 rfl ?_
                refine atP 15 rfl ?_
                rw [show (j1.at_ : Int) + 2 + ((j1.next % n : Nat) : Int) = ((j1.place j1.next : Nat) : Int) by simp [JN.place, hn1]]
                refine WPA.oneE 16 [] (by kernel_rfl) rfl rfl (by repeat (first | exact .nil | refine .anc rfl ?_ | refine .keep mm ?_)) (C1.call (c_call Tryd.func36 rfl rfl rfl) (c_WriteNil hd (by omega)) pkk rfl ?_)
                rintro _ _ ⟨rfl, rfl⟩
                rw [hd1t]
                refine ⟨(.nil _), ?_⟩
                refine WPA.putS ?_
                refine WPA.done (by kernel_rfl) ?_
                refine thenQ_n ?_
                exact ⟨rfl, _, _, ⟨rfl, rfl⟩, sbb, Imp.pk⟩
              · have hd1t : d = d1 := by rw [← hd1e]; unfold openD; rw [if_neg (by simp at h4; omega)]
                refine WPC.imp (show Imp _ [cells true bj 0 (jourC db j1 ⟨rs, la, lc⟩), buf 2 la rs.length lc (rs.flatMap encR), bytes (rs.map (·.x)), disk db d1, tblA] from hd1t ▸ Imp.pk) ?_
                refine WPC.skip ?_
                refine thenQ_n ?_
                exact ⟨rfl, _, _, ⟨rfl, rfl⟩, sbb, Imp.pk⟩
            · rintro e Γ ⟨rfl, rfl⟩
              refine WPC.seqR ?_
              iterate 4 refine stp ?_
              refine L_s (q_add32 (a := j1.epoch) (b := 1) rfl rfl) rfl ?_
              rw [Nat.mod_eq_of_lt (show j1.epoch + 1 < 4294967296 by omega)]
              iterate 2 refine stp ?_
              refine sto ?_
              refine WPL.nil ?_
              refine WPC.seq ?_
              refine WPC.seqR ?_
              refine stp ?_
              refine kall rfl (c_jsave (b := bj) (db := db) (j := openJ j1) (L := ⟨rs, la, lc⟩) (d := d1) ⟨by rw [show (openJ j1).n = n from hn1]; exact hn, by show j1.at_ + 2 + j1.n ≤ _; rw [hdl]; omega, hfx, by show j1.epoch + 1 < _; omega, hok1.low, hmx, hok1.eps⟩ hd1 (by omega)) ?_
              rintro _ _ ⟨rfl, rfl⟩
              refine stp ?_
              refine WPL.nil ?_
              refine WPC.seqR ?_
              iterate 2 refine stp ?_
              refine WPL.nil ?_
              refine WPC.cond rfl (fun h5 => ?_) (fun h5 => ?_)
              · have hne : (jsave d1 (openJ j1)).2 ≠ 0 := by simpa using h5
                have hJ := hJerr hne
                refine WPC.seqR ?_
                iterate 4 refine stp ?_
                refine WPL.nil ?_
                refine WPC.ret ?_
                refine thenQ_r ?_
                rw [hJ]
                exact endR_r rfl (.tmp rfl (.tmp rfl (.tmp rfl .nil))) Imp.pk ⟨rfl, rfl⟩
              · have hz : (jsave d1 (openJ j1)).2 = 0 := by simpa using h5
                have hJ := hJok hz
                refine WPC.skip ?_
                refine thenQ_n ?_
                refine WPC.seqR ?_
                iterate 2 refine stp ?_
                refine WPL.imp (Imp.pk (Δ := [buf 2 la rs.length lc (rs.flatMap encR), cells true bj 0 (jourC db (openJ j1) ⟨rs, la, lc⟩), bytes (rs.map (·.x)), disk db (jsave d1 (openJ j1)).1])) ?_
                refine WPL.bufOpen fun sp hsb hsp => ?_
                refine kall rfl (c_All_ (b := bj) (db := db) (j := openJ j1) (L := ⟨rs, la, lc⟩) ⟨hheld, hrok⟩ (by show rs.length ≤ _; omega) (fun r hr => Nat.le_trans (hall1 (jrP r) (by rw [← hheld]; exact List.mem_map.2 ⟨r, hr, rfl⟩)).2 (by omega)) hsb) ?_
                rintro _ _ ⟨a2, c2, ys, rfl, hsy, hye, hyo, rfl⟩
                iterate 3 refine stp ?_
                refine WPL.nil ?_
                refine WPC.ret ?_
                rw [hJ]
                exact endR_r rfl (.tmp rfl (.tmp rfl (.tmp rfl .nil))) ((Imp.pk (Δ := [sl true la (rs.flatMap encR), cells true (blk la) (off la + (rs.flatMap encR).length) sp, cells true bj 0 (jourC db (openJ j1) ⟨rs, la, lc⟩), bytes (rs.map (·.x)), disk db (jsave d1 (openJ j1)).1, buf 1 a2 ys.length c2 (ys.map bsV), bytes ys])).trans ((Imp.bufClose hsb hsp).trans ((Imp.pk).trans (jour_close (b := bj) (db := db) (j := openJ j1) ⟨rs, la, lc⟩ ⟨hheld, hrok⟩ (Γ := [disk db (jsave d1 (openJ j1)).1, buf 1 a2 ys.length c2 (ys.map bsV), bytes ys]))))) ⟨bj, a2, c2, ys, rfl, hsy, hye, hyo, rfl⟩
      · have hseq : (last d at_).seq = 0 := by
          rcases Nat.eq_zero_or_pos (last d at_).seq with h | h
          · exact h
          · rw [if_neg (by omega)] at g7_2; simp at g7_2
        refine L_no rfl rfl rfl rfl ?_
        refine L_no rfl rfl rfl rfl ?_
        refine L_no rfl rfl rfl rfl ?_
        refine L_no rfl rfl rfl rfl ?_
        refine stp ?_
        refine WPL.nil ?_
        refine WPC.prune [(2, _), (6, _), (7, _), (8, _), (51, _)] sbb ?_
        refine WPC.cond rfl (fun h2 => ?_) (fun h2 => ?_)
        · skip
          simp at h2
        · refine WPC.imp (Imp.pk (Δ := [cells true bj 0 (jourC db (JN.fresh at_ n) ⟨[], none, 0⟩), disk db d, tblA])) ?_
          obtain ⟨j0, hj0⟩ : ∃ j0, (JN.fresh at_ n) = j0 := ⟨_, rfl⟩
          have hbg : JN.begun d at_ n = some j0 := by rw [← hj0]; exact begun_zero hseq
          have hok0 : j0.ok d := by rw [← hj0]; exact fresh_ok hn hat
          have hh0 : j0.held = [] := by rw [← hj0]; rfl
          have hjn : j0.n = n := by rw [← hj0]; rfl
          have hja : j0.at_ = at_ := by rw [← hj0]; rfl
          rw [hj0]
          clear hj0
          refine WPC.skip ?_
          refine thenQ_n ?_
          refine WPC.seq ?_
          refine WPC.seqR ?_
          iterate 5 refine stp ?_
          refine WPL.nil ?_
          refine WPC.cond rfl (fun h3 => ?_) (fun h3 => ?_)
          · have he : j0.epoch = 4294967295 := by simp at h3; omega
            have hJ := jopen0_full hbg he
            refine WPC.seqR ?_
            iterate 3 refine stp ?_
            refine WPL.nil ?_
            refine WPC.ret ?_
            refine thenQ_r ?_
            rw [hJ]
            exact endR_r rfl (.tmp rfl (.tmp rfl (.tmp rfl .nil))) Imp.pk ⟨rfl, rfl⟩
          · have he : j0.epoch ≠ 4294967295 := by simp at h3; omega
            have hel := hok0.epoch
            refine WPC.skip ?_
            refine thenQ_n ?_
            refine WPC.seqR ?_
            refine stp ?_
            refine WPL.imp ((Imp.bufNil (sz := 2)).trans (bytes_nil.trans ((Imp.pk (Δ := [cells true bj 0 (jourC db j0 ⟨[], none, 0⟩), buf 2 none 0 0 (([] : List JR).flatMap encR), bytes (([] : List JR).map (·.x)), disk db d, tblA])).trans (jour_close (b := bj) (db := db) (j := j0) ⟨[], none, 0⟩ ⟨by rw [hh0]; rfl, by simp⟩ (Γ := [disk db d, tblA]))))) ?_
            refine kall rfl (c_scan hok0 hd (by omega) hh0) ?_
            rintro _ _ ⟨rfl, rfl⟩
            have hall := scanL_all (d := d) (at_ := j0.at_) (n := j0.n) (epoch := j0.epoch) j0.n j0.low j0.first
            refine WPL.nil ?_
            refine WPC.seq ?_
            refine WPC.seqR ?_
            have hok1 : (j0.scanned d).ok d := hok0.scanned
            have hall1 : ∀ x ∈ (j0.scanned d).held, x.1 < 4294967296 ∧ x.2.length ≤ 43 := hall.2
            have he1 : (j0.scanned d).epoch = j0.epoch := rfl
            have hn1 : (j0.scanned d).n = n := hjn
            have ha1 : (j0.scanned d).at_ = at_ := hja
            have hJerr := jopen0_err (n := n) hbg he
            have hJok := jopen0_ok (n := n) hbg he
            obtain ⟨j1, hj1⟩ : ∃ j1, j0.scanned d = j1 := ⟨_, rfl⟩
            rw [hj1] at hok1 hall1 he1 hn1 ha1 hJerr hJok ⊢
            refine WPL.imp (Imp.pk (Δ := [jour bj db j1, disk db d, tblA])) ?_
            refine WPL.exg (L := fun L => jourL bj db j1 L) fun L => WPL.pure fun hL => ?_
            obtain ⟨rs, la, lc⟩ := L
            obtain ⟨hheld, hrok⟩ := hL
            dsimp only at hheld hrok
            have hlen : rs.length = j1.held.length := by rw [← hheld, List.length_map]
            have hmx := hok1.held
            have hfx := hok1.first
            have hmod := Nat.mod_lt j1.next (show 0 < n by omega)
            obtain ⟨hd1, hdl, hdp⟩ := openD_ok hd j1 n
            obtain ⟨d1, hd1e⟩ : ∃ d1, openD d j1 n = d1 := ⟨_, rfl⟩
            rw [hd1e] at hd1 hdl hdp hJerr hJok
            iterate 7 refine stp ?_
            refine WPL.nil ?_
            refine WPC.midS (fun e Γ => e = [(6, .pointer (some ⟨bj, 0, none⟩))] ∧ Γ = [cells true bj 0 (jourC db j1 ⟨rs, la, lc⟩), buf 2 la rs.length lc (rs.flatMap encR), bytes (rs.map (·.x)), disk db d1, tblA]) ?_ ?_
            · refine WPC.cond rfl (fun h4 => ?_) (fun h4 => ?_)
              · have hl4 : j1.held.length < n := by simp at h4; omega
                have hd1t : (d.write ((j1.place j1.next : Nat) : Int) []).1 = d1 := by rw [← hd1e]; unfold openD; rw [if_pos hl4]
                refine WPC.draw mixed ?_
                refine atP 0 rfl ?_
                refine atP 1 rfl ?_
                refine atP 2 rfl ?_
                refine atL 3 rfl ?_
                refine atP 4 rfl ?_
                refine atP 5 rfl ?_
                refine atP 6 rfl ?_
                refine atL 7 rfl ?_
                refine atP 8 rfl ?_
                refine atP 9 rfl ?_
                refine atP 11 rfl ?_
                refine atP 12 rfl ?_
                refine WPA.oneE 10 [(7, [_]), (3, [_])] (by kernel_rfl) rfl rfl (by repeat (first | exact .nil | refine .anc rfl ?_ | refine .keep mm ?_)) (C1.call (c_call Tryd.func34 rfl rfl rfl) (c_next (b := bj) (db := db) (j := j1) (L := ⟨rs, la, lc⟩) hlen hfx (by omega)) pkk rfl ?_)
                rintro _ _ ⟨rfl, rfl⟩
                refine ⟨(.cons (Ent.mem mm) (.cons (Ent.mem mm) (.nil _))), ?_⟩
                refine WPA.putS ?_
                refine WPA.takeP 13 rfl (q_remNN (a := j1.next) (b := n) rfl rfl (by omega)) (by kernel_rfl) (by kernel_rfl) (by kernel_rfl) rfl rfl (.cons (Ent.mem mm) (.cons (Ent.mem mm) (.nil _))) ?_
                refine WPA.putS ?_
                refine atP 14 rfl ?_
                refine atP 15 rfl ?_
                rw [show (j1.at_ : Int) + 2 + ((j1.next % n : Nat) : Int) = ((j1.place j1.next : Nat) : Int) by simp [JN.place, hn1]]
                refine WPA.oneE 16 [] (by kernel_rfl) rfl rfl (by repeat (first | exact .nil | refine .anc rfl ?_ | refine .keep mm ?_)) (C1.call (c_call Tryd.func36 rfl rfl rfl) (c_WriteNil hd (by omega)) pkk rfl ?_)
                rintro _ _ ⟨rfl, rfl⟩
                rw [hd1t]
                refine ⟨(.nil _), ?_⟩
                refine WPA.putS ?_
                refine WPA.done (by kernel_rfl) ?_
                refine thenQ_n ?_
                exact ⟨rfl, _, _, ⟨rfl, rfl⟩, sbb, Imp.pk⟩
              · have hd1t : d = d1 := by rw [← hd1e]; unfold openD; rw [if_neg (by simp at h4; omega)]
                refine WPC.imp (show Imp _ [cells true bj 0 (jourC db j1 ⟨rs, la, lc⟩), buf 2 la rs.length lc (rs.flatMap encR), bytes (rs.map (·.x)), disk db d1, tblA] from hd1t ▸ Imp.pk) ?_
                refine WPC.skip ?_
                refine thenQ_n ?_
                exact ⟨rfl, _, _, ⟨rfl, rfl⟩, sbb, Imp.pk⟩
            · rintro e Γ ⟨rfl, rfl⟩
              refine WPC.seqR ?_
              iterate 4 refine stp ?_
              refine L_s (q_add32 (a := j1.epoch) (b := 1) rfl rfl) rfl ?_
              rw [Nat.mod_eq_of_lt (show j1.epoch + 1 < 4294967296 by omega)]
              iterate 2 refine stp ?_
              refine sto ?_
              refine WPL.nil ?_
              refine WPC.seq ?_
              refine WPC.seqR ?_
              refine stp ?_
              refine kall rfl (c_jsave (b := bj) (db := db) (j := openJ j1) (L := ⟨rs, la, lc⟩) (d := d1) ⟨by rw [show (openJ j1).n = n from hn1]; exact hn, by show j1.at_ + 2 + j1.n ≤ _; rw [hdl]; omega, hfx, by show j1.epoch + 1 < _; omega, hok1.low, hmx, hok1.eps⟩ hd1 (by omega)) ?_
              rintro _ _ ⟨rfl, rfl⟩
              refine stp ?_
              refine WPL.nil ?_
              refine WPC.seqR ?_
              iterate 2 refine stp ?_
              refine WPL.nil ?_
              refine WPC.cond rfl (fun h5 => ?_) (fun h5 => ?_)
              · have hne : (jsave d1 (openJ j1)).2 ≠ 0 := by simpa using h5
                have hJ := hJerr hne
                refine WPC.seqR ?_
                iterate 4 refine stp ?_
                refine WPL.nil ?_
                refine WPC.ret ?_
                refine thenQ_r ?_
                rw [hJ]
                exact endR_r rfl (.tmp rfl (.tmp rfl (.tmp rfl .nil))) Imp.pk ⟨rfl, rfl⟩
              · have hz : (jsave d1 (openJ j1)).2 = 0 := by simpa using h5
                have hJ := hJok hz
                refine WPC.skip ?_
                refine thenQ_n ?_
                refine WPC.seqR ?_
                iterate 2 refine stp ?_
                refine WPL.imp (Imp.pk (Δ := [buf 2 la rs.length lc (rs.flatMap encR), cells true bj 0 (jourC db (openJ j1) ⟨rs, la, lc⟩), bytes (rs.map (·.x)), disk db (jsave d1 (openJ j1)).1])) ?_
                refine WPL.bufOpen fun sp hsb hsp => ?_
                refine kall rfl (c_All_ (b := bj) (db := db) (j := openJ j1) (L := ⟨rs, la, lc⟩) ⟨hheld, hrok⟩ (by show rs.length ≤ _; omega) (fun r hr => Nat.le_trans (hall1 (jrP r) (by rw [← hheld]; exact List.mem_map.2 ⟨r, hr, rfl⟩)).2 (by omega)) hsb) ?_
                rintro _ _ ⟨a2, c2, ys, rfl, hsy, hye, hyo, rfl⟩
                iterate 3 refine stp ?_
                refine WPL.nil ?_
                refine WPC.ret ?_
                rw [hJ]
                exact endR_r rfl (.tmp rfl (.tmp rfl (.tmp rfl .nil))) ((Imp.pk (Δ := [sl true la (rs.flatMap encR), cells true (blk la) (off la + (rs.flatMap encR).length) sp, cells true bj 0 (jourC db (openJ j1) ⟨rs, la, lc⟩), bytes (rs.map (·.x)), disk db (jsave d1 (openJ j1)).1, buf 1 a2 ys.length c2 (ys.map bsV), bytes ys])).trans ((Imp.bufClose hsb hsp).trans ((Imp.pk).trans (jour_close (b := bj) (db := db) (j := openJ j1) ⟨rs, la, lc⟩ ⟨hheld, hrok⟩ (Γ := [disk db (jsave d1 (openJ j1)).1, buf 1 a2 ys.length c2 (ys.map bsV), bytes ys]))))) ⟨bj, a2, c2, ys, rfl, hsy, hye, hyo, rfl⟩

end Go.Sl
/- Walks: comparing, syncing. -/
namespace Go.Sl
open Go Go.RowKit Go.Proofs
set_option linter.unusedSimpArgs false
set_option linter.unusedVariables false
attribute [local irreducible] faB szB ldB zB zL slB mkB arB plB intB cells objc star stars buf slv grp whole Sat WPC WPL WPA WPO WPQ Trip Q1 E1 S1 C1

theorem u8_inj {x y : By} (h : u8 x = u8 y) : x = y := by
  simp only [u8, Value.int.injEq, true_and] at h
  exact Fin.ext (by omega)
theorem take_snoc_eq {α : Type} {k : Nat} {xs ys : List α} {x y : α} (h : xs.take k = ys.take k) (hx : xs[k]? = some x) (hy : ys[k]? = some y) : xs.take (k + 1) = ys.take (k + 1) ↔ x = y := by
  rw [take_succ hx, take_succ hy, h]
  constructor
  · intro e; simpa using e
  · intro e; rw [e]

theorem c_Same01 {a a2 : Option Addr} {c c2 : Nat} {p q : Bool} {xs ys : List By} (hs : Sok 1 a xs.length c (xs.map u8)) (ht : Sok 1 a2 ys.length c2 (ys.map u8)) (hx : xs.length ≤ 9223372036854775807) : Trip Tryd.prog 44 #[.slice a xs.length c, .slice a2 ys.length c2] [sl p a (xs.map u8), sl q a2 (ys.map u8)] fun r Δ => r = .bool (decide (xs = ys)) ∧ Δ = [sl p a (xs.map u8), sl q a2 (ys.map u8)] := by
  refine Trip.start 26 [.tmp 4] [(0, .slice a xs.length c), (1, .slice a2 ys.length c2)] Tryd.func44 rfl Tryd.ntmps44 rfl ⟨rfl, rfl, trivial⟩ rfl ?_
  refine WPC.seqR ?_
  refine stp ?_
  refine WPL.nil ?_
  refine WPC.seq ?_
  refine WPC.seqR ?_
  iterate 5 refine stp ?_
  refine WPL.nil ?_
  refine WPC.cond rfl (fun h0 => ?_) (fun h0 => ?_)
  · have hne : ¬ xs = ys := fun h => by subst h; simp at h0
    refine WPC.seqR ?_
    refine stp ?_
    refine WPL.nil ?_
    refine WPC.ret ?_
    refine thenQ_r ?_
    exact endR_r rfl (.tmp rfl .nil) Imp.pk ⟨by simp only [packV, hne, decide_false], rfl⟩
  · have hl : xs.length = ys.length := by simp at h0; omega
    refine WPC.skip ?_
    refine thenQ_n ?_
    refine WPC.seq ?_
    refine WPC.seqR ?_
    refine stp ?_
    refine WPL.nil ?_
    refine WPC.block ?_
    refine WPC.loopS (fun m e Γ => ∃ k : Nat, m = xs.length - k ∧ k ≤ xs.length ∧ xs.take k = ys.take k ∧ e = [(0, .slice a xs.length c), (1, .slice a2 ys.length c2), (5, .int .i64 (k : Int))] ∧ Γ = [sl p a (xs.map u8), sl q a2 (ys.map u8)]) (xs.length) ⟨0, rfl, by omega, rfl, rfl, rfl⟩ sbb Imp.pk ?_
    rintro m e Γ ⟨k, rfl, hk, heq, rfl, rfl⟩
    refine WPC.seq ?_
    refine WPC.seqR ?_
    iterate 4 refine stp ?_
    refine WPL.nil ?_
    refine WPC.cond rfl (fun h1 => ?_) (fun h1 => ?_)
    · simp only [decide_eq_true_eq, Int.ofNat_lt] at h1
      have hp : Pl a := hs.at (by omega) (by omega)
      have hp2 : Pl a2 := ht.at (by omega) (by omega)
      obtain ⟨x, hx1⟩ : ∃ x, xs[k]? = some x := ⟨xs[k], by simp [h1]⟩
      obtain ⟨y, hy1⟩ : ∃ y, ys[k]? = some y := ⟨ys[k]'(by omega), by simp⟩
      have hstep := take_snoc_eq heq hx1 hy1
      refine WPC.skip ?_
      refine thenQ_n ?_
      refine WPC.seq ?_
      refine WPC.block ?_
      refine WPC.seqQ mixed (by kernel_rfl) ?_
      iterate 2 refine stq ?_
      refine WPQ.cons (q_idxN (i := k) sl_sl_uint8 rfl rfl h1 hp) rfl ?_
      refine WPQ.cons (q_ldMap (f := u8) ld_uint8 rfl mm hx1) rfl ?_
      iterate 2 refine stq ?_
      refine WPQ.cons (q_idxN (i := k) sl_sl_uint8 rfl rfl (by omega) hp2) rfl ?_
      refine WPQ.cons (q_ldMap (f := u8) ld_uint8 rfl mm hy1) rfl ?_
      refine stq ?_
      refine WPQ.nil ?_
      refine WPC.cond rfl (fun h2 => ?_) (fun h2 => ?_)
      · have hne : ¬ xs = ys := fun h => by subst h; rw [hx1] at hy1; obtain rfl := Option.some.inj hy1; simp at h2
        refine WPC.seqR ?_
        refine stp ?_
        refine WPL.nil ?_
        refine WPC.ret ?_
        refine blockQ_r ?_
        refine thenQ_r ?_
        refine thenQ_r ?_
        refine blockQ_r ?_
        refine thenQ_r ?_
        exact endR_r rfl (.tmp rfl .nil) Imp.pk ⟨by simp only [packV, hne, decide_false], rfl⟩
      · have hxy : x = y := Fin.ext (by simp at h2; omega)
        refine WPC.skip ?_
        refine blockQ_n ?_
        refine thenQ_n ?_
        refine WPC.region ?_
        iterate 3 refine stp ?_
        refine WPL.nil ?_
        refine thenQ_n ?_
        exact ⟨rfl, _, _, _, by omega, ⟨k + 1, rfl, by omega, hstep.2 hxy, rfl, rfl⟩, sbb, Imp.pk⟩
    · simp only [decide_eq_false_iff_not, Int.ofNat_lt] at h1
      have hk2 : k = xs.length := by omega
      refine WPC.exit ?_
      refine thenQ_e ?_
      refine thenQ_e ?_
      refine blockQ_here ?_
      refine thenQ_n ?_
      refine WPC.seqR ?_
      refine stp ?_
      refine WPL.nil ?_
      refine WPC.ret ?_
      have he : xs = ys := by rw [hk2, List.take_length, List.take_of_length_le (by omega)] at heq; exact heq
      exact endR_r rfl (.tmp rfl .nil) Imp.pk ⟨by simp only [packV, he, decide_true], rfl⟩

theorem c_Same06 {a a2 : Option Addr} {c c2 : Nat} {p q : Bool} {ys zs : List BS} (hs : Sok 1 a ys.length c (ys.map bsV)) (ht : Sok 1 a2 zs.length c2 (zs.map bsV)) (hx : ys.length ≤ 9223372036854775807) (hy : ∀ y ∈ ys, y.ok ∧ y.bs.length ≤ 9223372036854775807) (hz : ∀ z ∈ zs, z.ok) : Trip Tryd.prog 15 #[.slice a ys.length c, .slice a2 zs.length c2] [sl p a (ys.map bsV), bytes ys, sl q a2 (zs.map bsV), bytes zs] fun r Δ => r = .bool (decide (ys.map BS.bs = zs.map BS.bs)) ∧ Δ = [sl p a (ys.map bsV), sl q a2 (zs.map bsV)] := by
  refine Trip.start 27 [.tmp 4] [(0, .slice a ys.length c), (1, .slice a2 zs.length c2)] Tryd.func15 rfl Tryd.ntmps15 rfl ⟨rfl, rfl, trivial⟩ rfl ?_
  refine WPC.seqR ?_
  refine stp ?_
  refine WPL.nil ?_
  refine WPC.seq ?_
  refine WPC.seqR ?_
  iterate 5 refine stp ?_
  refine WPL.nil ?_
  refine WPC.cond rfl (fun h0 => ?_) (fun h0 => ?_)
  · have hne : ¬ ys.map BS.bs = zs.map BS.bs := fun h => by have := congrArg List.length h; simp at this h0; omega
    refine WPC.seqR ?_
    refine stp ?_
    refine WPL.nil ?_
    refine WPC.ret ?_
    refine thenQ_r ?_
    exact endR_r rfl (.tmp rfl .nil) Imp.pk ⟨by simp only [packV, hne, decide_false], rfl⟩
  · have hl : ys.length = zs.length := by simp at h0; omega
    refine WPC.skip ?_
    refine thenQ_n ?_
    refine WPC.seq ?_
    refine WPC.seqR ?_
    refine stp ?_
    refine WPL.nil ?_
    refine WPC.block ?_
    refine WPC.loopS (fun m e Γ => ∃ k : Nat, m = ys.length - k ∧ k ≤ ys.length ∧ (ys.map BS.bs).take k = (zs.map BS.bs).take k ∧ e = [(0, .slice a ys.length c), (1, .slice a2 zs.length c2), (5, .int .i64 (k : Int))] ∧ Γ = [sl p a (ys.map bsV), bytes ys, sl q a2 (zs.map bsV), bytes zs]) (ys.length) ⟨0, rfl, by omega, rfl, rfl, rfl⟩ sbb Imp.pk ?_
    rintro m e Γ ⟨k, rfl, hk, heq, rfl, rfl⟩
    refine WPC.seq ?_
    refine WPC.seqR ?_
    iterate 4 refine stp ?_
    refine WPL.nil ?_
    refine WPC.cond rfl (fun h1 => ?_) (fun h1 => ?_)
    · simp only [decide_eq_true_eq, Int.ofNat_lt] at h1
      have hp : Pl a := hs.at (by omega) (by omega)
      have hp2 : Pl a2 := ht.at (by omega) (by omega)
      obtain ⟨x, hx1⟩ : ∃ x, ys[k]? = some x := ⟨ys[k], by simp [h1]⟩
      obtain ⟨y, hy1⟩ : ∃ y, zs[k]? = some y := ⟨zs[k]'(by omega), by simp⟩
      have hstep := take_snoc_eq (x := x.bs) (y := y.bs) heq (by simp [hx1]) (by simp [hy1])
      have hxm := List.mem_of_getElem? hx1
      have hym := List.mem_of_getElem? hy1
      have hxo := (hy x hxm).1
      have hyo := hz y hym
      have hxn := hxo.n
      have hyn := hyo.n
      have hxb := (hy x hxm).2
      unfold BS.ok at hxo hyo
      rw [hxn] at hxo
      rw [hyn] at hyo
      refine WPC.skip ?_
      refine thenQ_n ?_
      refine WPC.seq ?_
      refine WPC.block ?_
      refine WPC.seqD mixed ?_
      refine atP 0 rfl ?_
      refine atP 1 rfl ?_
      refine WPA.takeP 2 rfl (q_idxN (i := k) sl_sl_sl_uint8 rfl rfl h1 hp) (by kernel_rfl) (by kernel_rfl) (by kernel_rfl) rfl rfl (.nil _) ?_
      refine WPA.putS ?_
      refine WPA.takeL 3 rfl (Ent.mem mm) (show Q1 _ _ _ _ (bsV x) from q_ldMap (f := bsV) ld_sl_uint8 rfl (.head _) hx1) (by kernel_rfl) (by kernel_rfl) (by kernel_rfl) rfl rfl (.nil _) ?_
      refine WPA.putS ?_
      refine atP 4 rfl ?_
      refine atP 5 rfl ?_
      refine WPA.takeP 6 rfl (q_idxN (i := k) sl_sl_sl_uint8 rfl rfl (by omega) hp2) (by kernel_rfl) (by kernel_rfl) (by kernel_rfl) rfl rfl (.cons (Ent.mem mm) (.nil _)) ?_
      refine WPA.putS ?_
      refine WPA.takeL 7 rfl (Ent.mem mm) (show Q1 _ _ _ _ (bsV y) from q_ldMap (f := bsV) ld_sl_uint8 rfl (.head _) hy1) (by kernel_rfl) (by kernel_rfl) (by kernel_rfl) rfl rfl (.cons (Ent.mem mm) (.nil _)) ?_
      refine WPA.putS ?_
      have exV : bsV x = .slice x.a x.bs.length x.c := by simp only [bsV, hxn]
      have eyV : bsV y = .slice y.a y.bs.length y.c := by simp only [bsV, hyn]
      rw [exV, eyV]
      refine WPA.imp (((Imp.pk (Δ := [bytes ys, sl p a (ys.map bsV), bytes zs, sl q a2 (zs.map bsV)])).trans (bytes_one hxm)).trans ((Imp.pk (Δ := [bytes zs, x.at_, bytes ys, sl p a (ys.map bsV), sl q a2 (zs.map bsV)])).trans (bytes_one hym))) ?_
      refine WPA.oneE 8 [] (by kernel_rfl) rfl rfl (by repeat (first | exact .nil | refine .anc rfl ?_ | refine .keep mm ?_)) (C1.call (c_call Tryd.func44 rfl rfl rfl) (c_Same01 (p := false) (q := false) hxo hyo hxb) pkk rfl ?_)
      rintro _ _ ⟨rfl, rfl⟩
      refine ⟨(.nil _), ?_⟩
      refine WPA.putS ?_
      refine atP 9 rfl ?_
      refine WPA.done (by kernel_rfl) ?_
      refine WPC.cond rfl (fun h2 => ?_) (fun h2 => ?_)
      · have hne : ¬ ys.map BS.bs = zs.map BS.bs := fun h => by have h3 := congrArg (fun l => l[k]?) h; simp [hx1, hy1] at h3; simp [h3] at h2
        refine WPC.seqR ?_
        refine stp ?_
        refine WPL.nil ?_
        refine WPC.ret ?_
        refine blockQ_r ?_
        refine thenQ_r ?_
        refine thenQ_r ?_
        refine blockQ_r ?_
        refine thenQ_r ?_
        exact endR_r rfl (.tmp rfl .nil) Imp.pk ⟨by simp only [packV, hne, decide_false], rfl⟩
      · have hxy : x.bs = y.bs := by simpa using h2
        refine WPC.skip ?_
        refine blockQ_n ?_
        refine thenQ_n ?_
        refine WPC.region ?_
        iterate 3 refine stp ?_
        refine WPL.nil ?_
        refine thenQ_n ?_
        exact ⟨rfl, _, _, _, by omega, ⟨k + 1, rfl, by omega, hstep.2 hxy, rfl, rfl⟩, sbb, Imp.pk⟩
    · simp only [decide_eq_false_iff_not, Int.ofNat_lt] at h1
      have hk2 : k = ys.length := by omega
      refine WPC.exit ?_
      refine thenQ_e ?_
      refine thenQ_e ?_
      refine blockQ_here ?_
      refine thenQ_n ?_
      refine WPC.seqR ?_
      refine stp ?_
      refine WPL.nil ?_
      refine WPC.ret ?_
      have he : ys.map BS.bs = zs.map BS.bs := by rw [hk2, List.take_of_length_le (by simp), List.take_of_length_le (by simp; omega)] at heq; exact heq
      exact endR_r rfl (.tmp rfl .nil) Imp.pk ⟨by simp only [packV, he, decide_true], rfl⟩

theorem c_JSync {b db : Nat} {j : JN} {d : DK} (hd : d.ok) (hpl : d.pend.length < 1000000) : Trip Tryd.prog 10 #[.pointer (some ⟨b, 0, none⟩)] [jour b db j, disk db d] fun r Δ => r = .tuple #[] ∧ Δ = [jour b db j, disk db d.sync] := by
  refine jour_open fun L hL => ?_
  obtain ⟨rs, la, lc⟩ := L
  obtain ⟨hheld, hrok⟩ := hL
  dsimp only at hheld hrok
  refine Trip.start 7 [] [(0, .pointer (some ⟨b, 0, none⟩))] Tryd.func10 rfl Tryd.ntmps10 rfl ⟨rfl, trivial⟩ rfl ?_
  refine WPC.region ?_
  iterate 4 refine stp ?_
  refine kall rfl (c_Sync hd hpl) ?_
  rintro _ _ ⟨rfl, rfl⟩
  refine WPL.nil ?_
  exact endR_n rfl .nil ((Imp.pk).trans (jour_close (b := b) (db := db) (j := j) ⟨rs, la, lc⟩ ⟨hheld, hrok⟩ (Γ := [disk db d.sync]))) ⟨rfl, rfl⟩

end Go.Sl
