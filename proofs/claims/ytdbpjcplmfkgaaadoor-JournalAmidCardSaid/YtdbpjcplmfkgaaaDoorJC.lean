/- Walks: stamps. -/
import Derived.Test.YtdbpjcplmfkgaaaDoorJB
namespace Go.Sl
open Go Go.RowKit Go.Proofs
set_option linter.unusedSimpArgs false
set_option linter.unusedVariables false
attribute [local irreducible] faB szB ldB zB zL slB mkB arB plB intB cells objc star stars buf slv grp whole Sat WPC WPL WPA WPO Trip

theorem c_Concat {p : Bool} {a : Option Addr} {n c : Nat} {xs : List BS} (hs : Sok 1 a n c (xs.map bsV)) (hok : ∀ x ∈ xs, x.ok) (hn : n < 1000000) (hb : (xs.flatMap BS.bs).length < 1000000) : Trip Tryd.prog 59 #[.slice a n c] [sl p a (xs.map bsV), bytes xs] fun r Δ => ∃ a' c', r = .slice a' (xs.flatMap BS.bs).length c' ∧ Δ = [buf 1 a' (xs.flatMap BS.bs).length c' ((xs.flatMap BS.bs).map u8), sl p a (xs.map bsV)] := by
  have hl : xs.length = n := by have := hs.len; simpa using this
  refine Trip.start 36 [.tmp 2] [(0, .slice a n c)] Tryd.func59 rfl Tryd.ntmps59 rfl ⟨rfl, trivial⟩ rfl ?_
  refine WPC.seqR ?_
  refine L_s (q_assign rfl) rfl ?_
  refine WPL.nil ?_
  refine WPC.seqR ?_
  refine L_s (q_assign rfl) rfl ?_
  refine WPL.nil ?_
  refine WPC.seq ?_
  refine WPC.seqR ?_
  refine L_s (q_move rfl) rfl ?_
  refine L_s (q_len rfl un_sl_sl_uint8 rfl) rfl ?_
  refine L_s (q_move rfl) rfl ?_
  refine WPL.nil ?_
  refine WPC.block ?_
  refine WPC.loopS (fun m e Γ => ∃ k : Nat, m = n - k ∧ k ≤ n ∧ e = [(0, .slice a n c), (3, .int .i64 (((xs.take k).flatMap BS.bs).length : Int)), (9, .slice a n c), (10, .int .i64 (n : Int)), (11, .int .i64 (k : Int))] ∧ Γ = [sl p a (xs.map bsV), bytes xs]) (n) ⟨0, rfl, by omega, rfl, rfl⟩ (by repeat (first | exact trivial | refine ⟨rfl, ?_⟩)) (Imp.pick (by repeat (first | exact Pick.nil | apply Pick.keep (by repeat (first | exact List.Mem.head _ | apply List.Mem.tail)) (by first | exact Pers.cells _ _ _ | exact Pers.slv _ _ _) | apply Pick.cons (by repeat (first | exact Pick1.here | apply Pick1.there))))) ?_
  rintro m e Γ ⟨k, rfl, hk, rfl, rfl⟩
  refine WPC.seqR ?_
  refine L_s (q_int rfl rfl rfl) rfl ?_
  refine WPL.nil ?_
  refine WPC.seq ?_
  refine WPC.cond rfl (fun h0 => ?_) (fun h0 => ?_)
  · simp only [decide_eq_true_eq, Int.ofNat_lt] at h0
    have hp : Pl a := hs.at (by omega) (by omega)
    obtain ⟨x, hx⟩ : ∃ x, xs[k]? = some x := ⟨xs[k]'(by omega), by simp⟩
    have hxo := hok x (List.mem_of_getElem? hx)
    have hxn := hxo.n
    have hsum : ((xs.take k).flatMap BS.bs).length + x.n ≤ (xs.flatMap BS.bs).length := by
      have h1 := catLen_take xs (k + 1)
      rw [take_succ hx, List.flatMap_append, List.length_append] at h1
      simpa [hxn] using h1
    have hsnoc : ((xs.take (k + 1)).flatMap BS.bs) = ((xs.take k).flatMap BS.bs) ++ x.bs := by rw [take_succ hx, List.flatMap_append]; simp
    refine WPC.skip ?_
    refine thenQ_n ?_
    refine WPC.seq ?_
    refine WPC.block ?_
    refine WPC.seqR ?_
    first | refine L_s (q_idxN sl_sl_sl_uint8 rfl rfl (by omega) (by assumption)) rfl ?_ | refine L_s (q_idx sl_sl_sl_uint8 rfl rfl (by omega) (by omega) (by assumption)) rfl ?_
    refine L_s (q_ldMap ld_sl_uint8 rfl (by repeat (first | exact List.Mem.head _ | apply List.Mem.tail)) hx) rfl ?_
    refine L_s (q_assign rfl) rfl ?_
    refine WPL.nil ?_
    refine WPC.seqR ?_
    refine L_s (q_move rfl) rfl ?_
    refine L_s (q_move rfl) rfl ?_
    refine L_s (q_len rfl un_sl_uint8 rfl) rfl ?_
    refine L_s (q_addI rfl rfl (by omega)) rfl ?_
    rw [show ((((xs.take k).flatMap BS.bs).length : Int) + (x.n : Int)) = (((xs.take (k + 1)).flatMap BS.bs).length : Int) by rw [hsnoc, List.length_append, hxn]; simp]
    refine L_s (q_assign rfl) rfl ?_
    refine WPL.nil ?_
    refine WPC.seqR ?_
    refine L_s (q_move rfl) rfl ?_
    refine L_s (q_int rfl rfl rfl) rfl ?_
    refine WPL.nil ?_
    refine WPC.cond rfl (fun h1 => ?_) (fun h1 => ?_)
    · try simp only [decide_eq_true_eq, decide_eq_false_iff_not, beq_iff_eq, bne_iff_ne, beq_eq_false_iff_ne, bne_eq_false_iff_eq, Bool.not_eq_true', Bool.not_eq_false', Bool.not_eq_eq_eq_not, Bool.not_true, Bool.not_false, ne_eq, Decidable.not_not, Int.not_lt, Int.not_le, gt_iff_lt, ge_iff_le] at h1
      omega
    · skip
      refine WPC.skip ?_
      refine blockQ_n ?_
      refine thenQ_n ?_
      refine WPC.region ?_
      first | refine L_s (q_inc rfl rfl (by omega)) rfl ?_ | refine L_s (q_addI rfl rfl (by omega)) rfl ?_ | refine L_s (q_int rfl rfl rfl) rfl ?_
      refine L_s (q_move rfl) rfl ?_
      refine WPL.nil ?_
      refine thenQ_n ?_
      exact ⟨rfl, _, _, _, by omega, ⟨k + 1, rfl, by omega, rfl, rfl⟩, (by repeat (first | exact trivial | refine ⟨rfl, ?_⟩)), Imp.pick (by repeat (first | exact Pick.nil | apply Pick.keep (by repeat (first | exact List.Mem.head _ | apply List.Mem.tail)) (by first | exact Pers.cells _ _ _ | exact Pers.slv _ _ _) | apply Pick.cons (by repeat (first | exact Pick1.here | apply Pick1.there))))⟩
  · simp only [decide_eq_false_iff_not, Int.ofNat_lt] at h0
    have hk' : k = n := by omega
    have htake : xs.take k = xs := List.take_of_length_le (by omega)
    refine WPC.exit ?_
    refine thenQ_e ?_
    refine thenQ_e ?_
    refine blockQ_here ?_
    refine thenQ_n ?_
    refine WPC.seqR ?_
    refine L_s (q_move rfl) rfl ?_
    rw [show ((xs.take k).flatMap BS.bs) = (xs.flatMap BS.bs) by rw [htake]]
    refine WPL.cons rfl (C1.call (c_call Tryd.func74 rfl rfl rfl) (c_Grow hb) (by repeat (first | exact Pick.nil | apply Pick.keep (by repeat (first | exact List.Mem.head _ | apply List.Mem.tail)) (by first | exact Pers.cells _ _ _ | exact Pers.slv _ _ _) | apply Pick.cons (by repeat (first | exact Pick1.here | apply Pick1.there)))) rfl ?_)
    rintro _ _ ⟨a1, c1, rfl, rfl⟩
    refine WPL.putS ?_
    refine L_s (q_assign rfl) rfl ?_
    refine WPL.nil ?_
    refine WPC.seq ?_
    refine WPC.seqR ?_
    refine L_s (q_move rfl) rfl ?_
    refine L_s (q_len rfl un_sl_sl_uint8 rfl) rfl ?_
    refine L_s (q_move rfl) rfl ?_
    refine WPL.nil ?_
    refine WPC.block ?_
    refine WPC.loopS (fun m e Γ => ∃ (k : Nat) (a2 : Option Addr) (c2 : Nat), m = n - k ∧ k ≤ n ∧ e = [(6, .slice a2 ((xs.take k).flatMap BS.bs).length c2), (25, .slice a n c), (26, .int .i64 (n : Int)), (27, .int .i64 (k : Int))] ∧ Γ = [buf 1 a2 ((xs.take k).flatMap BS.bs).length c2 (((xs.take k).flatMap BS.bs).map u8), sl p a (xs.map bsV), bytes xs]) (n) ⟨0, a1, c1, rfl, by omega, rfl, rfl⟩ (by repeat (first | exact trivial | refine ⟨rfl, ?_⟩)) (Imp.pick (by repeat (first | exact Pick.nil | apply Pick.keep (by repeat (first | exact List.Mem.head _ | apply List.Mem.tail)) (by first | exact Pers.cells _ _ _ | exact Pers.slv _ _ _) | apply Pick.cons (by repeat (first | exact Pick1.here | apply Pick1.there))))) ?_
    clear hk htake
    rintro m e Γ ⟨k, a2, c2, rfl, hk, rfl, rfl⟩
    refine WPC.seqR ?_
    refine L_s (q_int rfl rfl rfl) rfl ?_
    refine WPL.nil ?_
    refine WPC.seq ?_
    refine WPC.cond rfl (fun h2 => ?_) (fun h2 => ?_)
    · simp only [decide_eq_true_eq, Int.ofNat_lt] at h2
      have hp : Pl a := hs.at (by omega) (by omega)
      obtain ⟨x, hx⟩ : ∃ x, xs[k]? = some x := ⟨xs[k]'(by omega), by simp⟩
      have hxo := hok x (List.mem_of_getElem? hx)
      have hxn := hxo.n
      have hsum : ((xs.take k).flatMap BS.bs).length + x.n ≤ (xs.flatMap BS.bs).length := by
        have h1 := catLen_take xs (k + 1)
        rw [take_succ hx, List.flatMap_append, List.length_append] at h1
        simpa [hxn] using h1
      have hsnoc : ((xs.take (k + 1)).flatMap BS.bs) = ((xs.take k).flatMap BS.bs) ++ x.bs := by rw [take_succ hx, List.flatMap_append]; simp
      refine WPC.skip ?_
      refine thenQ_n ?_
      refine WPC.seq ?_
      refine WPC.block ?_
      refine WPC.seqR ?_
      first | refine L_s (q_idxN sl_sl_sl_uint8 rfl rfl (by omega) (by assumption)) rfl ?_ | refine L_s (q_idx sl_sl_sl_uint8 rfl rfl (by omega) (by omega) (by assumption)) rfl ?_
      refine L_s (q_ldMap ld_sl_uint8 rfl (by repeat (first | exact List.Mem.head _ | apply List.Mem.tail)) hx) rfl ?_
      refine L_s (q_assign rfl) rfl ?_
      refine WPL.nil ?_
      refine WPC.region ?_
      refine L_s (q_move rfl) rfl ?_
      refine L_s (q_move rfl) rfl ?_
      refine WPL.imp ((Imp.pick (Δ := [bytes xs, buf 1 a2 ((xs.take k).flatMap BS.bs).length c2 (((xs.take k).flatMap BS.bs).map u8), sl p a (xs.map bsV)]) (by repeat (first | exact Pick.nil | apply Pick.keep (by repeat (first | exact List.Mem.head _ | apply List.Mem.tail)) (by first | exact Pers.cells _ _ _ | exact Pers.slv _ _ _ | exact Pers.bytes _) | apply Pick.cons (by repeat (first | exact Pick1.here | apply Pick1.there))))).trans (bytes_one (List.mem_of_getElem? hx))) ?_
      refine WPL.cons rfl (E1.wpo (e_append (m := x.n) (news := x.bs.map u8) mk_sl_uint8 (by decide) rfl rfl (by repeat (first | exact Pick1.here | apply Pick1.there)) (Rd.mem (p := false) hxo (hxo.none0 (by omega)) (by repeat (first | exact List.Mem.head _ | apply List.Mem.tail))) (u8_one _) (by omega) (by omega)) rfl ?_)
      rintro _ _ ⟨a3, c3, rfl, -, rfl⟩
      rw [show ((xs.take k).flatMap BS.bs).length + x.n = ((xs.take (k + 1)).flatMap BS.bs).length by rw [hsnoc, List.length_append, hxn], show ((xs.take k).flatMap BS.bs).map u8 ++ x.bs.map u8 = ((xs.take (k + 1)).flatMap BS.bs).map u8 by rw [hsnoc, List.map_append]]
      refine WPL.putS ?_
      refine L_s (q_assign rfl) rfl ?_
      refine WPL.nil ?_
      refine blockQ_n ?_
      refine thenQ_n ?_
      refine WPC.region ?_
      first | refine L_s (q_inc rfl rfl (by omega)) rfl ?_ | refine L_s (q_addI rfl rfl (by omega)) rfl ?_ | refine L_s (q_int rfl rfl rfl) rfl ?_
      refine L_s (q_move rfl) rfl ?_
      refine WPL.nil ?_
      refine thenQ_n ?_
      exact ⟨rfl, _, _, _, by omega, ⟨k + 1, a3, c3, rfl, by omega, rfl, rfl⟩, (by repeat (first | exact trivial | refine ⟨rfl, ?_⟩)), Imp.pick (by repeat (first | exact Pick.nil | apply Pick.keep (by repeat (first | exact List.Mem.head _ | apply List.Mem.tail)) (by first | exact Pers.cells _ _ _ | exact Pers.slv _ _ _) | apply Pick.cons (by repeat (first | exact Pick1.here | apply Pick1.there))))⟩
    · simp only [decide_eq_false_iff_not, Int.ofNat_lt] at h2
      have hk' : k = n := by omega
      have htake : xs.take k = xs := List.take_of_length_le (by omega)
      refine WPC.exit ?_
      refine thenQ_e ?_
      refine thenQ_e ?_
      refine blockQ_here ?_
      refine thenQ_n ?_
      refine WPC.seqR ?_
      refine L_s (q_move rfl) rfl ?_
      refine L_s (q_assign rfl) rfl ?_
      refine WPL.nil ?_
      refine WPC.ret ?_
      rw [show ((xs.take k).flatMap BS.bs) = (xs.flatMap BS.bs) by rw [htake]]
      exact endR_r rfl (.tmp rfl .nil) (Imp.pick (by repeat (first | exact Pick.nil | apply Pick.keep (by repeat (first | exact List.Mem.head _ | apply List.Mem.tail)) (by first | exact Pers.cells _ _ _ | exact Pers.slv _ _ _ | exact Pers.bytes _) | apply Pick.cons (by repeat (first | exact Pick1.here | apply Pick1.there))))) ⟨a2, c2, rfl, rfl⟩

theorem c_ends {b o seq epoch : Nat} {xs : List By} (h1 : seq < 4294967296) (h2 : epoch < 4294967296) (hx : xs.length ≤ 100) : Trip Tryd.prog 57 #[.pointer (some ⟨b, o, none⟩), .int .u32 (seq : Int), .int .u32 (epoch : Int)] [wr b o xs] fun r Δ => r = .tuple #[] ∧ Δ = [wr b o (xs ++ le seq 4 ++ le epoch 4)] := by
  refine Trip.start 14 [] [(0, .pointer (some ⟨b, o, none⟩)), (1, .int .u32 (seq : Int)), (2, .int .u32 (epoch : Int))] Tryd.func57 rfl Tryd.ntmps57 rfl ⟨rfl, rfl, rfl, trivial⟩ rfl ?_
  refine WPC.seqR ?_
  refine L_s (q_move rfl) rfl ?_
  refine L_s (q_move rfl) rfl ?_
  first | refine L_s (q_convU in_uint32 in_uint64 rfl (by omega)) rfl ?_ | refine L_s (q_conv in_uint32 in_uint64 rfl) rfl ?_
  refine WPL.cons rfl (C1.call (c_call Tryd.func58 rfl rfl rfl) (c_WNumber (xs := xs) (v := seq) (k := 4) (by omega) (by omega)) (by repeat (first | exact Pick.nil | apply Pick.keep (by repeat (first | exact List.Mem.head _ | apply List.Mem.tail)) (by first | exact Pers.cells _ _ _ | exact Pers.slv _ _ _) | apply Pick.cons (by repeat (first | exact Pick1.here | apply Pick1.there)))) rfl ?_)
  rintro _ _ ⟨rfl, rfl⟩
  refine WPL.putS ?_
  refine WPL.nil ?_
  refine WPC.region ?_
  refine L_s (q_move rfl) rfl ?_
  refine L_s (q_move rfl) rfl ?_
  first | refine L_s (q_convU in_uint32 in_uint64 rfl (by omega)) rfl ?_ | refine L_s (q_conv in_uint32 in_uint64 rfl) rfl ?_
  refine WPL.cons rfl (C1.call (c_call Tryd.func58 rfl rfl rfl) (c_WNumber (xs := xs ++ le seq 4) (v := epoch) (k := 4) (by omega) (by simp [le_length]; omega)) (by repeat (first | exact Pick.nil | apply Pick.keep (by repeat (first | exact List.Mem.head _ | apply List.Mem.tail)) (by first | exact Pers.cells _ _ _ | exact Pers.slv _ _ _) | apply Pick.cons (by repeat (first | exact Pick1.here | apply Pick1.there)))) rfl ?_)
  rintro _ _ ⟨rfl, rfl⟩
  refine WPL.putS ?_
  refine WPL.nil ?_
  exact endR_n rfl .nil (Imp.pick (by repeat (first | exact Pick.nil | apply Pick.keep (by repeat (first | exact List.Mem.head _ | apply List.Mem.tail)) (by first | exact Pers.cells _ _ _ | exact Pers.slv _ _ _ | exact Pers.bytes _) | apply Pick.cons (by repeat (first | exact Pick1.here | apply Pick1.there))))) ⟨rfl, rfl⟩

theorem c_StampLong {a : Option Addr} {c seq epoch : Nat} {xs : List By} (hs : Sok 1 a xs.length c (xs.map u8)) (h1 : seq < 4294967296) (h2 : epoch < 4294967296) (hl : 43 < xs.length) : Trip Tryd.prog 35 #[.int .u32 (seq : Int), .int .u32 (epoch : Int), .slice a xs.length c] [sl false a (xs.map u8)] fun r Δ => r = .tuple #[.slice none 0 0, .int .i64 2] ∧ Δ = [] := by
  refine Trip.start 40 [.tmp 6, .tmp 7] [(0, .int .u32 (seq : Int)), (1, .int .u32 (epoch : Int)), (2, .slice a xs.length c)] Tryd.func35 rfl Tryd.ntmps35 rfl ⟨rfl, rfl, rfl, trivial⟩ rfl ?_
  refine WPC.seqR ?_
  refine L_s (q_assign rfl) rfl ?_
  refine L_s (q_assign rfl) rfl ?_
  refine WPL.nil ?_
  refine WPC.seq ?_
  refine WPC.seqR ?_
  refine L_s (q_move rfl) rfl ?_
  refine L_s (q_len rfl un_sl_uint8 rfl) rfl ?_
  refine L_s (q_int rfl rfl rfl) rfl ?_
  refine WPL.nil ?_
  refine WPC.cond rfl (fun h0 => ?_) (fun h0 => ?_)
  · skip
    refine WPC.seqR ?_
    refine L_s (q_assign rfl) rfl ?_
    refine L_s (q_assign rfl) rfl ?_
    refine WPL.nil ?_
    refine WPC.ret ?_
    refine thenQ_r ?_
    exact endR_r rfl (.tmp rfl (.tmp rfl .nil)) (Imp.pick (by repeat (first | exact Pick.nil | apply Pick.keep (by repeat (first | exact List.Mem.head _ | apply List.Mem.tail)) (by first | exact Pers.cells _ _ _ | exact Pers.slv _ _ _ | exact Pers.bytes _) | apply Pick.cons (by repeat (first | exact Pick1.here | apply Pick1.there))))) ⟨rfl, rfl⟩
  · try simp only [decide_eq_true_eq, decide_eq_false_iff_not, beq_iff_eq, bne_iff_ne, beq_eq_false_iff_ne, bne_eq_false_iff_eq, Bool.not_eq_true', Bool.not_eq_false', Bool.not_eq_eq_eq_not, Bool.not_true, Bool.not_false, ne_eq, Decidable.not_not, Int.not_lt, Int.not_le, gt_iff_lt, ge_iff_le] at h0
    omega

theorem c_Stamp {a : Option Addr} {c seq epoch : Nat} {xs : List By} (hs : Sok 1 a xs.length c (xs.map u8)) (h1 : seq < 4294967296) (h2 : epoch < 4294967296) (hl : xs.length ≤ 43) : Trip Tryd.prog 35 #[.int .u32 (seq : Int), .int .u32 (epoch : Int), .slice a xs.length c] [sl false a (xs.map u8), tblA] fun r Δ => ∃ a' c', r = .tuple #[.slice a' 64 c', .int .i64 0] ∧ Sok 1 a' 64 c' ((stamp seq epoch xs).map u8) ∧ Δ = [sl false a' ((stamp seq epoch xs).map u8)] := by
  have hcap := hs.cap
  refine Trip.start 40 [.tmp 6, .tmp 7] [(0, .int .u32 (seq : Int)), (1, .int .u32 (epoch : Int)), (2, .slice a xs.length c)] Tryd.func35 rfl Tryd.ntmps35 rfl ⟨rfl, rfl, rfl, trivial⟩ rfl ?_
  refine WPC.seqR ?_
  refine L_s (q_assign rfl) rfl ?_
  refine L_s (q_assign rfl) rfl ?_
  refine WPL.nil ?_
  refine WPC.seq ?_
  refine WPC.seqR ?_
  refine L_s (q_move rfl) rfl ?_
  refine L_s (q_len rfl un_sl_uint8 rfl) rfl ?_
  refine L_s (q_int rfl rfl rfl) rfl ?_
  refine WPL.nil ?_
  refine WPC.cond rfl (fun h0 => ?_) (fun h0 => ?_)
  · try simp only [decide_eq_true_eq, decide_eq_false_iff_not, beq_iff_eq, bne_iff_ne, beq_eq_false_iff_ne, bne_eq_false_iff_eq, Bool.not_eq_true', Bool.not_eq_false', Bool.not_eq_eq_eq_not, Bool.not_true, Bool.not_false, ne_eq, Decidable.not_not, Int.not_lt, Int.not_le, gt_iff_lt, ge_iff_le] at h0
    omega
  · skip
    refine WPC.skip ?_
    refine thenQ_n ?_
    refine WPC.seqR ?_
    refine WPL.cons rfl (E1.wpo (e_allocL zl_pack_Writer) rfl ?_)
    rintro _ _ ⟨bW, rfl, rfl⟩
    refine WPL.putS ?_
    refine WPL.nil ?_
    refine WPC.imp (Imp.bufNil (sz := 1)) ?_
    refine WPC.imp ((Imp.pick (by repeat (first | exact Pick.nil | apply Pick.keep (by repeat (first | exact List.Mem.head _ | apply List.Mem.tail)) (by first | exact Pers.cells _ _ _ | exact Pers.slv _ _ _ | exact Pers.bytes _) | apply Pick.cons (by repeat (first | exact Pick1.here | apply Pick1.there))))).trans (wr_close (b := bW) (o := 0) (xs := []) none 0 0 (Γ := [sl false a (xs.map u8), tblA]))) ?_
    refine WPC.seqR ?_
    refine L_s (q_move rfl) rfl ?_
    refine L_s (q_move rfl) rfl ?_
    refine WPL.cons rfl (C1.call (c_call Tryd.func57 rfl rfl rfl) (c_ends (xs := []) h1 h2 (by simp)) (by repeat (first | exact Pick.nil | apply Pick.keep (by repeat (first | exact List.Mem.head _ | apply List.Mem.tail)) (by first | exact Pers.cells _ _ _ | exact Pers.slv _ _ _) | apply Pick.cons (by repeat (first | exact Pick1.here | apply Pick1.there)))) rfl ?_)
    rintro _ _ ⟨rfl, rfl⟩
    rw [List.nil_append]
    refine WPL.putS ?_
    refine WPL.nil ?_
    refine WPC.seqR ?_
    refine L_s (q_move rfl) rfl ?_
    refine L_s (q_len rfl un_sl_uint8 rfl) rfl ?_
    first | refine L_s (q_convU in_int in_uint64 rfl (by omega)) rfl ?_ | refine L_s (q_conv in_int in_uint64 rfl) rfl ?_
    refine WPL.cons rfl (C1.call (c_call Tryd.func58 rfl rfl rfl) (c_WNumber (xs := le seq 4 ++ le epoch 4) (v := xs.length) (k := 1) (by omega) (by simp [le_length])) (by repeat (first | exact Pick.nil | apply Pick.keep (by repeat (first | exact List.Mem.head _ | apply List.Mem.tail)) (by first | exact Pers.cells _ _ _ | exact Pers.slv _ _ _) | apply Pick.cons (by repeat (first | exact Pick1.here | apply Pick1.there)))) rfl ?_)
    rintro _ _ ⟨rfl, rfl⟩
    refine WPL.putS ?_
    refine WPL.nil ?_
    refine WPC.seqD mixed ?_
    refine WPA.takeP 1 rfl (q_move rfl) (by kernel_rfl) (by kernel_rfl) (by kernel_rfl) rfl rfl (.nil _) ?_
    refine WPA.putS ?_
    refine WPA.takeP 2 rfl (q_move rfl) (by kernel_rfl) (by kernel_rfl) (by kernel_rfl) rfl rfl (.nil _) ?_
    refine WPA.putS ?_
    refine WPA.takeP 3 rfl (q_len rfl un_sl_uint8 rfl) (by kernel_rfl) (by kernel_rfl) (by kernel_rfl) rfl rfl (.nil _) ?_
    refine WPA.putS ?_
    first | refine WPA.takeP 4 rfl (q_subI rfl rfl (by omega)) (by kernel_rfl) (by kernel_rfl) (by kernel_rfl) rfl rfl (.nil _) ?_ | refine WPA.takeP 4 rfl (q_int rfl rfl rfl) (by kernel_rfl) (by kernel_rfl) (by kernel_rfl) rfl rfl (.nil _) ?_
    refine WPA.putS ?_
    refine WPA.two 0 5 (by kernel_rfl) ?_ ?_
    · refine Eff.mk 0 [] rfl rfl (by repeat (first | exact .nil | refine .anc rfl ?_ | refine .keep (by repeat (first | exact List.Mem.head _ | apply List.Mem.tail)) ?_)) (C1.call (c_call Tryd.func60 rfl rfl rfl) (c_WOut (xs := le seq 4 ++ le epoch 4 ++ le xs.length 1) (by simp [le_length])) (by repeat (first | exact Pick.nil | apply Pick.keep (by repeat (first | exact List.Mem.head _ | apply List.Mem.tail)) (by first | exact Pers.cells _ _ _ | exact Pers.slv _ _ _) | apply Pick.cons (by repeat (first | exact Pick1.here | apply Pick1.there)))) rfl ?_)
      rintro _ _ ⟨a1, c1, rfl, hs1, rfl⟩
      refine ⟨(.nil _), ?_⟩
      refine WPA.putS ?_
      refine WPA.oneE 5 [] (by kernel_rfl) rfl rfl (by repeat (first | exact .nil | refine .anc rfl ?_ | refine .keep (by repeat (first | exact List.Mem.head _ | apply List.Mem.tail)) ?_)) (E1.wpo (e_make (n := 43 - (xs.length : Int)) (c := 43 - (xs.length : Int)) mk_sl_uint8 (by decide) rfl rfl (by omega) (by omega) (by omega) (by omega)) rfl ?_)
      rintro _ _ ⟨bZ, rfl, rfl⟩
      rw [show (43 - (xs.length : Int)).toNat = 43 - xs.length by omega, repZ8]
      refine ⟨(.nil _), ?_⟩
      refine WPA.putS ?_
      refine WPA.imp (Imp.freeze _ _ _ _) ?_
      refine WPA.oneE 6 [] (by kernel_rfl) rfl rfl (by repeat (first | exact .nil | refine .anc rfl ?_ | refine .keep (by repeat (first | exact List.Mem.head _ | apply List.Mem.tail)) ?_)) (E1.wpo (e_buildSlice mk_sl_sl_uint8 (by decide) rfl rfl rfl) rfl ?_)
      rintro _ _ ⟨bC, rfl, rfl⟩
      refine ⟨(.nil _), ?_⟩
      refine WPA.putS ?_
      refine WPA.imp (bytes_nil.trans ((Imp.pick (Δ := [BS.at_ (⟨(le seq 4 ++ le epoch 4 ++ le xs.length 1), a1, (le seq 4 ++ le epoch 4 ++ le xs.length 1).length, c1⟩ : BS), bytes [], cells true bC 0 ([(⟨(le seq 4 ++ le epoch 4 ++ le xs.length 1), a1, (le seq 4 ++ le epoch 4 ++ le xs.length 1).length, c1⟩ : BS), (⟨xs, a, xs.length, c⟩ : BS), (⟨List.replicate (43 - xs.length) 0, some ⟨bZ, 0, none⟩, 43 - xs.length, 43 - xs.length⟩ : BS)].map bsV), tblA, BS.at_ (⟨xs, a, xs.length, c⟩ : BS), BS.at_ (⟨List.replicate (43 - xs.length) 0, some ⟨bZ, 0, none⟩, 43 - xs.length, 43 - xs.length⟩ : BS)]) (by repeat (first | exact Pick.nil | apply Pick.keep (by repeat (first | exact List.Mem.head _ | apply List.Mem.tail)) (by first | exact Pers.cells _ _ _ | exact Pers.slv _ _ _ | exact Pers.bytes _) | apply Pick.cons (by repeat (first | exact Pick1.here | apply Pick1.there))))).trans (bytes_snoc.trans ((Imp.pick (Δ := [BS.at_ (⟨xs, a, xs.length, c⟩ : BS), bytes [(⟨(le seq 4 ++ le epoch 4 ++ le xs.length 1), a1, (le seq 4 ++ le epoch 4 ++ le xs.length 1).length, c1⟩ : BS)], cells true bC 0 ([(⟨(le seq 4 ++ le epoch 4 ++ le xs.length 1), a1, (le seq 4 ++ le epoch 4 ++ le xs.length 1).length, c1⟩ : BS), (⟨xs, a, xs.length, c⟩ : BS), (⟨List.replicate (43 - xs.length) 0, some ⟨bZ, 0, none⟩, 43 - xs.length, 43 - xs.length⟩ : BS)].map bsV), tblA, BS.at_ (⟨List.replicate (43 - xs.length) 0, some ⟨bZ, 0, none⟩, 43 - xs.length, 43 - xs.length⟩ : BS)]) (by repeat (first | exact Pick.nil | apply Pick.keep (by repeat (first | exact List.Mem.head _ | apply List.Mem.tail)) (by first | exact Pers.cells _ _ _ | exact Pers.slv _ _ _ | exact Pers.bytes _) | apply Pick.cons (by repeat (first | exact Pick1.here | apply Pick1.there))))).trans (bytes_snoc.trans ((Imp.pick (Δ := [BS.at_ (⟨List.replicate (43 - xs.length) 0, some ⟨bZ, 0, none⟩, 43 - xs.length, 43 - xs.length⟩ : BS), bytes [(⟨(le seq 4 ++ le epoch 4 ++ le xs.length 1), a1, (le seq 4 ++ le epoch 4 ++ le xs.length 1).length, c1⟩ : BS), (⟨xs, a, xs.length, c⟩ : BS)], cells true bC 0 ([(⟨(le seq 4 ++ le epoch 4 ++ le xs.length 1), a1, (le seq 4 ++ le epoch 4 ++ le xs.length 1).length, c1⟩ : BS), (⟨xs, a, xs.length, c⟩ : BS), (⟨List.replicate (43 - xs.length) 0, some ⟨bZ, 0, none⟩, 43 - xs.length, 43 - xs.length⟩ : BS)].map bsV), tblA]) (by repeat (first | exact Pick.nil | apply Pick.keep (by repeat (first | exact List.Mem.head _ | apply List.Mem.tail)) (by first | exact Pers.cells _ _ _ | exact Pers.slv _ _ _ | exact Pers.bytes _) | apply Pick.cons (by repeat (first | exact Pick1.here | apply Pick1.there))))).trans (bytes_snoc.trans (Imp.refl _)))))))) ?_
      refine WPA.oneE 7 [] (by kernel_rfl) rfl rfl (by repeat (first | exact .nil | refine .anc rfl ?_ | refine .keep (by repeat (first | exact List.Mem.head _ | apply List.Mem.tail)) ?_)) (C1.call (c_call Tryd.func59 rfl rfl rfl) (c_Concat (p := true) (a := some ⟨bC, 0, none⟩) (n := 3) (c := 3) (xs := [(⟨(le seq 4 ++ le epoch 4 ++ le xs.length 1), a1, (le seq 4 ++ le epoch 4 ++ le xs.length 1).length, c1⟩ : BS), (⟨xs, a, xs.length, c⟩ : BS), (⟨List.replicate (43 - xs.length) 0, some ⟨bZ, 0, none⟩, 43 - xs.length, 43 - xs.length⟩ : BS)]) ⟨rfl, Nat.le_refl _, .inr (Pl.mk _ _)⟩ (by intro y hy; simp only [List.mem_cons, List.not_mem_nil, or_false] at hy; rcases hy with rfl | rfl | rfl <;> first | exact hs1 | exact hs | exact ⟨by simp, Nat.le_refl _, .inr (Pl.mk _ _)⟩) (by omega) (by simp [le_length]; omega)) (by repeat (first | exact Pick.nil | apply Pick.keep (by repeat (first | exact List.Mem.head _ | apply List.Mem.tail)) (by first | exact Pers.cells _ _ _ | exact Pers.slv _ _ _) | apply Pick.cons (by repeat (first | exact Pick1.here | apply Pick1.there)))) rfl ?_)
      rintro _ _ ⟨ah, ch, rfl, rfl⟩
      have hfl : [(⟨(le seq 4 ++ le epoch 4 ++ le xs.length 1), a1, (le seq 4 ++ le epoch 4 ++ le xs.length 1).length, c1⟩ : BS), (⟨xs, a, xs.length, c⟩ : BS), (⟨List.replicate (43 - xs.length) 0, some ⟨bZ, 0, none⟩, 43 - xs.length, 43 - xs.length⟩ : BS)].flatMap BS.bs = stampHead seq epoch xs := by simp [stampHead]
      have hfn : (stampHead seq epoch xs).length = 52 := stampHead_length (by omega)
      rw [hfl, hfn]
      refine ⟨(.nil _), ?_⟩
      refine WPA.putS ?_
      refine WPA.bufRo fun hsh => ?_
      refine WPA.takeP 8 rfl (q_assign rfl) (by kernel_rfl) (by kernel_rfl) (by kernel_rfl) rfl rfl (.nil _) ?_
      refine WPA.putS ?_
      refine WPA.done (by kernel_rfl) ?_
      refine WPC.seqR ?_
      refine WPL.cons rfl (E1.wpo (e_allocL zl_pack_Writer) rfl ?_)
      rintro _ _ ⟨bV, rfl, rfl⟩
      refine WPL.putS ?_
      refine WPL.nil ?_
      refine WPC.imp (Imp.bufNil (sz := 1)) ?_
      refine WPC.imp ((Imp.pick (by repeat (first | exact Pick.nil | apply Pick.keep (by repeat (first | exact List.Mem.head _ | apply List.Mem.tail)) (by first | exact Pers.cells _ _ _ | exact Pers.slv _ _ _ | exact Pers.bytes _) | apply Pick.cons (by repeat (first | exact Pick1.here | apply Pick1.there))))).trans (wr_close (b := bV) (o := 0) (xs := []) none 0 0 (Γ := [sl false ah ((stampHead seq epoch xs).map u8), tblA]))) ?_
      have hcrc := crc_lt (stampHead seq epoch xs)
      refine WPC.prune [(0, _), (1, _), (6, _), (7, _), (9, _), (10, _)] (by repeat (first | exact trivial | refine ⟨rfl, ?_⟩)) ?_
      refine WPC.seqR ?_
      refine L_s (q_move rfl) rfl ?_
      refine WPL.cons rfl (C1.call (c_call Tryd.func61 rfl rfl rfl) (c_Sum (p := false) hsh (by omega)) (by repeat (first | exact Pick.nil | apply Pick.keep (by repeat (first | exact List.Mem.head _ | apply List.Mem.tail)) (by first | exact Pers.cells _ _ _ | exact Pers.slv _ _ _) | apply Pick.cons (by repeat (first | exact Pick1.here | apply Pick1.there)))) rfl ?_)
      rintro _ _ ⟨rfl, rfl⟩
      refine WPL.putS ?_
      first | refine L_s (q_convU in_uint32 in_uint64 rfl (by omega)) rfl ?_ | refine L_s (q_conv in_uint32 in_uint64 rfl) rfl ?_
      refine WPL.cons rfl (C1.call (c_call Tryd.func58 rfl rfl rfl) (c_WNumber (xs := []) (v := crc (stampHead seq epoch xs)) (k := 4) (by omega) (by simp)) (by repeat (first | exact Pick.nil | apply Pick.keep (by repeat (first | exact List.Mem.head _ | apply List.Mem.tail)) (by first | exact Pers.cells _ _ _ | exact Pers.slv _ _ _) | apply Pick.cons (by repeat (first | exact Pick1.here | apply Pick1.there)))) rfl ?_)
      rintro _ _ ⟨rfl, rfl⟩
      rw [List.nil_append]
      refine WPL.putS ?_
      refine WPL.nil ?_
      refine WPC.seqR ?_
      refine L_s (q_move rfl) rfl ?_
      refine L_s (q_move rfl) rfl ?_
      refine WPL.cons rfl (C1.call (c_call Tryd.func57 rfl rfl rfl) (c_ends (xs := le (crc (stampHead seq epoch xs)) 4) h1 h2 (by simp [le_length])) (by repeat (first | exact Pick.nil | apply Pick.keep (by repeat (first | exact List.Mem.head _ | apply List.Mem.tail)) (by first | exact Pers.cells _ _ _ | exact Pers.slv _ _ _) | apply Pick.cons (by repeat (first | exact Pick1.here | apply Pick1.there)))) rfl ?_)
      rintro _ _ ⟨rfl, rfl⟩
      refine WPL.putS ?_
      refine WPL.nil ?_
      refine WPC.seqR ?_
      refine L_s (q_move rfl) rfl ?_
      refine WPL.cons rfl (C1.call (c_call Tryd.func60 rfl rfl rfl) (c_WOut (xs := le (crc (stampHead seq epoch xs)) 4 ++ le seq 4 ++ le epoch 4) (by simp [le_length])) (by repeat (first | exact Pick.nil | apply Pick.keep (by repeat (first | exact List.Mem.head _ | apply List.Mem.tail)) (by first | exact Pers.cells _ _ _ | exact Pers.slv _ _ _) | apply Pick.cons (by repeat (first | exact Pick1.here | apply Pick1.there)))) rfl ?_)
      rintro _ _ ⟨a2, c2, rfl, hs2, rfl⟩
      refine WPL.putS ?_
      refine WPL.cons rfl (E1.wpo (e_buildSlice mk_sl_sl_uint8 (by decide) rfl rfl rfl) rfl ?_)
      rintro _ _ ⟨bD, rfl, rfl⟩
      refine WPL.putS ?_
      refine WPL.imp (bytes_nil.trans ((Imp.pick (Δ := [BS.at_ (⟨stampHead seq epoch xs, ah, 52, ch⟩ : BS), bytes [], cells true bD 0 ([(⟨stampHead seq epoch xs, ah, 52, ch⟩ : BS), (⟨(le (crc (stampHead seq epoch xs)) 4 ++ le seq 4 ++ le epoch 4), a2, (le (crc (stampHead seq epoch xs)) 4 ++ le seq 4 ++ le epoch 4).length, c2⟩ : BS)].map bsV), BS.at_ (⟨(le (crc (stampHead seq epoch xs)) 4 ++ le seq 4 ++ le epoch 4), a2, (le (crc (stampHead seq epoch xs)) 4 ++ le seq 4 ++ le epoch 4).length, c2⟩ : BS)]) (by repeat (first | exact Pick.nil | apply Pick.keep (by repeat (first | exact List.Mem.head _ | apply List.Mem.tail)) (by first | exact Pers.cells _ _ _ | exact Pers.slv _ _ _ | exact Pers.bytes _) | apply Pick.cons (by repeat (first | exact Pick1.here | apply Pick1.there))))).trans (bytes_snoc.trans ((Imp.pick (Δ := [BS.at_ (⟨(le (crc (stampHead seq epoch xs)) 4 ++ le seq 4 ++ le epoch 4), a2, (le (crc (stampHead seq epoch xs)) 4 ++ le seq 4 ++ le epoch 4).length, c2⟩ : BS), bytes [(⟨stampHead seq epoch xs, ah, 52, ch⟩ : BS)], cells true bD 0 ([(⟨stampHead seq epoch xs, ah, 52, ch⟩ : BS), (⟨(le (crc (stampHead seq epoch xs)) 4 ++ le seq 4 ++ le epoch 4), a2, (le (crc (stampHead seq epoch xs)) 4 ++ le seq 4 ++ le epoch 4).length, c2⟩ : BS)].map bsV)]) (by repeat (first | exact Pick.nil | apply Pick.keep (by repeat (first | exact List.Mem.head _ | apply List.Mem.tail)) (by first | exact Pers.cells _ _ _ | exact Pers.slv _ _ _ | exact Pers.bytes _) | apply Pick.cons (by repeat (first | exact Pick1.here | apply Pick1.there))))).trans (bytes_snoc.trans (Imp.refl _)))))) ?_
      refine WPL.cons rfl (C1.call (c_call Tryd.func59 rfl rfl rfl) (c_Concat (p := true) (a := some ⟨bD, 0, none⟩) (n := 2) (c := 2) (xs := [(⟨stampHead seq epoch xs, ah, 52, ch⟩ : BS), (⟨(le (crc (stampHead seq epoch xs)) 4 ++ le seq 4 ++ le epoch 4), a2, (le (crc (stampHead seq epoch xs)) 4 ++ le seq 4 ++ le epoch 4).length, c2⟩ : BS)]) ⟨rfl, Nat.le_refl _, .inr (Pl.mk _ _)⟩ (by intro y hy; simp only [List.mem_cons, List.not_mem_nil, or_false] at hy; rcases hy with rfl | rfl <;> first | exact hsh | exact hs2) (by omega) (by simp [le_length, hfn])) (by repeat (first | exact Pick.nil | apply Pick.keep (by repeat (first | exact List.Mem.head _ | apply List.Mem.tail)) (by first | exact Pers.cells _ _ _ | exact Pers.slv _ _ _) | apply Pick.cons (by repeat (first | exact Pick1.here | apply Pick1.there)))) rfl ?_)
      rintro _ _ ⟨a3, c3, rfl, rfl⟩
      have hf2 : [(⟨stampHead seq epoch xs, ah, 52, ch⟩ : BS), (⟨(le (crc (stampHead seq epoch xs)) 4 ++ le seq 4 ++ le epoch 4), a2, (le (crc (stampHead seq epoch xs)) 4 ++ le seq 4 ++ le epoch 4).length, c2⟩ : BS)].flatMap BS.bs = stamp seq epoch xs := by simp [stamp]
      have hf3 : (stamp seq epoch xs).length = 64 := stamp_length (by omega)
      rw [hf2, hf3]
      refine WPL.bufRo fun hs3 => ?_
      refine WPL.putS ?_
      refine L_s (q_assign rfl) rfl ?_
      refine L_s (q_assign rfl) rfl ?_
      refine WPL.nil ?_
      refine WPC.ret ?_
      exact endR_r rfl (.tmp rfl (.tmp rfl .nil)) (Imp.pick (by repeat (first | exact Pick.nil | apply Pick.keep (by repeat (first | exact List.Mem.head _ | apply List.Mem.tail)) (by first | exact Pers.cells _ _ _ | exact Pers.slv _ _ _ | exact Pers.bytes _) | apply Pick.cons (by repeat (first | exact Pick1.here | apply Pick1.there))))) ⟨a3, c3, rfl, hs3, rfl⟩
    · refine Eff.mk 5 [] rfl rfl (by repeat (first | exact .nil | refine .anc rfl ?_ | refine .keep (by repeat (first | exact List.Mem.head _ | apply List.Mem.tail)) ?_)) (E1.wpo (e_make (n := 43 - (xs.length : Int)) (c := 43 - (xs.length : Int)) mk_sl_uint8 (by decide) rfl rfl (by omega) (by omega) (by omega) (by omega)) rfl ?_)
      rintro _ _ ⟨bZ, rfl, rfl⟩
      rw [show (43 - (xs.length : Int)).toNat = 43 - xs.length by omega, repZ8]
      refine ⟨(.nil _), ?_⟩
      refine WPA.putS ?_
      refine WPA.imp (Imp.freeze _ _ _ _) ?_
      refine WPA.oneE 0 [] (by kernel_rfl) rfl rfl (by repeat (first | exact .nil | refine .anc rfl ?_ | refine .keep (by repeat (first | exact List.Mem.head _ | apply List.Mem.tail)) ?_)) (C1.call (c_call Tryd.func60 rfl rfl rfl) (c_WOut (xs := le seq 4 ++ le epoch 4 ++ le xs.length 1) (by simp [le_length])) (by repeat (first | exact Pick.nil | apply Pick.keep (by repeat (first | exact List.Mem.head _ | apply List.Mem.tail)) (by first | exact Pers.cells _ _ _ | exact Pers.slv _ _ _) | apply Pick.cons (by repeat (first | exact Pick1.here | apply Pick1.there)))) rfl ?_)
      rintro _ _ ⟨a1, c1, rfl, hs1, rfl⟩
      refine ⟨(.nil _), ?_⟩
      refine WPA.putS ?_
      refine WPA.oneE 6 [] (by kernel_rfl) rfl rfl (by repeat (first | exact .nil | refine .anc rfl ?_ | refine .keep (by repeat (first | exact List.Mem.head _ | apply List.Mem.tail)) ?_)) (E1.wpo (e_buildSlice mk_sl_sl_uint8 (by decide) rfl rfl rfl) rfl ?_)
      rintro _ _ ⟨bC, rfl, rfl⟩
      refine ⟨(.nil _), ?_⟩
      refine WPA.putS ?_
      refine WPA.imp (bytes_nil.trans ((Imp.pick (Δ := [BS.at_ (⟨(le seq 4 ++ le epoch 4 ++ le xs.length 1), a1, (le seq 4 ++ le epoch 4 ++ le xs.length 1).length, c1⟩ : BS), bytes [], cells true bC 0 ([(⟨(le seq 4 ++ le epoch 4 ++ le xs.length 1), a1, (le seq 4 ++ le epoch 4 ++ le xs.length 1).length, c1⟩ : BS), (⟨xs, a, xs.length, c⟩ : BS), (⟨List.replicate (43 - xs.length) 0, some ⟨bZ, 0, none⟩, 43 - xs.length, 43 - xs.length⟩ : BS)].map bsV), tblA, BS.at_ (⟨xs, a, xs.length, c⟩ : BS), BS.at_ (⟨List.replicate (43 - xs.length) 0, some ⟨bZ, 0, none⟩, 43 - xs.length, 43 - xs.length⟩ : BS)]) (by repeat (first | exact Pick.nil | apply Pick.keep (by repeat (first | exact List.Mem.head _ | apply List.Mem.tail)) (by first | exact Pers.cells _ _ _ | exact Pers.slv _ _ _ | exact Pers.bytes _) | apply Pick.cons (by repeat (first | exact Pick1.here | apply Pick1.there))))).trans (bytes_snoc.trans ((Imp.pick (Δ := [BS.at_ (⟨xs, a, xs.length, c⟩ : BS), bytes [(⟨(le seq 4 ++ le epoch 4 ++ le xs.length 1), a1, (le seq 4 ++ le epoch 4 ++ le xs.length 1).length, c1⟩ : BS)], cells true bC 0 ([(⟨(le seq 4 ++ le epoch 4 ++ le xs.length 1), a1, (le seq 4 ++ le epoch 4 ++ le xs.length 1).length, c1⟩ : BS), (⟨xs, a, xs.length, c⟩ : BS), (⟨List.replicate (43 - xs.length) 0, some ⟨bZ, 0, none⟩, 43 - xs.length, 43 - xs.length⟩ : BS)].map bsV), tblA, BS.at_ (⟨List.replicate (43 - xs.length) 0, some ⟨bZ, 0, none⟩, 43 - xs.length, 43 - xs.length⟩ : BS)]) (by repeat (first | exact Pick.nil | apply Pick.keep (by repeat (first | exact List.Mem.head _ | apply List.Mem.tail)) (by first | exact Pers.cells _ _ _ | exact Pers.slv _ _ _ | exact Pers.bytes _) | apply Pick.cons (by repeat (first | exact Pick1.here | apply Pick1.there))))).trans (bytes_snoc.trans ((Imp.pick (Δ := [BS.at_ (⟨List.replicate (43 - xs.length) 0, some ⟨bZ, 0, none⟩, 43 - xs.length, 43 - xs.length⟩ : BS), bytes [(⟨(le seq 4 ++ le epoch 4 ++ le xs.length 1), a1, (le seq 4 ++ le epoch 4 ++ le xs.length 1).length, c1⟩ : BS), (⟨xs, a, xs.length, c⟩ : BS)], cells true bC 0 ([(⟨(le seq 4 ++ le epoch 4 ++ le xs.length 1), a1, (le seq 4 ++ le epoch 4 ++ le xs.length 1).length, c1⟩ : BS), (⟨xs, a, xs.length, c⟩ : BS), (⟨List.replicate (43 - xs.length) 0, some ⟨bZ, 0, none⟩, 43 - xs.length, 43 - xs.length⟩ : BS)].map bsV), tblA]) (by repeat (first | exact Pick.nil | apply Pick.keep (by repeat (first | exact List.Mem.head _ | apply List.Mem.tail)) (by first | exact Pers.cells _ _ _ | exact Pers.slv _ _ _ | exact Pers.bytes _) | apply Pick.cons (by repeat (first | exact Pick1.here | apply Pick1.there))))).trans (bytes_snoc.trans (Imp.refl _)))))))) ?_
      refine WPA.oneE 7 [] (by kernel_rfl) rfl rfl (by repeat (first | exact .nil | refine .anc rfl ?_ | refine .keep (by repeat (first | exact List.Mem.head _ | apply List.Mem.tail)) ?_)) (C1.call (c_call Tryd.func59 rfl rfl rfl) (c_Concat (p := true) (a := some ⟨bC, 0, none⟩) (n := 3) (c := 3) (xs := [(⟨(le seq 4 ++ le epoch 4 ++ le xs.length 1), a1, (le seq 4 ++ le epoch 4 ++ le xs.length 1).length, c1⟩ : BS), (⟨xs, a, xs.length, c⟩ : BS), (⟨List.replicate (43 - xs.length) 0, some ⟨bZ, 0, none⟩, 43 - xs.length, 43 - xs.length⟩ : BS)]) ⟨rfl, Nat.le_refl _, .inr (Pl.mk _ _)⟩ (by intro y hy; simp only [List.mem_cons, List.not_mem_nil, or_false] at hy; rcases hy with rfl | rfl | rfl <;> first | exact hs1 | exact hs | exact ⟨by simp, Nat.le_refl _, .inr (Pl.mk _ _)⟩) (by omega) (by simp [le_length]; omega)) (by repeat (first | exact Pick.nil | apply Pick.keep (by repeat (first | exact List.Mem.head _ | apply List.Mem.tail)) (by first | exact Pers.cells _ _ _ | exact Pers.slv _ _ _) | apply Pick.cons (by repeat (first | exact Pick1.here | apply Pick1.there)))) rfl ?_)
      rintro _ _ ⟨ah, ch, rfl, rfl⟩
      have hfl : [(⟨(le seq 4 ++ le epoch 4 ++ le xs.length 1), a1, (le seq 4 ++ le epoch 4 ++ le xs.length 1).length, c1⟩ : BS), (⟨xs, a, xs.length, c⟩ : BS), (⟨List.replicate (43 - xs.length) 0, some ⟨bZ, 0, none⟩, 43 - xs.length, 43 - xs.length⟩ : BS)].flatMap BS.bs = stampHead seq epoch xs := by simp [stampHead]
      have hfn : (stampHead seq epoch xs).length = 52 := stampHead_length (by omega)
      rw [hfl, hfn]
      refine ⟨(.nil _), ?_⟩
      refine WPA.putS ?_
      refine WPA.bufRo fun hsh => ?_
      refine WPA.takeP 8 rfl (q_assign rfl) (by kernel_rfl) (by kernel_rfl) (by kernel_rfl) rfl rfl (.nil _) ?_
      refine WPA.putS ?_
      refine WPA.done (by kernel_rfl) ?_
      refine WPC.seqR ?_
      refine WPL.cons rfl (E1.wpo (e_allocL zl_pack_Writer) rfl ?_)
      rintro _ _ ⟨bV, rfl, rfl⟩
      refine WPL.putS ?_
      refine WPL.nil ?_
      refine WPC.imp (Imp.bufNil (sz := 1)) ?_
      refine WPC.imp ((Imp.pick (by repeat (first | exact Pick.nil | apply Pick.keep (by repeat (first | exact List.Mem.head _ | apply List.Mem.tail)) (by first | exact Pers.cells _ _ _ | exact Pers.slv _ _ _ | exact Pers.bytes _) | apply Pick.cons (by repeat (first | exact Pick1.here | apply Pick1.there))))).trans (wr_close (b := bV) (o := 0) (xs := []) none 0 0 (Γ := [sl false ah ((stampHead seq epoch xs).map u8), tblA]))) ?_
      have hcrc := crc_lt (stampHead seq epoch xs)
      refine WPC.prune [(0, _), (1, _), (6, _), (7, _), (9, _), (10, _)] (by repeat (first | exact trivial | refine ⟨rfl, ?_⟩)) ?_
      refine WPC.seqR ?_
      refine L_s (q_move rfl) rfl ?_
      refine WPL.cons rfl (C1.call (c_call Tryd.func61 rfl rfl rfl) (c_Sum (p := false) hsh (by omega)) (by repeat (first | exact Pick.nil | apply Pick.keep (by repeat (first | exact List.Mem.head _ | apply List.Mem.tail)) (by first | exact Pers.cells _ _ _ | exact Pers.slv _ _ _) | apply Pick.cons (by repeat (first | exact Pick1.here | apply Pick1.there)))) rfl ?_)
      rintro _ _ ⟨rfl, rfl⟩
      refine WPL.putS ?_
      first | refine L_s (q_convU in_uint32 in_uint64 rfl (by omega)) rfl ?_ | refine L_s (q_conv in_uint32 in_uint64 rfl) rfl ?_
      refine WPL.cons rfl (C1.call (c_call Tryd.func58 rfl rfl rfl) (c_WNumber (xs := []) (v := crc (stampHead seq epoch xs)) (k := 4) (by omega) (by simp)) (by repeat (first | exact Pick.nil | apply Pick.keep (by repeat (first | exact List.Mem.head _ | apply List.Mem.tail)) (by first | exact Pers.cells _ _ _ | exact Pers.slv _ _ _) | apply Pick.cons (by repeat (first | exact Pick1.here | apply Pick1.there)))) rfl ?_)
      rintro _ _ ⟨rfl, rfl⟩
      rw [List.nil_append]
      refine WPL.putS ?_
      refine WPL.nil ?_
      refine WPC.seqR ?_
      refine L_s (q_move rfl) rfl ?_
      refine L_s (q_move rfl) rfl ?_
      refine WPL.cons rfl (C1.call (c_call Tryd.func57 rfl rfl rfl) (c_ends (xs := le (crc (stampHead seq epoch xs)) 4) h1 h2 (by simp [le_length])) (by repeat (first | exact Pick.nil | apply Pick.keep (by repeat (first | exact List.Mem.head _ | apply List.Mem.tail)) (by first | exact Pers.cells _ _ _ | exact Pers.slv _ _ _) | apply Pick.cons (by repeat (first | exact Pick1.here | apply Pick1.there)))) rfl ?_)
      rintro _ _ ⟨rfl, rfl⟩
      refine WPL.putS ?_
      refine WPL.nil ?_
      refine WPC.seqR ?_
      refine L_s (q_move rfl) rfl ?_
      refine WPL.cons rfl (C1.call (c_call Tryd.func60 rfl rfl rfl) (c_WOut (xs := le (crc (stampHead seq epoch xs)) 4 ++ le seq 4 ++ le epoch 4) (by simp [le_length])) (by repeat (first | exact Pick.nil | apply Pick.keep (by repeat (first | exact List.Mem.head _ | apply List.Mem.tail)) (by first | exact Pers.cells _ _ _ | exact Pers.slv _ _ _) | apply Pick.cons (by repeat (first | exact Pick1.here | apply Pick1.there)))) rfl ?_)
      rintro _ _ ⟨a2, c2, rfl, hs2, rfl⟩
      refine WPL.putS ?_
      refine WPL.cons rfl (E1.wpo (e_buildSlice mk_sl_sl_uint8 (by decide) rfl rfl rfl) rfl ?_)
      rintro _ _ ⟨bD, rfl, rfl⟩
      refine WPL.putS ?_
      refine WPL.imp (bytes_nil.trans ((Imp.pick (Δ := [BS.at_ (⟨stampHead seq epoch xs, ah, 52, ch⟩ : BS), bytes [], cells true bD 0 ([(⟨stampHead seq epoch xs, ah, 52, ch⟩ : BS), (⟨(le (crc (stampHead seq epoch xs)) 4 ++ le seq 4 ++ le epoch 4), a2, (le (crc (stampHead seq epoch xs)) 4 ++ le seq 4 ++ le epoch 4).length, c2⟩ : BS)].map bsV), BS.at_ (⟨(le (crc (stampHead seq epoch xs)) 4 ++ le seq 4 ++ le epoch 4), a2, (le (crc (stampHead seq epoch xs)) 4 ++ le seq 4 ++ le epoch 4).length, c2⟩ : BS)]) (by repeat (first | exact Pick.nil | apply Pick.keep (by repeat (first | exact List.Mem.head _ | apply List.Mem.tail)) (by first | exact Pers.cells _ _ _ | exact Pers.slv _ _ _ | exact Pers.bytes _) | apply Pick.cons (by repeat (first | exact Pick1.here | apply Pick1.there))))).trans (bytes_snoc.trans ((Imp.pick (Δ := [BS.at_ (⟨(le (crc (stampHead seq epoch xs)) 4 ++ le seq 4 ++ le epoch 4), a2, (le (crc (stampHead seq epoch xs)) 4 ++ le seq 4 ++ le epoch 4).length, c2⟩ : BS), bytes [(⟨stampHead seq epoch xs, ah, 52, ch⟩ : BS)], cells true bD 0 ([(⟨stampHead seq epoch xs, ah, 52, ch⟩ : BS), (⟨(le (crc (stampHead seq epoch xs)) 4 ++ le seq 4 ++ le epoch 4), a2, (le (crc (stampHead seq epoch xs)) 4 ++ le seq 4 ++ le epoch 4).length, c2⟩ : BS)].map bsV)]) (by repeat (first | exact Pick.nil | apply Pick.keep (by repeat (first | exact List.Mem.head _ | apply List.Mem.tail)) (by first | exact Pers.cells _ _ _ | exact Pers.slv _ _ _ | exact Pers.bytes _) | apply Pick.cons (by repeat (first | exact Pick1.here | apply Pick1.there))))).trans (bytes_snoc.trans (Imp.refl _)))))) ?_
      refine WPL.cons rfl (C1.call (c_call Tryd.func59 rfl rfl rfl) (c_Concat (p := true) (a := some ⟨bD, 0, none⟩) (n := 2) (c := 2) (xs := [(⟨stampHead seq epoch xs, ah, 52, ch⟩ : BS), (⟨(le (crc (stampHead seq epoch xs)) 4 ++ le seq 4 ++ le epoch 4), a2, (le (crc (stampHead seq epoch xs)) 4 ++ le seq 4 ++ le epoch 4).length, c2⟩ : BS)]) ⟨rfl, Nat.le_refl _, .inr (Pl.mk _ _)⟩ (by intro y hy; simp only [List.mem_cons, List.not_mem_nil, or_false] at hy; rcases hy with rfl | rfl <;> first | exact hsh | exact hs2) (by omega) (by simp [le_length, hfn])) (by repeat (first | exact Pick.nil | apply Pick.keep (by repeat (first | exact List.Mem.head _ | apply List.Mem.tail)) (by first | exact Pers.cells _ _ _ | exact Pers.slv _ _ _) | apply Pick.cons (by repeat (first | exact Pick1.here | apply Pick1.there)))) rfl ?_)
      rintro _ _ ⟨a3, c3, rfl, rfl⟩
      have hf2 : [(⟨stampHead seq epoch xs, ah, 52, ch⟩ : BS), (⟨(le (crc (stampHead seq epoch xs)) 4 ++ le seq 4 ++ le epoch 4), a2, (le (crc (stampHead seq epoch xs)) 4 ++ le seq 4 ++ le epoch 4).length, c2⟩ : BS)].flatMap BS.bs = stamp seq epoch xs := by simp [stamp]
      have hf3 : (stamp seq epoch xs).length = 64 := stamp_length (by omega)
      rw [hf2, hf3]
      refine WPL.bufRo fun hs3 => ?_
      refine WPL.putS ?_
      refine L_s (q_assign rfl) rfl ?_
      refine L_s (q_assign rfl) rfl ?_
      refine WPL.nil ?_
      refine WPC.ret ?_
      exact endR_r rfl (.tmp rfl (.tmp rfl .nil)) (Imp.pick (by repeat (first | exact Pick.nil | apply Pick.keep (by repeat (first | exact List.Mem.head _ | apply List.Mem.tail)) (by first | exact Pers.cells _ _ _ | exact Pers.slv _ _ _ | exact Pers.bytes _) | apply Pick.cons (by repeat (first | exact Pick1.here | apply Pick1.there))))) ⟨a3, c3, rfl, hs3, rfl⟩

theorem c_Parse {a : Option Addr} {c : Nat} (s : Sec) (hs : Sok 1 a 64 c (s.1.map u8)) : Trip Tryd.prog 69 #[.slice a 64 c] [sl false a (s.1.map u8), tblA] fun r Δ => match parse s.1 with | some (seq, ep, xs) => (∃ a' c', r = .tuple #[.int .u32 (seq : Int), .int .u32 (ep : Int), .slice a' xs.length c', .bool true] ∧ Sok 1 a' xs.length c' (xs.map u8) ∧ Δ = [sl false a' (xs.map u8)]) | none => r = .tuple #[.int .u32 0, .int .u32 0, .slice none 0 0, .bool false] ∧ Δ = [] := by
  have hcap := hs.cap
  have hsl := s.2
  have s1 := hs.cutB (l := 0) (k := 52) (m := c) (by omega) (by omega) (by omega)
  have s2 := hs.cutB (l := 52) (k := 64) (m := c) (by omega) (by omega) (by omega)
  have i1 := Imp.cutRo hs (l := 0) (k := 52) (m := c) (Γ := [tblA]) (by omega) (by omega) (by omega)
  have i2 := Imp.cutRo hs (l := 52) (k := 64) (m := c) (Γ := [sl false a ((s.1.take 52).map u8), tblA]) (by omega) (by omega) (by omega)
  simp only [List.drop_zero, Nat.sub_zero, Nat.zero_mul, cut_zero] at s1 i1
  have e52 : (s.1.drop 52).take (64 - 52) = s.1.drop 52 := List.take_of_length_le (by simp; omega)
  rw [e52] at s2 i2
  refine Trip.imp (i1.trans ((Imp.perm (.swap _ _ _)).trans i2)) ?_
  have hN0 := num_lt s.1 0 4
  have hN4 := num_lt s.1 4 4
  have hN8 := num_lt s.1 8 1
  have hN52 := num_lt s.1 52 4
  have hN56 := num_lt s.1 56 4
  have hN60 := num_lt s.1 60 4
  simp only [num] at hN0 hN4 hN8 hN52 hN56 hN60
  refine Trip.start 69 [.tmp 2, .tmp 3, .tmp 4, .tmp 5] [(0, .slice a 64 c)] Tryd.func69 rfl Tryd.ntmps69 rfl ⟨rfl, trivial⟩ rfl ?_
  refine WPC.seqR ?_
  refine L_s (q_assign rfl) rfl ?_
  refine L_s (q_assign rfl) rfl ?_
  refine L_s (q_assign rfl) rfl ?_
  refine L_s (q_assign rfl) rfl ?_
  refine WPL.nil ?_
  refine WPC.seq ?_
  refine WPC.seqR ?_
  refine L_s (q_move rfl) rfl ?_
  refine L_s (q_len rfl un_sl_uint8 rfl) rfl ?_
  refine L_s (q_int rfl rfl rfl) rfl ?_
  refine WPL.nil ?_
  refine WPC.cond rfl (fun h0 => ?_) (fun h0 => ?_)
  · try simp only [decide_eq_true_eq, decide_eq_false_iff_not, beq_iff_eq, bne_iff_ne, beq_eq_false_iff_ne, bne_eq_false_iff_eq, Bool.not_eq_true', Bool.not_eq_false', Bool.not_eq_eq_eq_not, Bool.not_true, Bool.not_false, ne_eq, Decidable.not_not, Int.not_lt, Int.not_le, gt_iff_lt, ge_iff_le] at h0
    simp at h0
  · skip
    refine WPC.skip ?_
    refine thenQ_n ?_
    refine WPC.seqD mixed ?_
    refine WPA.takeP 0 rfl (q_move rfl) (by kernel_rfl) (by kernel_rfl) (by kernel_rfl) rfl rfl (.nil _) ?_
    refine WPA.putS ?_
    refine WPA.takeP 1 rfl (q_sliceHi (j := 52) sl_sl_uint8 rfl rfl (by omega)) (by kernel_rfl) (by kernel_rfl) (by kernel_rfl) rfl rfl (.nil _) ?_
    refine WPA.putS ?_
    refine WPA.takeP 3 rfl (q_move rfl) (by kernel_rfl) (by kernel_rfl) (by kernel_rfl) rfl rfl (.nil _) ?_
    refine WPA.putS ?_
    refine WPA.takeP 4 rfl (q_sliceLoC (l := 52) sl_sl_uint8 rfl rfl (by omega) (by omega)) (by kernel_rfl) (by kernel_rfl) (by kernel_rfl) rfl rfl (.nil _) ?_
    refine WPA.putS ?_
    refine WPA.oneE 2 [] (by kernel_rfl) rfl rfl (by repeat (first | exact .nil | refine .anc rfl ?_ | refine .keep (by repeat (first | exact List.Mem.head _ | apply List.Mem.tail)) ?_)) (C1.call (c_call Tryd.func65 rfl rfl rfl) (c_Read s1) (by repeat (first | exact Pick.nil | apply Pick.keep (by repeat (first | exact List.Mem.head _ | apply List.Mem.tail)) (by first | exact Pers.cells _ _ _ | exact Pers.slv _ _ _) | apply Pick.cons (by repeat (first | exact Pick1.here | apply Pick1.there)))) rfl ?_)
    rintro _ _ ⟨bh, rfl, rfl⟩
    refine ⟨(.nil _), ?_⟩
    refine WPA.putS ?_
    refine WPA.oneE 5 [] (by kernel_rfl) rfl rfl (by repeat (first | exact .nil | refine .anc rfl ?_ | refine .keep (by repeat (first | exact List.Mem.head _ | apply List.Mem.tail)) ?_)) (C1.call (c_call Tryd.func65 rfl rfl rfl) (c_Read s2) (by repeat (first | exact Pick.nil | apply Pick.keep (by repeat (first | exact List.Mem.head _ | apply List.Mem.tail)) (by first | exact Pers.cells _ _ _ | exact Pers.slv _ _ _) | apply Pick.cons (by repeat (first | exact Pick1.here | apply Pick1.there)))) rfl ?_)
    rintro _ _ ⟨bt, rfl, rfl⟩
    refine ⟨(.nil _), ?_⟩
    refine WPA.putS ?_
    refine WPA.takeP 6 rfl (q_assign rfl) (by kernel_rfl) (by kernel_rfl) (by kernel_rfl) rfl rfl (.nil _) ?_
    refine WPA.putS ?_
    refine WPA.takeP 7 rfl (q_assign rfl) (by kernel_rfl) (by kernel_rfl) (by kernel_rfl) rfl rfl (.nil _) ?_
    refine WPA.putS ?_
    refine WPA.done (by kernel_rfl) ?_
    refine WPC.seqR ?_
    refine L_s (q_move rfl) rfl ?_
    refine WPL.cons rfl (C1.call (c_call Tryd.func66 rfl rfl rfl) (c_RNumber (k := 4) (xs := (s.1.take 52).drop 0) (sh := false) (by omega) (by simp; omega)) (by repeat (first | exact Pick.nil | apply Pick.keep (by repeat (first | exact List.Mem.head _ | apply List.Mem.tail)) (by first | exact Pers.cells _ _ _ | exact Pers.slv _ _ _) | apply Pick.cons (by repeat (first | exact Pick1.here | apply Pick1.there)))) rfl ?_)
    rintro _ _ ⟨rfl, rfl⟩
    simp only [show rtake ((s.1.take 52).drop 0) false 4 = (part s.1 0 4, (s.1.take 52).drop 4, false) from head_num hsl 0 4 (by omega)]
    refine WPL.putS ?_
    first | refine L_s (q_conv32 in_uint64 in_uint32 rfl (by omega)) rfl ?_ | refine L_s (q_conv in_uint64 in_uint32 rfl) rfl ?_
    refine L_s (q_move rfl) rfl ?_
    refine WPL.cons rfl (C1.call (c_call Tryd.func66 rfl rfl rfl) (c_RNumber (k := 4) (xs := (s.1.take 52).drop 4) (sh := false) (by omega) (by simp; omega)) (by repeat (first | exact Pick.nil | apply Pick.keep (by repeat (first | exact List.Mem.head _ | apply List.Mem.tail)) (by first | exact Pers.cells _ _ _ | exact Pers.slv _ _ _) | apply Pick.cons (by repeat (first | exact Pick1.here | apply Pick1.there)))) rfl ?_)
    rintro _ _ ⟨rfl, rfl⟩
    simp only [show rtake ((s.1.take 52).drop 4) false 4 = (part s.1 4 4, (s.1.take 52).drop 8, false) from head_num hsl 4 4 (by omega)]
    refine WPL.putS ?_
    first | refine L_s (q_conv32 in_uint64 in_uint32 rfl (by omega)) rfl ?_ | refine L_s (q_conv in_uint64 in_uint32 rfl) rfl ?_
    refine L_s (q_assign rfl) rfl ?_
    refine L_s (q_assign rfl) rfl ?_
    refine WPL.nil ?_
    refine WPC.seqR ?_
    refine L_s (q_move rfl) rfl ?_
    refine WPL.cons rfl (C1.call (c_call Tryd.func66 rfl rfl rfl) (c_RNumber (k := 1) (xs := (s.1.take 52).drop 8) (sh := false) (by omega) (by simp; omega)) (by repeat (first | exact Pick.nil | apply Pick.keep (by repeat (first | exact List.Mem.head _ | apply List.Mem.tail)) (by first | exact Pers.cells _ _ _ | exact Pers.slv _ _ _) | apply Pick.cons (by repeat (first | exact Pick1.here | apply Pick1.there)))) rfl ?_)
    rintro _ _ ⟨rfl, rfl⟩
    simp only [show rtake ((s.1.take 52).drop 8) false 1 = (part s.1 8 1, (s.1.take 52).drop 9, false) from head_num hsl 8 1 (by omega)]
    refine WPL.putS ?_
    first | refine L_s (q_convI in_uint64 in_int rfl (by omega)) rfl ?_ | refine L_s (q_conv in_uint64 in_int rfl) rfl ?_
    refine L_s (q_assign rfl) rfl ?_
    refine WPL.nil ?_
    refine WPC.prune [(0, _), (2, _), (3, _), (4, _), (5, _), (7, _), (8, _)] (by repeat (first | exact trivial | refine ⟨rfl, ?_⟩)) ?_
    refine WPC.seqR ?_
    refine L_s (q_move rfl) rfl ?_
    refine WPL.cons rfl (C1.call (c_call Tryd.func66 rfl rfl rfl) (c_RNumber (k := 4) (xs := (s.1.drop 52).drop 0) (sh := false) (by omega) (by simp; omega)) (by repeat (first | exact Pick.nil | apply Pick.keep (by repeat (first | exact List.Mem.head _ | apply List.Mem.tail)) (by first | exact Pers.cells _ _ _ | exact Pers.slv _ _ _) | apply Pick.cons (by repeat (first | exact Pick1.here | apply Pick1.there)))) rfl ?_)
    rintro _ _ ⟨rfl, rfl⟩
    simp only [show rtake ((s.1.drop 52).drop 0) false 4 = (part s.1 52 4, (s.1.drop 52).drop 4, false) from tail_num hsl 0 4 (by omega)]
    refine WPL.putS ?_
    first | refine L_s (q_conv32 in_uint64 in_uint32 rfl (by omega)) rfl ?_ | refine L_s (q_conv in_uint64 in_uint32 rfl) rfl ?_
    refine L_s (q_assign rfl) rfl ?_
    refine WPL.nil ?_
    refine WPC.seqR ?_
    refine L_s (q_move rfl) rfl ?_
    refine WPL.cons rfl (C1.call (c_call Tryd.func66 rfl rfl rfl) (c_RNumber (k := 4) (xs := (s.1.drop 52).drop 4) (sh := false) (by omega) (by simp; omega)) (by repeat (first | exact Pick.nil | apply Pick.keep (by repeat (first | exact List.Mem.head _ | apply List.Mem.tail)) (by first | exact Pers.cells _ _ _ | exact Pers.slv _ _ _) | apply Pick.cons (by repeat (first | exact Pick1.here | apply Pick1.there)))) rfl ?_)
    rintro _ _ ⟨rfl, rfl⟩
    simp only [show rtake ((s.1.drop 52).drop 4) false 4 = (part s.1 56 4, (s.1.drop 52).drop 8, false) from tail_num hsl 4 4 (by omega)]
    refine WPL.putS ?_
    first | refine L_s (q_conv32 in_uint64 in_uint32 rfl (by omega)) rfl ?_ | refine L_s (q_conv in_uint64 in_uint32 rfl) rfl ?_
    refine L_s (q_move rfl) rfl ?_
    refine WPL.cons rfl (C1.call (c_call Tryd.func66 rfl rfl rfl) (c_RNumber (k := 4) (xs := (s.1.drop 52).drop 8) (sh := false) (by omega) (by simp; omega)) (by repeat (first | exact Pick.nil | apply Pick.keep (by repeat (first | exact List.Mem.head _ | apply List.Mem.tail)) (by first | exact Pers.cells _ _ _ | exact Pers.slv _ _ _) | apply Pick.cons (by repeat (first | exact Pick1.here | apply Pick1.there)))) rfl ?_)
    rintro _ _ ⟨rfl, rfl⟩
    simp only [show rtake ((s.1.drop 52).drop 8) false 4 = (part s.1 60 4, (s.1.drop 52).drop 12, false) from tail_num hsl 8 4 (by omega)]
    refine WPL.putS ?_
    first | refine L_s (q_conv32 in_uint64 in_uint32 rfl (by omega)) rfl ?_ | refine L_s (q_conv in_uint64 in_uint32 rfl) rfl ?_
    refine L_s (q_assign rfl) rfl ?_
    refine L_s (q_assign rfl) rfl ?_
    refine WPL.nil ?_
    refine WPC.seq ?_
    refine WPC.seqR ?_
    refine L_s (q_move rfl) rfl ?_
    refine L_s (q_int rfl rfl rfl) rfl ?_
    refine L_s (q_move rfl) rfl ?_
    apply WPL.joinO (e' := [(0, _), (2, _), (3, _), (4, _), (5, _), (8, _), (9, _), (11, _)]) 41 45 4 rfl
    · intro g8_2
      try simp only [decide_eq_true_eq, decide_eq_false_iff_not, beq_iff_eq, bne_iff_ne, beq_eq_false_iff_ne, bne_eq_false_iff_eq, Bool.not_eq_true', Bool.not_eq_false', Bool.not_eq_eq_eq_not, Bool.not_true, Bool.not_false, ne_eq, Decidable.not_not, Int.not_lt, Int.not_le, gt_iff_lt, ge_iff_le] at g8_2
      refine L_no rfl rfl rfl rfl ?_
      refine L_no rfl rfl rfl rfl ?_
      refine L_no rfl rfl rfl rfl ?_
      first | refine L_s (q_pickT rfl rfl) rfl ?_ | refine L_s (q_pickF rfl rfl) rfl ?_
      first | exact WPL.jn rfl rfl (by repeat (first | exact trivial | refine ⟨rfl, ?_⟩)) | exact WPL.jnI rfl rfl (by repeat (first | exact trivial | refine ⟨rfl, ?_⟩)) (Imp.pick (by repeat (first | exact Pick.nil | apply Pick.keep (by repeat (first | exact List.Mem.head _ | apply List.Mem.tail)) (by first | exact Pers.cells _ _ _ | exact Pers.slv _ _ _) | apply Pick.cons (by repeat (first | exact Pick1.here | apply Pick1.there)))))
    · intro g8_2
      try simp only [decide_eq_true_eq, decide_eq_false_iff_not, beq_iff_eq, bne_iff_ne, beq_eq_false_iff_ne, bne_eq_false_iff_eq, Bool.not_eq_true', Bool.not_eq_false', Bool.not_eq_eq_eq_not, Bool.not_true, Bool.not_false, ne_eq, Decidable.not_not, Int.not_lt, Int.not_le, gt_iff_lt, ge_iff_le] at g8_2
      refine L_yes rfl rfl (q_move rfl) rfl ?_
      refine L_yes rfl rfl (q_move rfl) rfl ?_
      refine L_yes rfl rfl (q_int rfl rfl rfl) rfl ?_
      first | refine L_s (q_pickT rfl rfl) rfl ?_ | refine L_s (q_pickF rfl rfl) rfl ?_
      first | exact WPL.jn rfl rfl (by repeat (first | exact trivial | refine ⟨rfl, ?_⟩)) | exact WPL.jnI rfl rfl (by repeat (first | exact trivial | refine ⟨rfl, ?_⟩)) (Imp.pick (by repeat (first | exact Pick.nil | apply Pick.keep (by repeat (first | exact List.Mem.head _ | apply List.Mem.tail)) (by first | exact Pers.cells _ _ _ | exact Pers.slv _ _ _) | apply Pick.cons (by repeat (first | exact Pick1.here | apply Pick1.there)))))
    refine L_s (q_move rfl) rfl ?_
    apply WPL.joinO (e' := [(0, _), (2, _), (3, _), (4, _), (5, _), (8, _), (9, _)]) 46 50 4 rfl
    · intro g8_7
      try simp only [decide_eq_true_eq, decide_eq_false_iff_not, beq_iff_eq, bne_iff_ne, beq_eq_false_iff_ne, bne_eq_false_iff_eq, Bool.not_eq_true', Bool.not_eq_false', Bool.not_eq_eq_eq_not, Bool.not_true, Bool.not_false, ne_eq, Decidable.not_not, Int.not_lt, Int.not_le, gt_iff_lt, ge_iff_le] at g8_7
      refine L_no rfl rfl rfl rfl ?_
      refine L_no rfl rfl rfl rfl ?_
      refine L_no rfl rfl rfl rfl ?_
      first | refine L_s (q_pickT rfl rfl) rfl ?_ | refine L_s (q_pickF rfl rfl) rfl ?_
      first | exact WPL.jn rfl rfl (by repeat (first | exact trivial | refine ⟨rfl, ?_⟩)) | exact WPL.jnI rfl rfl (by repeat (first | exact trivial | refine ⟨rfl, ?_⟩)) (Imp.pick (by repeat (first | exact Pick.nil | apply Pick.keep (by repeat (first | exact List.Mem.head _ | apply List.Mem.tail)) (by first | exact Pers.cells _ _ _ | exact Pers.slv _ _ _) | apply Pick.cons (by repeat (first | exact Pick1.here | apply Pick1.there)))))
    · intro g8_7
      try simp only [decide_eq_true_eq, decide_eq_false_iff_not, beq_iff_eq, bne_iff_ne, beq_eq_false_iff_ne, bne_eq_false_iff_eq, Bool.not_eq_true', Bool.not_eq_false', Bool.not_eq_eq_eq_not, Bool.not_true, Bool.not_false, ne_eq, Decidable.not_not, Int.not_lt, Int.not_le, gt_iff_lt, ge_iff_le] at g8_7
      refine L_yes rfl rfl (q_move rfl) rfl ?_
      refine L_yes rfl rfl (q_move rfl) rfl ?_
      refine L_yes rfl rfl (q_int rfl rfl rfl) rfl ?_
      first | refine L_s (q_pickT rfl rfl) rfl ?_ | refine L_s (q_pickF rfl rfl) rfl ?_
      first | exact WPL.jn rfl rfl (by repeat (first | exact trivial | refine ⟨rfl, ?_⟩)) | exact WPL.jnI rfl rfl (by repeat (first | exact trivial | refine ⟨rfl, ?_⟩)) (Imp.pick (by repeat (first | exact Pick.nil | apply Pick.keep (by repeat (first | exact List.Mem.head _ | apply List.Mem.tail)) (by first | exact Pers.cells _ _ _ | exact Pers.slv _ _ _) | apply Pick.cons (by repeat (first | exact Pick1.here | apply Pick1.there)))))
    refine L_s (q_move rfl) rfl ?_
    apply WPL.joinO (e' := [(0, _), (2, _), (3, _), (4, _), (5, _), (8, _), (9, _)]) 51 54 3 rfl
    · intro g8_12
      try simp only [decide_eq_true_eq, decide_eq_false_iff_not, beq_iff_eq, bne_iff_ne, beq_eq_false_iff_ne, bne_eq_false_iff_eq, Bool.not_eq_true', Bool.not_eq_false', Bool.not_eq_eq_eq_not, Bool.not_true, Bool.not_false, ne_eq, Decidable.not_not, Int.not_lt, Int.not_le, gt_iff_lt, ge_iff_le] at g8_12
      refine L_no rfl rfl rfl rfl ?_
      refine L_no rfl rfl rfl rfl ?_
      first | refine L_s (q_pickT rfl rfl) rfl ?_ | refine L_s (q_pickF rfl rfl) rfl ?_
      first | exact WPL.jn rfl rfl (by repeat (first | exact trivial | refine ⟨rfl, ?_⟩)) | exact WPL.jnI rfl rfl (by repeat (first | exact trivial | refine ⟨rfl, ?_⟩)) (Imp.pick (by repeat (first | exact Pick.nil | apply Pick.keep (by repeat (first | exact List.Mem.head _ | apply List.Mem.tail)) (by first | exact Pers.cells _ _ _ | exact Pers.slv _ _ _) | apply Pick.cons (by repeat (first | exact Pick1.here | apply Pick1.there)))))
    · intro g8_12
      try simp only [decide_eq_true_eq, decide_eq_false_iff_not, beq_iff_eq, bne_iff_ne, beq_eq_false_iff_ne, bne_eq_false_iff_eq, Bool.not_eq_true', Bool.not_eq_false', Bool.not_eq_eq_eq_not, Bool.not_true, Bool.not_false, ne_eq, Decidable.not_not, Int.not_lt, Int.not_le, gt_iff_lt, ge_iff_le] at g8_12
      refine L_yes rfl rfl (q_move rfl) rfl ?_
      refine L_yes rfl rfl (q_int rfl rfl rfl) rfl ?_
      first | refine L_s (q_pickT rfl rfl) rfl ?_ | refine L_s (q_pickF rfl rfl) rfl ?_
      first | exact WPL.jn rfl rfl (by repeat (first | exact trivial | refine ⟨rfl, ?_⟩)) | exact WPL.jnI rfl rfl (by repeat (first | exact trivial | refine ⟨rfl, ?_⟩)) (Imp.pick (by repeat (first | exact Pick.nil | apply Pick.keep (by repeat (first | exact List.Mem.head _ | apply List.Mem.tail)) (by first | exact Pers.cells _ _ _ | exact Pers.slv _ _ _) | apply Pick.cons (by repeat (first | exact Pick1.here | apply Pick1.there)))))
    refine L_s (q_move rfl) rfl ?_
    apply WPL.joinO (e' := [(0, _), (2, _), (3, _), (4, _), (5, _), (8, _)]) 55 61 6 rfl
    · intro g8_16
      try simp only [decide_eq_true_eq, decide_eq_false_iff_not, beq_iff_eq, bne_iff_ne, beq_eq_false_iff_ne, bne_eq_false_iff_eq, Bool.not_eq_true', Bool.not_eq_false', Bool.not_eq_eq_eq_not, Bool.not_true, Bool.not_false, ne_eq, Decidable.not_not, Int.not_lt, Int.not_le, gt_iff_lt, ge_iff_le] at g8_16
      refine L_no rfl rfl rfl rfl ?_
      refine L_no rfl rfl rfl rfl ?_
      refine L_no rfl rfl rfl rfl ?_
      refine L_no rfl rfl rfl rfl ?_
      refine L_no rfl rfl rfl rfl ?_
      first | refine L_s (q_pickT rfl rfl) rfl ?_ | refine L_s (q_pickF rfl rfl) rfl ?_
      first | exact WPL.jn rfl rfl (by repeat (first | exact trivial | refine ⟨rfl, ?_⟩)) | exact WPL.jnI rfl rfl (by repeat (first | exact trivial | refine ⟨rfl, ?_⟩)) (Imp.pick (by repeat (first | exact Pick.nil | apply Pick.keep (by repeat (first | exact List.Mem.head _ | apply List.Mem.tail)) (by first | exact Pers.cells _ _ _ | exact Pers.slv _ _ _) | apply Pick.cons (by repeat (first | exact Pick1.here | apply Pick1.there)))))
    · intro g8_16
      try simp only [decide_eq_true_eq, decide_eq_false_iff_not, beq_iff_eq, bne_iff_ne, beq_eq_false_iff_ne, bne_eq_false_iff_eq, Bool.not_eq_true', Bool.not_eq_false', Bool.not_eq_eq_eq_not, Bool.not_true, Bool.not_false, ne_eq, Decidable.not_not, Int.not_lt, Int.not_le, gt_iff_lt, ge_iff_le] at g8_16
      refine L_yes rfl rfl (q_move rfl) rfl ?_
      refine L_yes rfl rfl (q_move rfl) rfl ?_
      refine L_yes rfl rfl (q_sliceHi (j := 52) sl_sl_uint8 rfl rfl (by omega)) rfl ?_
      refine L_eyes rfl rfl rfl (C1.call (c_call Tryd.func61 rfl rfl rfl) (c_Sum (p := false) s1 (by omega)) (by repeat (first | exact Pick.nil | apply Pick.keep (by repeat (first | exact List.Mem.head _ | apply List.Mem.tail)) (by first | exact Pers.cells _ _ _ | exact Pers.slv _ _ _) | apply Pick.cons (by repeat (first | exact Pick1.here | apply Pick1.there)))) rfl ?_)
      rintro _ _ ⟨rfl, rfl⟩
      refine WPL.putS ?_
      refine L_yes rfl rfl (q_int rfl rfl rfl) rfl ?_
      first | refine L_s (q_pickT rfl rfl) rfl ?_ | refine L_s (q_pickF rfl rfl) rfl ?_
      first | exact WPL.jn rfl rfl (by repeat (first | exact trivial | refine ⟨rfl, ?_⟩)) | exact WPL.jnI rfl rfl (by repeat (first | exact trivial | refine ⟨rfl, ?_⟩)) (Imp.pick (by repeat (first | exact Pick.nil | apply Pick.keep (by repeat (first | exact List.Mem.head _ | apply List.Mem.tail)) (by first | exact Pers.cells _ _ _ | exact Pers.slv _ _ _) | apply Pick.cons (by repeat (first | exact Pick1.here | apply Pick1.there)))))
    refine WPL.nil ?_
    refine WPC.cond rfl (fun h1 => ?_) (fun h1 => ?_)
    · simp only [Bool.or_eq_true, beq_iff_eq, bne_iff_ne, ne_eq, decide_eq_true_eq] at h1
      have hp : parse s.1 = none := by unfold parse; rw [if_pos (by simp only [num]; omega)]
      refine WPC.seqR ?_
      refine L_s (q_assign rfl) rfl ?_
      refine L_s (q_assign rfl) rfl ?_
      refine L_s (q_assign rfl) rfl ?_
      refine L_s (q_assign rfl) rfl ?_
      refine WPL.nil ?_
      refine WPC.ret ?_
      refine thenQ_r ?_
      rw [hp]
      exact endR_r rfl (.tmp rfl (.tmp rfl (.tmp rfl (.tmp rfl .nil)))) (Imp.pick (by repeat (first | exact Pick.nil | apply Pick.keep (by repeat (first | exact List.Mem.head _ | apply List.Mem.tail)) (by first | exact Pers.cells _ _ _ | exact Pers.slv _ _ _ | exact Pers.bytes _) | apply Pick.cons (by repeat (first | exact Pick1.here | apply Pick1.there))))) ⟨rfl, rfl⟩
    · simp only [Bool.or_eq_false_iff, beq_eq_false_iff_ne, bne_eq_false_iff_eq, ne_eq, decide_eq_false_iff_not] at h1
      have hp : parse s.1 = some (num s.1 0 4, num s.1 4 4, part s.1 9 (num s.1 8 1)) := by unfold parse; rw [if_neg (by simp only [num]; omega)]
      have hn43 : ofLE (part s.1 8 1) ≤ 43 := by omega
      have s3 := hs.cutB (l := 9) (k := 9 + ofLE (part s.1 8 1)) (m := c) (by omega) (by omega) (by omega)
      rw [Nat.add_sub_cancel_left] at s3
      refine WPC.skip ?_
      refine thenQ_n ?_
      refine WPC.seqR ?_
      refine L_s (q_move rfl) rfl ?_
      refine L_s (q_move rfl) rfl ?_
      refine L_s (q_move rfl) rfl ?_
      refine L_s (q_move rfl) rfl ?_
      refine L_s (q_addN (a := 9) (b := ofLE (part s.1 8 1)) rfl rfl (by omega)) rfl ?_
      refine L_s (q_sliceLH (l := 9) (j := 9 + ofLE (part s.1 8 1)) sl_sl_uint8 rfl rfl rfl (by omega) (by omega)) rfl ?_
      rw [Nat.add_sub_cancel_left]
      have i3 := Imp.cutRo hs (l := 9) (k := 9 + ofLE (part s.1 8 1)) (m := c) (Γ := []) (by omega) (by omega) (by omega)
      rw [Nat.add_sub_cancel_left] at i3
      refine WPL.imp ((Imp.pick (by repeat (first | exact Pick.nil | apply Pick.keep (by repeat (first | exact List.Mem.head _ | apply List.Mem.tail)) (by first | exact Pers.cells _ _ _ | exact Pers.slv _ _ _ | exact Pers.bytes _) | apply Pick.cons (by repeat (first | exact Pick1.here | apply Pick1.there))))).trans i3) ?_
      refine WPL.cons rfl (C1.call (c_call Tryd.func33 rfl rfl rfl) (c_CloneB (p := false) s3 (by omega)) (by repeat (first | exact Pick.nil | apply Pick.keep (by repeat (first | exact List.Mem.head _ | apply List.Mem.tail)) (by first | exact Pers.cells _ _ _ | exact Pers.slv _ _ _) | apply Pick.cons (by repeat (first | exact Pick1.here | apply Pick1.there)))) rfl ?_)
      rintro _ _ ⟨a', c', rfl, rfl⟩
      refine WPL.bufRo fun hs' => ?_
      refine WPL.putS ?_
      refine L_s (q_assign rfl) rfl ?_
      refine L_s (q_assign rfl) rfl ?_
      refine L_s (q_assign rfl) rfl ?_
      refine L_s (q_assign rfl) rfl ?_
      refine WPL.nil ?_
      refine WPC.ret ?_
      rw [hp]
      have hpl : (part s.1 9 (ofLE (part s.1 8 1))).length = ofLE (part s.1 8 1) := by
        show ((s.1.drop 9).take _).length = _
        rw [List.length_take, List.length_drop]; omega
      exact endR_r rfl (.tmp rfl (.tmp rfl (.tmp rfl (.tmp rfl .nil)))) (Imp.pick (by repeat (first | exact Pick.nil | apply Pick.keep (by repeat (first | exact List.Mem.head _ | apply List.Mem.tail)) (by first | exact Pers.cells _ _ _ | exact Pers.slv _ _ _ | exact Pers.bytes _) | apply Pick.cons (by repeat (first | exact Pick1.here | apply Pick1.there))))) ⟨a', c', by simp only [packV]; rw [hpl], by rw [hpl]; exact hs', rfl⟩

end Go.Sl
