/- Walks: slices of ints, quorum. -/
import Derived.Test.YtpipmojaonialaaTy
import Derived.Test.YtpipmojaonialaaWModel
namespace Go.Sl
open Go Go.RowKit Go.Proofs
set_option linter.unusedSimpArgs false
set_option linter.unusedVariables false
attribute [local irreducible] faB szB ldB zB zL slB mkB arB plB intB cells objc star stars buf slv grp whole Sat WPC WPL WPA WPO Trip

theorem c_Index {p : Bool} {a : Option Addr} {n c : Nat} {xs : List Int} (hs : Sok 1 a n c (xs.map (.int .i64))) (hn : n < 1073741824) (v : Int) : Trip Try.prog 49 #[.slice a n c, .int .i64 v] [sl p a (xs.map (.int .i64))] fun r Δ => ∃ i : Int, r = .int .i64 i ∧ (0 ≤ i ↔ v ∈ xs) ∧ Δ = [sl p a (xs.map (.int .i64))] := by
  have hl : xs.length = n := by have := hs.len; simpa using this
  refine Trip.start 19 [.tmp 4] [(0, .slice a n c), (1, .int .i64 v)] Try.func49 rfl Try.ntmps49 rfl ⟨rfl, rfl, trivial⟩ rfl ?_
  refine WPC.seqR ?_
  refine L_s (q_assign rfl) rfl ?_
  refine WPL.nil ?_
  refine WPC.seq ?_
  refine WPC.seqR ?_
  refine L_s (q_move rfl) rfl ?_
  refine L_s (q_len rfl un_sl_int rfl) rfl ?_
  refine L_s (q_move rfl) rfl ?_
  refine WPL.nil ?_
  refine WPC.block ?_
  refine WPC.loopS (fun m e Γ => ∃ k : Nat, m = n - k ∧ k ≤ n ∧ v ∉ xs.take k ∧ e = [(0, .slice a n c), (1, .int .i64 v), (7, .int .i64 (n : Int)), (8, .int .i64 (k : Int))] ∧ Γ = [sl p a (xs.map (.int .i64))]) (n) ⟨0, rfl, by omega, by simp, rfl, rfl⟩ (by repeat (first | exact trivial | refine ⟨rfl, ?_⟩)) (Imp.pick (by repeat (first | exact Pick.nil | apply Pick.keep (by repeat (first | exact List.Mem.head _ | apply List.Mem.tail)) (by first | exact Pers.cells _ _ _ | exact Pers.slv _ _ _) | apply Pick.cons (by repeat (first | exact Pick1.here | apply Pick1.there))))) ?_
  rintro m e Γ ⟨k, rfl, hk, hv, rfl, rfl⟩
  refine WPC.seqR ?_
  refine L_s (q_int rfl rfl rfl) rfl ?_
  refine WPL.nil ?_
  refine WPC.seq ?_
  refine WPC.cond rfl (fun h0 => ?_) (fun h0 => ?_)
  · simp only [decide_eq_true_eq] at h0
    have hk' : k < n := by omega
    have hp : Pl a := hs.at (by omega) (by omega)
    obtain ⟨x, hx⟩ : ∃ x, xs[k]? = some x := ⟨xs[k]'(by omega), by simp⟩
    refine WPC.skip ?_
    refine thenQ_n ?_
    refine WPC.seq ?_
    refine WPC.block ?_
    refine WPC.seqR ?_
    refine L_s (q_move rfl) rfl ?_
    refine L_s (q_assign rfl) rfl ?_
    refine WPL.nil ?_
    refine WPC.seqR ?_
    refine L_s (q_move rfl) rfl ?_
    refine L_s (q_move rfl) rfl ?_
    refine L_s (q_move rfl) rfl ?_
    first | refine L_s (q_idxN sl_sl_int rfl rfl (by omega) (by assumption)) rfl ?_ | refine L_s (q_idx sl_sl_int rfl rfl (by omega) (by omega) (by assumption)) rfl ?_
    refine L_s (q_ldMap ld_int rfl (by repeat (first | exact List.Mem.head _ | apply List.Mem.tail)) hx) rfl ?_
    refine L_s (q_int rfl rfl rfl) rfl ?_
    refine WPL.nil ?_
    refine WPC.cond rfl (fun h1 => ?_) (fun h1 => ?_)
    · try simp only [decide_eq_true_eq, decide_eq_false_iff_not, beq_iff_eq, bne_iff_ne, beq_eq_false_iff_ne, bne_eq_false_iff_eq, Bool.not_eq_true', Bool.not_eq_false', Bool.not_eq_eq_eq_not, Bool.not_true, Bool.not_false, ne_eq, Decidable.not_not, Int.not_lt, Int.not_le, gt_iff_lt, ge_iff_le] at h1
      refine WPC.seqR ?_
      refine L_s (q_move rfl) rfl ?_
      refine L_s (q_assign rfl) rfl ?_
      refine WPL.nil ?_
      refine WPC.ret ?_
      refine blockQ_r ?_
      refine thenQ_r ?_
      refine thenQ_r ?_
      refine blockQ_r ?_
      refine thenQ_r ?_
      exact endR_r rfl (.tmp rfl .nil) (Imp.pick (by repeat (first | exact Pick.nil | apply Pick.keep (by repeat (first | exact List.Mem.head _ | apply List.Mem.tail)) (by first | exact Pers.cells _ _ _ | exact Pers.slv _ _ _) | apply Pick.cons (by repeat (first | exact Pick1.here | apply Pick1.there))))) ⟨k, rfl, ⟨fun _ => by rw [h1]; exact List.mem_of_getElem? hx, fun _ => by omega⟩, rfl⟩
    · try simp only [decide_eq_true_eq, decide_eq_false_iff_not, beq_iff_eq, bne_iff_ne, beq_eq_false_iff_ne, bne_eq_false_iff_eq, Bool.not_eq_true', Bool.not_eq_false', Bool.not_eq_eq_eq_not, Bool.not_true, Bool.not_false, ne_eq, Decidable.not_not, Int.not_lt, Int.not_le, gt_iff_lt, ge_iff_le] at h1
      refine WPC.skip ?_
      refine blockQ_n ?_
      refine thenQ_n ?_
      refine WPC.region ?_
      first | refine L_s (q_inc rfl rfl (by omega)) rfl ?_ | refine L_s (q_addI rfl rfl (by omega)) rfl ?_ | refine L_s (q_int rfl rfl rfl) rfl ?_
      refine L_s (q_move rfl) rfl ?_
      refine WPL.nil ?_
      refine thenQ_n ?_
      exact ⟨rfl, _, _, _, by omega, ⟨k + 1, rfl, by omega, by rw [take_succ hx]; simp only [List.mem_append, List.mem_singleton, not_or]; exact ⟨hv, h1⟩, rfl, rfl⟩, (by repeat (first | exact trivial | refine ⟨rfl, ?_⟩)), Imp.pick (by repeat (first | exact Pick.nil | apply Pick.keep (by repeat (first | exact List.Mem.head _ | apply List.Mem.tail)) (by first | exact Pers.cells _ _ _ | exact Pers.slv _ _ _) | apply Pick.cons (by repeat (first | exact Pick1.here | apply Pick1.there))))⟩
  · simp only [decide_eq_false_iff_not] at h0
    have hk' : k = n := by omega
    refine WPC.exit ?_
    refine thenQ_e ?_
    refine thenQ_e ?_
    refine blockQ_here ?_
    refine thenQ_n ?_
    refine WPC.seqR ?_
    refine L_s (q_assign rfl) rfl ?_
    refine WPL.nil ?_
    refine WPC.ret ?_
    subst hk'
    exact endR_r rfl (.tmp rfl .nil) (Imp.pick (by repeat (first | exact Pick.nil | apply Pick.keep (by repeat (first | exact List.Mem.head _ | apply List.Mem.tail)) (by first | exact Pers.cells _ _ _ | exact Pers.slv _ _ _) | apply Pick.cons (by repeat (first | exact Pick1.here | apply Pick1.there))))) ⟨-1, rfl, ⟨fun h => by omega, fun h => by rw [← hl, List.take_length] at hv; exact absurd h hv⟩, rfl⟩

theorem c_Contains {p : Bool} {a : Option Addr} {n c : Nat} {xs : List Int} (hs : Sok 1 a n c (xs.map (.int .i64))) (hn : n < 1073741824) (v : Int) : Trip Try.prog 28 #[.slice a n c, .int .i64 v] [sl p a (xs.map (.int .i64))] fun r Δ => r = .bool (decide (v ∈ xs)) ∧ Δ = [sl p a (xs.map (.int .i64))] := by
  refine Trip.start 9 [.tmp 4] [(0, .slice a n c), (1, .int .i64 v)] Try.func28 rfl Try.ntmps28 rfl ⟨rfl, rfl, trivial⟩ rfl ?_
  refine WPC.seqR ?_
  refine L_s (q_assign rfl) rfl ?_
  refine WPL.nil ?_
  refine WPC.seqR ?_
  refine L_s (q_move rfl) rfl ?_
  refine L_s (q_move rfl) rfl ?_
  refine WPL.cons rfl (C1.call (c_call Try.func49 rfl rfl rfl) (c_Index hs hn v) (by repeat (first | exact Pick.nil | apply Pick.keep (by repeat (first | exact List.Mem.head _ | apply List.Mem.tail)) (by first | exact Pers.cells _ _ _ | exact Pers.slv _ _ _) | apply Pick.cons (by repeat (first | exact Pick1.here | apply Pick1.there)))) rfl ?_)
  rintro _ _ ⟨i, rfl, hi, rfl⟩
  refine WPL.putS ?_
  refine L_s (q_int rfl rfl rfl) rfl ?_
  refine L_s (q_assign rfl) rfl ?_
  refine WPL.nil ?_
  refine WPC.ret ?_
  exact endR_r rfl (.tmp rfl .nil) (Imp.pick (by repeat (first | exact Pick.nil | apply Pick.keep (by repeat (first | exact List.Mem.head _ | apply List.Mem.tail)) (by first | exact Pers.cells _ _ _ | exact Pers.slv _ _ _) | apply Pick.cons (by repeat (first | exact Pick1.here | apply Pick1.there))))) ⟨by simp only [packV, ge_iff_le, hi], rfl⟩

theorem c_Majority {a : Option Addr} {n c : Nat} (hn : n < 1073741824) : Trip Try.prog 52 #[.slice a n c] [] fun r Δ => r = .int .i64 ((n / 2 + 1 : Nat) : Int) ∧ Δ = [] := by
  refine Trip.start 7 [.tmp 2] [(0, .slice a n c)] Try.func52 rfl Try.ntmps52 rfl ⟨rfl, trivial⟩ rfl ?_
  refine WPC.seqR ?_
  refine L_s (q_assign rfl) rfl ?_
  refine WPL.nil ?_
  refine WPC.seqR ?_
  refine L_s (q_move rfl) rfl ?_
  refine L_s (q_len rfl un_sl_int rfl) rfl ?_
  first | refine L_s (q_quoI rfl rfl (by omega)) rfl ?_ | refine L_s (q_quoU rfl rfl (by omega)) rfl ?_ | refine L_s (q_quo rfl rfl (by decide)) rfl ?_
  first | refine L_s (q_inc rfl rfl (by omega)) rfl ?_ | refine L_s (q_addI rfl rfl (by omega)) rfl ?_ | refine L_s (q_int rfl rfl rfl) rfl ?_
  refine L_s (q_assign rfl) rfl ?_
  refine WPL.nil ?_
  refine WPC.ret ?_
  exact endR_r rfl (.tmp rfl .nil) (Imp.pick (by repeat (first | exact Pick.nil | apply Pick.keep (by repeat (first | exact List.Mem.head _ | apply List.Mem.tail)) (by first | exact Pers.cells _ _ _ | exact Pers.slv _ _ _) | apply Pick.cons (by repeat (first | exact Pick1.here | apply Pick1.there))))) ⟨by simp only [packV]; congr 1, rfl⟩

theorem c_Last {a : Option Addr} {n c : Nat} {base bt : Int} (hb : 0 ≤ base ∧ base ≤ 4611686018427387904) (hn : n < 1073741824) : Trip Try.prog 29 #[(.agg #[.int .u64 base, .int .u64 bt, .slice a n c])] [] fun r Δ => r = .int .u64 (base + n) ∧ Δ = [] := by
  refine Trip.start 10 [.tmp 2] [(0, (.agg #[.int .u64 base, .int .u64 bt, .slice a n c]))] Try.func29 rfl Try.ntmps29 rfl ⟨rfl, trivial⟩ rfl ?_
  refine WPC.seqR ?_
  first | refine WPL.cons rfl (E1.wpo (e_boxN rfl) rfl ?_) | refine WPL.cons rfl (E1.wpo (e_box1 rfl rfl) rfl ?_)
  rintro _ _ ⟨b1, rfl, rfl⟩
  refine WPL.putS ?_
  refine L_s (q_assign rfl) rfl ?_
  refine WPL.nil ?_
  refine WPC.seqR ?_
  first | refine L_s (q_faK fa_terms_Log_Base rfl) rfl ?_ | refine L_s (q_fa fa_terms_Log_Base rfl) rfl ?_
  first | refine L_s (q_load1z ld_uint64 rfl (by repeat (first | exact List.Mem.head _ | apply List.Mem.tail)) (by rfl)) rfl ?_ | refine L_s (q_load1 ld_uint64 rfl (by repeat (first | exact List.Mem.head _ | apply List.Mem.tail)) rfl (by rfl)) rfl ?_
  first | refine L_s (q_faK fa_terms_Log_Entries rfl) rfl ?_ | refine L_s (q_fa fa_terms_Log_Entries rfl) rfl ?_
  first | refine L_s (q_load1z ld_sl_api_Entry rfl (by repeat (first | exact List.Mem.head _ | apply List.Mem.tail)) (by rfl)) rfl ?_ | refine L_s (q_load1 ld_sl_api_Entry rfl (by repeat (first | exact List.Mem.head _ | apply List.Mem.tail)) rfl (by rfl)) rfl ?_
  refine L_s (q_len rfl un_sl_api_Entry rfl) rfl ?_
  first | refine L_s (q_convU in_int in_uint64 rfl (by omega)) rfl ?_ | refine L_s (q_conv in_int in_uint64 rfl) rfl ?_
  first | refine L_s (q_addU rfl rfl (by omega)) rfl ?_ | refine L_s (q_int rfl rfl rfl) rfl ?_
  refine L_s (q_assign rfl) rfl ?_
  refine WPL.nil ?_
  refine WPC.ret ?_
  exact endR_r rfl (.tmp rfl .nil) (Imp.pick (by repeat (first | exact Pick.nil | apply Pick.keep (by repeat (first | exact List.Mem.head _ | apply List.Mem.tail)) (by first | exact Pers.cells _ _ _ | exact Pers.slv _ _ _) | apply Pick.cons (by repeat (first | exact Pick1.here | apply Pick1.there))))) ⟨rfl, rfl⟩

theorem c_has {a : Option Addr} {n c : Nat} {base bt : Int} (hb : 0 ≤ base ∧ base ≤ 4611686018427387904) (hn : n < 1073741824) (i : Int) : Trip Try.prog 60 #[(.agg #[.int .u64 base, .int .u64 bt, .slice a n c]), .int .u64 i] [] fun r Δ => r = .bool (decide (base < i) && decide (i ≤ base + n)) ∧ Δ = [] := by
  refine Trip.start 15 [.tmp 4] [(0, (.agg #[.int .u64 base, .int .u64 bt, .slice a n c])), (1, .int .u64 i)] Try.func60 rfl Try.ntmps60 rfl ⟨rfl, rfl, trivial⟩ rfl ?_
  refine WPC.seqR ?_
  first | refine WPL.cons rfl (E1.wpo (e_boxN rfl) rfl ?_) | refine WPL.cons rfl (E1.wpo (e_box1 rfl rfl) rfl ?_)
  rintro _ _ ⟨b1, rfl, rfl⟩
  refine WPL.putS ?_
  refine L_s (q_assign rfl) rfl ?_
  refine WPL.nil ?_
  refine WPC.seqR ?_
  refine L_s (q_move rfl) rfl ?_
  first | refine L_s (q_faK fa_terms_Log_Base rfl) rfl ?_ | refine L_s (q_fa fa_terms_Log_Base rfl) rfl ?_
  first | refine L_s (q_load1z ld_uint64 rfl (by repeat (first | exact List.Mem.head _ | apply List.Mem.tail)) (by rfl)) rfl ?_ | refine L_s (q_load1 ld_uint64 rfl (by repeat (first | exact List.Mem.head _ | apply List.Mem.tail)) rfl (by rfl)) rfl ?_
  refine L_s (q_int rfl rfl rfl) rfl ?_
  refine L_s (q_move rfl) rfl ?_
  apply WPL.joinA (e' := [(4, _)]) 9 14 5 rfl
  · intro g1_4
    try simp only [decide_eq_true_eq, decide_eq_false_iff_not, beq_iff_eq, bne_iff_ne, beq_eq_false_iff_ne, bne_eq_false_iff_eq, Bool.not_eq_true', Bool.not_eq_false', Bool.not_eq_eq_eq_not, Bool.not_true, Bool.not_false, ne_eq, Decidable.not_not, Int.not_lt, Int.not_le, gt_iff_lt, ge_iff_le] at g1_4
    refine L_yes rfl rfl (q_move rfl) rfl ?_
    first | refine L_yes rfl rfl (q_loadNz (us := [_, _, _]) ld_terms_Log rfl (by repeat (first | exact List.Mem.head _ | apply List.Mem.tail)) (by exact ⟨rfl, rfl⟩)) rfl ?_ | refine L_yes rfl rfl (q_loadNk (us := [_, _, _]) ld_terms_Log rfl (by repeat (first | exact List.Mem.head _ | apply List.Mem.tail)) (by exact ⟨rfl, rfl⟩)) rfl ?_
    refine L_eyes rfl rfl rfl (C1.call (c_call Try.func29 rfl rfl rfl) (c_Last hb hn) (by repeat (first | exact Pick.nil | apply Pick.keep (by repeat (first | exact List.Mem.head _ | apply List.Mem.tail)) (by first | exact Pers.cells _ _ _ | exact Pers.slv _ _ _) | apply Pick.cons (by repeat (first | exact Pick1.here | apply Pick1.there)))) rfl ?_)
    rintro _ _ ⟨rfl, rfl⟩
    refine WPL.putS ?_
    refine L_yes rfl rfl (q_int rfl rfl rfl) rfl ?_
    first | refine L_s (q_pickT rfl rfl) rfl ?_ | refine L_s (q_pickF rfl rfl) rfl ?_
    first | exact WPL.jn rfl rfl (by repeat (first | exact trivial | refine ⟨rfl, ?_⟩)) | exact WPL.jnI rfl rfl (by repeat (first | exact trivial | refine ⟨rfl, ?_⟩)) (Imp.pick (by repeat (first | exact Pick.nil | apply Pick.keep (by repeat (first | exact List.Mem.head _ | apply List.Mem.tail)) (by first | exact Pers.cells _ _ _ | exact Pers.slv _ _ _) | apply Pick.cons (by repeat (first | exact Pick1.here | apply Pick1.there)))))
  · intro g1_4
    try simp only [decide_eq_true_eq, decide_eq_false_iff_not, beq_iff_eq, bne_iff_ne, beq_eq_false_iff_ne, bne_eq_false_iff_eq, Bool.not_eq_true', Bool.not_eq_false', Bool.not_eq_eq_eq_not, Bool.not_true, Bool.not_false, ne_eq, Decidable.not_not, Int.not_lt, Int.not_le, gt_iff_lt, ge_iff_le] at g1_4
    refine L_no rfl rfl rfl rfl ?_
    refine L_no rfl rfl rfl rfl ?_
    refine L_no rfl rfl rfl rfl ?_
    refine L_no rfl rfl rfl rfl ?_
    first | refine L_s (q_pickT rfl rfl) rfl ?_ | refine L_s (q_pickF rfl rfl) rfl ?_
    first | exact WPL.jn rfl rfl (by repeat (first | exact trivial | refine ⟨rfl, ?_⟩)) | exact WPL.jnI rfl rfl (by repeat (first | exact trivial | refine ⟨rfl, ?_⟩)) (Imp.pick (by repeat (first | exact Pick.nil | apply Pick.keep (by repeat (first | exact List.Mem.head _ | apply List.Mem.tail)) (by first | exact Pers.cells _ _ _ | exact Pers.slv _ _ _) | apply Pick.cons (by repeat (first | exact Pick1.here | apply Pick1.there)))))
  refine L_s (q_assign rfl) rfl ?_
  refine WPL.nil ?_
  refine WPC.ret ?_
  exact endR_r rfl (.tmp rfl .nil) (Imp.pick (by repeat (first | exact Pick.nil | apply Pick.keep (by repeat (first | exact List.Mem.head _ | apply List.Mem.tail)) (by first | exact Pers.cells _ _ _ | exact Pers.slv _ _ _) | apply Pick.cons (by repeat (first | exact Pick1.here | apply Pick1.there))))) ⟨rfl, rfl⟩

theorem c_Entry {p : Bool} {a : Option Addr} {n c : Nat} {base bt : Int} {es : List RE} (hs : Sok 3 a n c (es.flatMap encE)) (hb : 0 ≤ base ∧ base ≤ 4611686018427387904) (hn : n < 1073741824) (i : Int) (hi : 0 ≤ i ∧ i ≤ 18446744073709551615) : Trip Try.prog 58 #[(.agg #[.int .u64 base, .int .u64 bt, .slice a n c]), .int .u64 i] [sl p a (es.flatMap encE)] fun r Δ => r = .tuple #[.agg (encE ((lgEntry base es i).getD RE.zero)).toArray, .bool (lgEntry base es i).isSome] ∧ Δ = [sl p a (es.flatMap encE)] := by
  have hl : es.length = n := by have := hs.len; rw [flat_length encE_len] at this; omega
  refine Trip.start 20 [.cell 4 88, .tmp 5] [(0, (.agg #[.int .u64 base, .int .u64 bt, .slice a n c])), (1, .int .u64 i)] Try.func58 rfl Try.ntmps58 rfl ⟨rfl, rfl, trivial⟩ rfl ?_
  refine WPC.seqR ?_
  first | refine WPL.cons rfl (E1.wpo (e_boxN rfl) rfl ?_) | refine WPL.cons rfl (E1.wpo (e_box1 rfl rfl) rfl ?_)
  rintro _ _ ⟨b1, rfl, rfl⟩
  refine WPL.putS ?_
  refine WPL.cons rfl (E1.wpo (e_allocL zl_api_Entry) rfl ?_)
  rintro _ _ ⟨b2, rfl, rfl⟩
  refine WPL.putS ?_
  refine L_s (q_assign rfl) rfl ?_
  refine WPL.nil ?_
  refine WPC.seq ?_
  refine WPC.seqR ?_
  first | refine L_s (q_loadNz (us := [_, _, _]) ld_terms_Log rfl (by repeat (first | exact List.Mem.head _ | apply List.Mem.tail)) (by exact ⟨rfl, rfl⟩)) rfl ?_ | refine L_s (q_loadNk (us := [_, _, _]) ld_terms_Log rfl (by repeat (first | exact List.Mem.head _ | apply List.Mem.tail)) (by exact ⟨rfl, rfl⟩)) rfl ?_
  refine L_s (q_move rfl) rfl ?_
  refine WPL.cons rfl (C1.call (c_call Try.func60 rfl rfl rfl) (c_has hb hn i) (by repeat (first | exact Pick.nil | apply Pick.keep (by repeat (first | exact List.Mem.head _ | apply List.Mem.tail)) (by first | exact Pers.cells _ _ _ | exact Pers.slv _ _ _) | apply Pick.cons (by repeat (first | exact Pick1.here | apply Pick1.there)))) rfl ?_)
  rintro _ _ ⟨rfl, rfl⟩
  refine WPL.putS ?_
  refine L_s (q_not rfl) rfl ?_
  refine WPL.nil ?_
  refine WPC.cond rfl (fun h0 => ?_) (fun h0 => ?_)
  · simp only [Bool.not_eq_true', Bool.and_eq_false_iff, decide_eq_false_iff_not] at h0
    refine WPC.seqR ?_
    refine L_s (q_build (cs := [_, _, _]) pl_api_Entry rfl rfl) rfl ?_
    refine WPL.cons rfl (S1.wpo (s_storeNz sz_api_Entry rfl rfl (by simp [Value.oneCell']) rfl (by repeat (first | exact Upd.here | apply Upd.there)) (by repeat constructor)) rfl ?_)
    refine WPL.putN ?_
    refine L_s (q_assign rfl) rfl ?_
    refine WPL.nil ?_
    refine WPC.ret ?_
    refine thenQ_r ?_
    exact endR_r rfl (.cellN (us := [_, _, _]) rfl ld_api_Entry (by repeat (first | exact List.Mem.head _ | apply List.Mem.tail)) rfl rfl (.tmp rfl .nil)) (Imp.pick (by repeat (first | exact Pick.nil | apply Pick.keep (by repeat (first | exact List.Mem.head _ | apply List.Mem.tail)) (by first | exact Pers.cells _ _ _ | exact Pers.slv _ _ _) | apply Pick.cons (by repeat (first | exact Pick1.here | apply Pick1.there))))) ⟨by rw [lgEntry_none (by omega)]; rfl, rfl⟩
  · simp only [Bool.not_eq_false', Bool.and_eq_true, decide_eq_true_eq] at h0
    have hk : (i - base - 1).toNat < es.length := by omega
    obtain ⟨x, hx⟩ : ∃ x, es[(i - base - 1).toNat]? = some x := ⟨es[(i - base - 1).toNat]'(by omega), by simp [hk]⟩
    have hp : a = some ⟨blk a, off a, none⟩ := hs.at (by omega) (by omega)
    refine WPC.skip ?_
    refine thenQ_n ?_
    refine WPC.seqR ?_
    first | refine L_s (q_faK fa_terms_Log_Entries rfl) rfl ?_ | refine L_s (q_fa fa_terms_Log_Entries rfl) rfl ?_
    first | refine L_s (q_load1z ld_sl_api_Entry rfl (by repeat (first | exact List.Mem.head _ | apply List.Mem.tail)) (by rfl)) rfl ?_ | refine L_s (q_load1 ld_sl_api_Entry rfl (by repeat (first | exact List.Mem.head _ | apply List.Mem.tail)) rfl (by rfl)) rfl ?_
    refine L_s (q_move rfl) rfl ?_
    first | refine L_s (q_faK fa_terms_Log_Base rfl) rfl ?_ | refine L_s (q_fa fa_terms_Log_Base rfl) rfl ?_
    first | refine L_s (q_load1z ld_uint64 rfl (by repeat (first | exact List.Mem.head _ | apply List.Mem.tail)) (by rfl)) rfl ?_ | refine L_s (q_load1 ld_uint64 rfl (by repeat (first | exact List.Mem.head _ | apply List.Mem.tail)) rfl (by rfl)) rfl ?_
    first | refine L_s (q_subU rfl rfl (by omega)) rfl ?_ | refine L_s (q_int rfl rfl rfl) rfl ?_
    first | refine L_s (q_subU rfl rfl (by omega)) rfl ?_ | refine L_s (q_int rfl rfl rfl) rfl ?_
    first | refine L_s (q_idxN sl_sl_api_Entry rfl rfl (by omega) (by assumption)) rfl ?_ | refine L_s (q_idx sl_sl_api_Entry rfl rfl (by omega) (by omega) (by assumption)) rfl ?_
    refine L_s (q_ldFlat ld_api_Entry rfl (by repeat (first | exact List.Mem.head _ | apply List.Mem.tail)) encE_len hx) rfl ?_
    refine WPL.cons rfl (S1.wpo (s_storeNz sz_api_Entry rfl rfl (by simp [Value.oneCell']) rfl (by repeat (first | exact Upd.here | apply Upd.there)) (by repeat constructor)) rfl ?_)
    refine WPL.putN ?_
    refine L_s (q_assign rfl) rfl ?_
    refine WPL.nil ?_
    refine WPC.ret ?_
    exact endR_r rfl (.cellN (us := [_, _, _]) rfl ld_api_Entry (by repeat (first | exact List.Mem.head _ | apply List.Mem.tail)) rfl rfl (.tmp rfl .nil)) (Imp.pick (by repeat (first | exact Pick.nil | apply Pick.keep (by repeat (first | exact List.Mem.head _ | apply List.Mem.tail)) (by first | exact Pers.cells _ _ _ | exact Pers.slv _ _ _) | apply Pick.cons (by repeat (first | exact Pick1.here | apply Pick1.there))))) ⟨by unfold lgEntry; rw [if_pos h0.1, hx]; rfl, rfl⟩

theorem c_Term {p : Bool} {a : Option Addr} {n c : Nat} {base bt : Int} {es : List RE} (hs : Sok 3 a n c (es.flatMap encE)) (hb : 0 ≤ base ∧ base ≤ 4611686018427387904) (hn : n < 1073741824) (i : Int) (hi : 0 ≤ i ∧ i ≤ 18446744073709551615) : Trip Try.prog 50 #[(.agg #[.int .u64 base, .int .u64 bt, .slice a n c]), .int .u64 i] [sl p a (es.flatMap encE)] fun r Δ => r = .tuple #[.int .u64 ((lgTerm base bt es i).getD 0), .bool (lgTerm base bt es i).isSome] ∧ Δ = [sl p a (es.flatMap encE)] := by
  refine Trip.start 23 [.tmp 4, .tmp 5] [(0, (.agg #[.int .u64 base, .int .u64 bt, .slice a n c])), (1, .int .u64 i)] Try.func50 rfl Try.ntmps50 rfl ⟨rfl, rfl, trivial⟩ rfl ?_
  refine WPC.seqR ?_
  first | refine WPL.cons rfl (E1.wpo (e_boxN rfl) rfl ?_) | refine WPL.cons rfl (E1.wpo (e_box1 rfl rfl) rfl ?_)
  rintro _ _ ⟨b1, rfl, rfl⟩
  refine WPL.putS ?_
  refine L_s (q_assign rfl) rfl ?_
  refine L_s (q_assign rfl) rfl ?_
  refine WPL.nil ?_
  refine WPC.seq ?_
  refine WPC.seqR ?_
  refine L_s (q_move rfl) rfl ?_
  first | refine L_s (q_faK fa_terms_Log_Base rfl) rfl ?_ | refine L_s (q_fa fa_terms_Log_Base rfl) rfl ?_
  first | refine L_s (q_load1z ld_uint64 rfl (by repeat (first | exact List.Mem.head _ | apply List.Mem.tail)) (by rfl)) rfl ?_ | refine L_s (q_load1 ld_uint64 rfl (by repeat (first | exact List.Mem.head _ | apply List.Mem.tail)) rfl (by rfl)) rfl ?_
  refine L_s (q_int rfl rfl rfl) rfl ?_
  refine WPL.nil ?_
  refine WPC.cond rfl (fun h0 => ?_) (fun h0 => ?_)
  · try simp only [decide_eq_true_eq, decide_eq_false_iff_not, beq_iff_eq, bne_iff_ne, beq_eq_false_iff_ne, bne_eq_false_iff_eq, Bool.not_eq_true', Bool.not_eq_false', Bool.not_eq_eq_eq_not, Bool.not_true, Bool.not_false, ne_eq, Decidable.not_not, Int.not_lt, Int.not_le, gt_iff_lt, ge_iff_le] at h0
    refine WPC.seqR ?_
    first | refine L_s (q_faK fa_terms_Log_BaseTerm rfl) rfl ?_ | refine L_s (q_fa fa_terms_Log_BaseTerm rfl) rfl ?_
    first | refine L_s (q_load1z ld_uint64 rfl (by repeat (first | exact List.Mem.head _ | apply List.Mem.tail)) (by rfl)) rfl ?_ | refine L_s (q_load1 ld_uint64 rfl (by repeat (first | exact List.Mem.head _ | apply List.Mem.tail)) rfl (by rfl)) rfl ?_
    refine L_s (q_assign rfl) rfl ?_
    refine L_s (q_assign rfl) rfl ?_
    refine WPL.nil ?_
    refine WPC.ret ?_
    refine thenQ_r ?_
    exact endR_r rfl (.tmp rfl (.tmp rfl .nil)) (Imp.pick (by repeat (first | exact Pick.nil | apply Pick.keep (by repeat (first | exact List.Mem.head _ | apply List.Mem.tail)) (by first | exact Pers.cells _ _ _ | exact Pers.slv _ _ _) | apply Pick.cons (by repeat (first | exact Pick1.here | apply Pick1.there))))) ⟨by unfold lgTerm; rw [if_pos h0]; rfl, rfl⟩
  · try simp only [decide_eq_true_eq, decide_eq_false_iff_not, beq_iff_eq, bne_iff_ne, beq_eq_false_iff_ne, bne_eq_false_iff_eq, Bool.not_eq_true', Bool.not_eq_false', Bool.not_eq_eq_eq_not, Bool.not_true, Bool.not_false, ne_eq, Decidable.not_not, Int.not_lt, Int.not_le, gt_iff_lt, ge_iff_le] at h0
    refine WPC.skip ?_
    refine thenQ_n ?_
    refine WPC.seqR ?_
    first | refine L_s (q_loadNz (us := [_, _, _]) ld_terms_Log rfl (by repeat (first | exact List.Mem.head _ | apply List.Mem.tail)) (by exact ⟨rfl, rfl⟩)) rfl ?_ | refine L_s (q_loadNk (us := [_, _, _]) ld_terms_Log rfl (by repeat (first | exact List.Mem.head _ | apply List.Mem.tail)) (by exact ⟨rfl, rfl⟩)) rfl ?_
    refine L_s (q_move rfl) rfl ?_
    refine WPL.cons rfl (C1.call (c_call Try.func58 rfl rfl rfl) (c_Entry hs hb hn i hi) (by repeat (first | exact Pick.nil | apply Pick.keep (by repeat (first | exact List.Mem.head _ | apply List.Mem.tail)) (by first | exact Pers.cells _ _ _ | exact Pers.slv _ _ _) | apply Pick.cons (by repeat (first | exact Pick1.here | apply Pick1.there)))) rfl ?_)
    rintro _ _ ⟨rfl, rfl⟩
    refine WPL.putS ?_
    refine L_s (q_move rfl) rfl ?_
    refine L_s (q_extract rfl rfl) rfl ?_
    refine L_s (q_extract rfl rfl) rfl ?_
    refine WPL.cons rfl (E1.wpo (e_allocL zl_api_Entry) rfl ?_)
    rintro _ _ ⟨b2, rfl, rfl⟩
    refine WPL.putS ?_
    refine WPL.cons rfl (S1.wpo (s_storeNz sz_api_Entry rfl rfl (by simp [Value.oneCell']) rfl (by repeat (first | exact Upd.here | apply Upd.there)) (by repeat constructor)) rfl ?_)
    refine WPL.putN ?_
    refine L_s (q_assign rfl) rfl ?_
    refine WPL.nil ?_
    refine WPC.seqR ?_
    first | refine L_s (q_faK fa_api_Entry_Term rfl) rfl ?_ | refine L_s (q_fa fa_api_Entry_Term rfl) rfl ?_
    first | refine L_s (q_load1z ld_uint64 rfl (by repeat (first | exact List.Mem.head _ | apply List.Mem.tail)) (by rfl)) rfl ?_ | refine L_s (q_load1 ld_uint64 rfl (by repeat (first | exact List.Mem.head _ | apply List.Mem.tail)) rfl (by rfl)) rfl ?_
    refine L_s (q_move rfl) rfl ?_
    refine L_s (q_assign rfl) rfl ?_
    refine L_s (q_assign rfl) rfl ?_
    refine WPL.nil ?_
    refine WPC.ret ?_
    exact endR_r rfl (.tmp rfl (.tmp rfl .nil)) (Imp.pick (by repeat (first | exact Pick.nil | apply Pick.keep (by repeat (first | exact List.Mem.head _ | apply List.Mem.tail)) (by first | exact Pers.cells _ _ _ | exact Pers.slv _ _ _) | apply Pick.cons (by repeat (first | exact Pick1.here | apply Pick1.there))))) ⟨by unfold lgTerm; rw [if_neg h0]; cases lgEntry base es i <;> rfl, rfl⟩

theorem c_LastTerm {p : Bool} {a : Option Addr} {n c : Nat} {base bt : Int} {es : List RE} (hs : Sok 3 a n c (es.flatMap encE)) (hb : 0 ≤ base ∧ base ≤ 4611686018427387904) (hn : n < 1073741824) : Trip Try.prog 30 #[(.agg #[.int .u64 base, .int .u64 bt, .slice a n c])] [sl p a (es.flatMap encE)] fun r Δ => r = .int .u64 (lgLastTerm bt es) ∧ Δ = [sl p a (es.flatMap encE)] := by
  have hl : es.length = n := by have := hs.len; rw [flat_length encE_len] at this; omega
  refine Trip.start 13 [.tmp 2] [(0, (.agg #[.int .u64 base, .int .u64 bt, .slice a n c]))] Try.func30 rfl Try.ntmps30 rfl ⟨rfl, trivial⟩ rfl ?_
  refine WPC.seqR ?_
  first | refine WPL.cons rfl (E1.wpo (e_boxN rfl) rfl ?_) | refine WPL.cons rfl (E1.wpo (e_box1 rfl rfl) rfl ?_)
  rintro _ _ ⟨b1, rfl, rfl⟩
  refine WPL.putS ?_
  refine L_s (q_assign rfl) rfl ?_
  refine WPL.nil ?_
  refine WPC.seqD mixed ?_
  first | refine WPA.takeL 0 rfl (Ent.mem (by repeat (first | exact List.Mem.head _ | apply List.Mem.tail))) (q_loadNz (us := [_, _, _]) ld_terms_Log rfl (.head _) (by exact ⟨rfl, rfl⟩)) (by kernel_rfl) (by kernel_rfl) (by kernel_rfl) rfl rfl (.nil _) ?_ | refine WPA.takeL 0 rfl (Ent.mem (by repeat (first | exact List.Mem.head _ | apply List.Mem.tail))) (q_loadNk (us := [_, _, _]) ld_terms_Log rfl (.head _) (by exact ⟨rfl, rfl⟩)) (by kernel_rfl) (by kernel_rfl) (by kernel_rfl) rfl rfl (.nil _) ?_
  refine WPA.putS ?_
  first | refine WPA.takeL 1 rfl (Ent.mem (by repeat (first | exact List.Mem.head _ | apply List.Mem.tail))) (q_loadNz (us := [_, _, _]) ld_terms_Log rfl (.head _) (by exact ⟨rfl, rfl⟩)) (by kernel_rfl) (by kernel_rfl) (by kernel_rfl) rfl rfl (.cons (Ent.mem (by repeat (first | exact List.Mem.head _ | apply List.Mem.tail))) (.nil _)) ?_ | refine WPA.takeL 1 rfl (Ent.mem (by repeat (first | exact List.Mem.head _ | apply List.Mem.tail))) (q_loadNk (us := [_, _, _]) ld_terms_Log rfl (.head _) (by exact ⟨rfl, rfl⟩)) (by kernel_rfl) (by kernel_rfl) (by kernel_rfl) rfl rfl (.cons (Ent.mem (by repeat (first | exact List.Mem.head _ | apply List.Mem.tail))) (.nil _)) ?_
  refine WPA.putS ?_
  refine WPA.oneE 2 [(0, [_])] (by kernel_rfl) rfl rfl (by repeat (first | exact .nil | refine .anc rfl ?_ | refine .keep (by repeat (first | exact List.Mem.head _ | apply List.Mem.tail)) ?_)) (C1.call (c_call Try.func29 rfl rfl rfl) (c_Last hb hn) (by repeat (first | exact Pick.nil | apply Pick.keep (by repeat (first | exact List.Mem.head _ | apply List.Mem.tail)) (by first | exact Pers.cells _ _ _ | exact Pers.slv _ _ _) | apply Pick.cons (by repeat (first | exact Pick1.here | apply Pick1.there)))) rfl ?_)
  rintro _ _ ⟨rfl, rfl⟩
  refine ⟨(.cons (Ent.mem (by repeat (first | exact List.Mem.head _ | apply List.Mem.tail))) (.nil _)), ?_⟩
  refine WPA.putS ?_
  refine WPA.oneE 3 [] (by kernel_rfl) rfl rfl (by repeat (first | exact .nil | refine .anc rfl ?_ | refine .keep (by repeat (first | exact List.Mem.head _ | apply List.Mem.tail)) ?_)) (C1.call (c_call Try.func50 rfl rfl rfl) (c_Term hs hb hn (base + n) (by omega)) (by repeat (first | exact Pick.nil | apply Pick.keep (by repeat (first | exact List.Mem.head _ | apply List.Mem.tail)) (by first | exact Pers.cells _ _ _ | exact Pers.slv _ _ _) | apply Pick.cons (by repeat (first | exact Pick1.here | apply Pick1.there)))) rfl ?_)
  rintro _ _ ⟨rfl, rfl⟩
  refine ⟨(.nil _), ?_⟩
  refine WPA.putS ?_
  refine WPA.takeP 4 rfl (q_move rfl) (by kernel_rfl) (by kernel_rfl) (by kernel_rfl) rfl rfl (.nil _) ?_
  refine WPA.putS ?_
  refine WPA.takeP 5 rfl (q_extract rfl rfl) (by kernel_rfl) (by kernel_rfl) (by kernel_rfl) rfl rfl (.nil _) ?_
  refine WPA.putS ?_
  refine WPA.takeP 6 rfl (q_extract rfl rfl) (by kernel_rfl) (by kernel_rfl) (by kernel_rfl) rfl rfl (.nil _) ?_
  refine WPA.putS ?_
  refine WPA.takeP 7 rfl (q_assign rfl) (by kernel_rfl) (by kernel_rfl) (by kernel_rfl) rfl rfl (.nil _) ?_
  refine WPA.putS ?_
  refine WPA.takeP 8 rfl (q_assign rfl) (by kernel_rfl) (by kernel_rfl) (by kernel_rfl) rfl rfl (.nil _) ?_
  refine WPA.putS ?_
  refine WPA.done (by kernel_rfl) ?_
  refine WPC.seqR ?_
  refine L_s (q_move rfl) rfl ?_
  refine L_s (q_assign rfl) rfl ?_
  refine WPL.nil ?_
  refine WPC.ret ?_
  exact endR_r rfl (.tmp rfl .nil) (Imp.pick (by repeat (first | exact Pick.nil | apply Pick.keep (by repeat (first | exact List.Mem.head _ | apply List.Mem.tail)) (by first | exact Pers.cells _ _ _ | exact Pers.slv _ _ _) | apply Pick.cons (by repeat (first | exact Pick1.here | apply Pick1.there))))) ⟨by simp only [packV]; rw [← hl, lgTerm_last]; rfl, rfl⟩

theorem c_Newer {p : Bool} {a : Option Addr} {n c : Nat} {base bt : Int} {es : List RE} (hs : Sok 3 a n c (es.flatMap encE)) (hb : 0 ≤ base ∧ base ≤ 4611686018427387904) (hn : n < 1073741824) (t l : Int) : Trip Try.prog 44 #[(.agg #[.int .u64 base, .int .u64 bt, .slice a n c]), .int .u64 t, .int .u64 l] [sl p a (es.flatMap encE)] fun r Δ => r = .bool (lgNewer base bt es t l) ∧ Δ = [sl p a (es.flatMap encE)] := by
  have hl : es.length = n := by have := hs.len; rw [flat_length encE_len] at this; omega
  refine Trip.start 24 [.tmp 6] [(0, (.agg #[.int .u64 base, .int .u64 bt, .slice a n c])), (1, .int .u64 t), (2, .int .u64 l)] Try.func44 rfl Try.ntmps44 rfl ⟨rfl, rfl, rfl, trivial⟩ rfl ?_
  refine WPC.seqR ?_
  first | refine WPL.cons rfl (E1.wpo (e_boxN rfl) rfl ?_) | refine WPL.cons rfl (E1.wpo (e_box1 rfl rfl) rfl ?_)
  rintro _ _ ⟨b1, rfl, rfl⟩
  refine WPL.putS ?_
  refine L_s (q_assign rfl) rfl ?_
  refine WPL.nil ?_
  refine WPC.seqR ?_
  first | refine L_s (q_loadNz (us := [_, _, _]) ld_terms_Log rfl (by repeat (first | exact List.Mem.head _ | apply List.Mem.tail)) (by exact ⟨rfl, rfl⟩)) rfl ?_ | refine L_s (q_loadNk (us := [_, _, _]) ld_terms_Log rfl (by repeat (first | exact List.Mem.head _ | apply List.Mem.tail)) (by exact ⟨rfl, rfl⟩)) rfl ?_
  refine WPL.cons rfl (C1.call (c_call Try.func30 rfl rfl rfl) (c_LastTerm hs hb hn) (by repeat (first | exact Pick.nil | apply Pick.keep (by repeat (first | exact List.Mem.head _ | apply List.Mem.tail)) (by first | exact Pers.cells _ _ _ | exact Pers.slv _ _ _) | apply Pick.cons (by repeat (first | exact Pick1.here | apply Pick1.there)))) rfl ?_)
  rintro _ _ ⟨rfl, rfl⟩
  refine WPL.putS ?_
  refine L_s (q_assign rfl) rfl ?_
  refine WPL.nil ?_
  refine WPC.seqR ?_
  refine L_s (q_move rfl) rfl ?_
  refine L_s (q_move rfl) rfl ?_
  refine L_s (q_int rfl rfl rfl) rfl ?_
  refine L_s (q_move rfl) rfl ?_
  apply WPL.joinO (e' := [(6, _)]) 13 23 10 rfl
  · intro g2_3
    try simp only [decide_eq_true_eq, decide_eq_false_iff_not, beq_iff_eq, bne_iff_ne, beq_eq_false_iff_ne, bne_eq_false_iff_eq, Bool.not_eq_true', Bool.not_eq_false', Bool.not_eq_eq_eq_not, Bool.not_true, Bool.not_false, ne_eq, Decidable.not_not, Int.not_lt, Int.not_le, gt_iff_lt, ge_iff_le] at g2_3
    refine L_no rfl rfl rfl rfl ?_
    refine L_no rfl rfl rfl rfl ?_
    refine L_no rfl rfl rfl rfl ?_
    refine L_no rfl rfl rfl rfl ?_
    refine L_off rfl rfl rfl ?_
    refine L_off rfl rfl rfl ?_
    refine L_off rfl rfl rfl ?_
    refine L_off rfl rfl rfl ?_
    refine L_no rfl rfl rfl rfl ?_
    first | refine L_s (q_pickT rfl rfl) rfl ?_ | refine L_s (q_pickF rfl rfl) rfl ?_
    first | exact WPL.jn rfl rfl (by repeat (first | exact trivial | refine ⟨rfl, ?_⟩)) | exact WPL.jnI rfl rfl (by repeat (first | exact trivial | refine ⟨rfl, ?_⟩)) (Imp.pick (by repeat (first | exact Pick.nil | apply Pick.keep (by repeat (first | exact List.Mem.head _ | apply List.Mem.tail)) (by first | exact Pers.cells _ _ _ | exact Pers.slv _ _ _) | apply Pick.cons (by repeat (first | exact Pick1.here | apply Pick1.there)))))
  · intro g2_3
    try simp only [decide_eq_true_eq, decide_eq_false_iff_not, beq_iff_eq, bne_iff_ne, beq_eq_false_iff_ne, bne_eq_false_iff_eq, Bool.not_eq_true', Bool.not_eq_false', Bool.not_eq_eq_eq_not, Bool.not_true, Bool.not_false, ne_eq, Decidable.not_not, Int.not_lt, Int.not_le, gt_iff_lt, ge_iff_le] at g2_3
    refine L_yes rfl rfl (q_move rfl) rfl ?_
    refine L_yes rfl rfl (q_move rfl) rfl ?_
    refine L_yes rfl rfl (q_int rfl rfl rfl) rfl ?_
    refine L_yes rfl rfl (q_move rfl) rfl ?_
    apply WPL.joinA (e' := [(6, _), (13, _)]) 17 22 5 rfl
    · intro g2_7
      try simp only [decide_eq_true_eq, decide_eq_false_iff_not, beq_iff_eq, bne_iff_ne, beq_eq_false_iff_ne, bne_eq_false_iff_eq, Bool.not_eq_true', Bool.not_eq_false', Bool.not_eq_eq_eq_not, Bool.not_true, Bool.not_false, ne_eq, Decidable.not_not, Int.not_lt, Int.not_le, gt_iff_lt, ge_iff_le] at g2_7
      refine L_yes rfl rfl (q_move rfl) rfl ?_
      first | refine L_yes rfl rfl (q_loadNz (us := [_, _, _]) ld_terms_Log rfl (by repeat (first | exact List.Mem.head _ | apply List.Mem.tail)) (by exact ⟨rfl, rfl⟩)) rfl ?_ | refine L_yes rfl rfl (q_loadNk (us := [_, _, _]) ld_terms_Log rfl (by repeat (first | exact List.Mem.head _ | apply List.Mem.tail)) (by exact ⟨rfl, rfl⟩)) rfl ?_
      refine L_eyes rfl rfl rfl (C1.call (c_call Try.func29 rfl rfl rfl) (c_Last hb hn) (by repeat (first | exact Pick.nil | apply Pick.keep (by repeat (first | exact List.Mem.head _ | apply List.Mem.tail)) (by first | exact Pers.cells _ _ _ | exact Pers.slv _ _ _) | apply Pick.cons (by repeat (first | exact Pick1.here | apply Pick1.there)))) rfl ?_)
      rintro _ _ ⟨rfl, rfl⟩
      refine WPL.putS ?_
      refine L_yes rfl rfl (q_int rfl rfl rfl) rfl ?_
      first | refine L_yes rfl rfl (q_pickT rfl rfl) rfl ?_ | refine L_yes rfl rfl (q_pickF rfl rfl) rfl ?_
      first | exact WPL.jn rfl rfl (by repeat (first | exact trivial | refine ⟨rfl, ?_⟩)) | exact WPL.jnI rfl rfl (by repeat (first | exact trivial | refine ⟨rfl, ?_⟩)) (Imp.pick (by repeat (first | exact Pick.nil | apply Pick.keep (by repeat (first | exact List.Mem.head _ | apply List.Mem.tail)) (by first | exact Pers.cells _ _ _ | exact Pers.slv _ _ _) | apply Pick.cons (by repeat (first | exact Pick1.here | apply Pick1.there)))))
    · intro g2_7
      try simp only [decide_eq_true_eq, decide_eq_false_iff_not, beq_iff_eq, bne_iff_ne, beq_eq_false_iff_ne, bne_eq_false_iff_eq, Bool.not_eq_true', Bool.not_eq_false', Bool.not_eq_eq_eq_not, Bool.not_true, Bool.not_false, ne_eq, Decidable.not_not, Int.not_lt, Int.not_le, gt_iff_lt, ge_iff_le] at g2_7
      refine L_no rfl rfl rfl rfl ?_
      refine L_no rfl rfl rfl rfl ?_
      refine L_no rfl rfl rfl rfl ?_
      refine L_no rfl rfl rfl rfl ?_
      first | refine L_yes rfl rfl (q_pickT rfl rfl) rfl ?_ | refine L_yes rfl rfl (q_pickF rfl rfl) rfl ?_
      first | exact WPL.jn rfl rfl (by repeat (first | exact trivial | refine ⟨rfl, ?_⟩)) | exact WPL.jnI rfl rfl (by repeat (first | exact trivial | refine ⟨rfl, ?_⟩)) (Imp.pick (by repeat (first | exact Pick.nil | apply Pick.keep (by repeat (first | exact List.Mem.head _ | apply List.Mem.tail)) (by first | exact Pers.cells _ _ _ | exact Pers.slv _ _ _) | apply Pick.cons (by repeat (first | exact Pick1.here | apply Pick1.there)))))
    first | refine L_s (q_pickT rfl rfl) rfl ?_ | refine L_s (q_pickF rfl rfl) rfl ?_
    first | exact WPL.jn rfl rfl (by repeat (first | exact trivial | refine ⟨rfl, ?_⟩)) | exact WPL.jnI rfl rfl (by repeat (first | exact trivial | refine ⟨rfl, ?_⟩)) (Imp.pick (by repeat (first | exact Pick.nil | apply Pick.keep (by repeat (first | exact List.Mem.head _ | apply List.Mem.tail)) (by first | exact Pers.cells _ _ _ | exact Pers.slv _ _ _) | apply Pick.cons (by repeat (first | exact Pick1.here | apply Pick1.there)))))
  refine L_s (q_assign rfl) rfl ?_
  refine WPL.nil ?_
  refine WPC.ret ?_
  exact endR_r rfl (.tmp rfl .nil) (Imp.pick (by repeat (first | exact Pick.nil | apply Pick.keep (by repeat (first | exact List.Mem.head _ | apply List.Mem.tail)) (by first | exact Pers.cells _ _ _ | exact Pers.slv _ _ _) | apply Pick.cons (by repeat (first | exact Pick1.here | apply Pick1.there))))) ⟨by simp only [packV, lgNewer, hl, gt_iff_lt, ge_iff_le]; rfl, rfl⟩

theorem c_count {p q : Bool} {a a' : Option Addr} {n c n' c' : Nat} {xs ys : List Int} (hs : Sok 1 a n c (xs.map (.int .i64))) (hs' : Sok 1 a' n' c' (ys.map (.int .i64))) (hn : n < 1073741824) (hn' : n' < 1073741824) : Trip Try.prog 51 #[.slice a n c, .slice a' n' c'] [sl p a (xs.map (.int .i64)), sl q a' (ys.map (.int .i64))] fun r Δ => r = .int .i64 (cntIn xs ys : Nat) ∧ Δ = [sl p a (xs.map (.int .i64)), sl q a' (ys.map (.int .i64))] := by
  have hl : xs.length = n := by have := hs.len; simpa using this
  refine Trip.start 21 [.tmp 4] [(0, .slice a n c), (1, .slice a' n' c')] Try.func51 rfl Try.ntmps51 rfl ⟨rfl, rfl, trivial⟩ rfl ?_
  refine WPC.seqR ?_
  refine L_s (q_assign rfl) rfl ?_
  refine WPL.nil ?_
  refine WPC.seqR ?_
  refine L_s (q_assign rfl) rfl ?_
  refine WPL.nil ?_
  refine WPC.seq ?_
  refine WPC.seqR ?_
  refine L_s (q_move rfl) rfl ?_
  refine L_s (q_len rfl un_sl_int rfl) rfl ?_
  refine L_s (q_move rfl) rfl ?_
  refine WPL.nil ?_
  refine WPC.block ?_
  refine WPC.loopS (fun m e Γ => ∃ k : Nat, m = n - k ∧ k ≤ n ∧ e = [(0, .slice a n c), (1, .slice a' n' c'), (8, .slice a n c), (9, .int .i64 (n : Int)), (10, .int .i64 (k : Int)), (5, .int .i64 ((cntIn (xs.take k) ys : Nat) : Int))] ∧ Γ = [sl p a (xs.map (.int .i64)), sl q a' (ys.map (.int .i64))]) (n) ⟨0, rfl, by omega, rfl, rfl⟩ (by repeat (first | exact trivial | refine ⟨rfl, ?_⟩)) (Imp.pick (by repeat (first | exact Pick.nil | apply Pick.keep (by repeat (first | exact List.Mem.head _ | apply List.Mem.tail)) (by first | exact Pers.cells _ _ _ | exact Pers.slv _ _ _) | apply Pick.cons (by repeat (first | exact Pick1.here | apply Pick1.there))))) ?_
  rintro m e Γ ⟨k, rfl, hk, rfl, rfl⟩
  have hc := cntIn_le (xs.take k) ys
  rw [List.length_take] at hc
  refine WPC.seqR ?_
  refine L_s (q_int rfl rfl rfl) rfl ?_
  refine WPL.nil ?_
  refine WPC.seq ?_
  refine WPC.cond rfl (fun h0 => ?_) (fun h0 => ?_)
  · simp only [decide_eq_true_eq] at h0
    have hk' : k < n := by omega
    have hp : Pl a := hs.at (by omega) (by omega)
    obtain ⟨x, hx⟩ : ∃ x, xs[k]? = some x := ⟨xs[k]'(by omega), by simp⟩
    refine WPC.skip ?_
    refine thenQ_n ?_
    refine WPC.seq ?_
    refine WPC.block ?_
    refine WPC.seqR ?_
    first | refine L_s (q_idxN sl_sl_int rfl rfl (by omega) (by assumption)) rfl ?_ | refine L_s (q_idx sl_sl_int rfl rfl (by omega) (by omega) (by assumption)) rfl ?_
    refine L_s (q_ldMap ld_int rfl (by repeat (first | exact List.Mem.head _ | apply List.Mem.tail)) hx) rfl ?_
    refine L_s (q_assign rfl) rfl ?_
    refine WPL.nil ?_
    refine WPC.seqR ?_
    refine L_s (q_move rfl) rfl ?_
    refine L_s (q_move rfl) rfl ?_
    refine WPL.cons rfl (C1.call (c_call Try.func28 rfl rfl rfl) (c_Contains hs' hn' x) (by repeat (first | exact Pick.nil | apply Pick.keep (by repeat (first | exact List.Mem.head _ | apply List.Mem.tail)) (by first | exact Pers.cells _ _ _ | exact Pers.slv _ _ _) | apply Pick.cons (by repeat (first | exact Pick1.here | apply Pick1.there)))) rfl ?_)
    rintro _ _ ⟨rfl, rfl⟩
    refine WPL.putS ?_
    refine WPL.nil ?_
    refine WPC.cond rfl (fun h1 => ?_) (fun h1 => ?_)
    · try simp only [decide_eq_true_eq, decide_eq_false_iff_not, beq_iff_eq, bne_iff_ne, beq_eq_false_iff_ne, bne_eq_false_iff_eq, Bool.not_eq_true', Bool.not_eq_false', Bool.not_eq_eq_eq_not, Bool.not_true, Bool.not_false, ne_eq, Decidable.not_not, Int.not_lt, Int.not_le, gt_iff_lt, ge_iff_le] at h1
      refine WPC.region ?_
      refine L_s (q_move rfl) rfl ?_
      first | refine L_s (q_inc rfl rfl (by omega)) rfl ?_ | refine L_s (q_addI rfl rfl (by omega)) rfl ?_ | refine L_s (q_int rfl rfl rfl) rfl ?_
      refine L_s (q_assign rfl) rfl ?_
      refine WPL.nil ?_
      refine blockQ_n ?_
      refine thenQ_n ?_
      refine WPC.region ?_
      first | refine L_s (q_inc rfl rfl (by omega)) rfl ?_ | refine L_s (q_addI rfl rfl (by omega)) rfl ?_ | refine L_s (q_int rfl rfl rfl) rfl ?_
      refine L_s (q_move rfl) rfl ?_
      refine WPL.nil ?_
      refine thenQ_n ?_
      exact ⟨rfl, _, _, _, by omega, ⟨k + 1, rfl, by omega, by first | rw [cntIn_succ hx, if_pos h1] | rw [cntIn_succ hx, if_neg h1, Nat.add_zero], rfl⟩, (by repeat (first | exact trivial | refine ⟨rfl, ?_⟩)), Imp.pick (by repeat (first | exact Pick.nil | apply Pick.keep (by repeat (first | exact List.Mem.head _ | apply List.Mem.tail)) (by first | exact Pers.cells _ _ _ | exact Pers.slv _ _ _) | apply Pick.cons (by repeat (first | exact Pick1.here | apply Pick1.there))))⟩
    · try simp only [decide_eq_true_eq, decide_eq_false_iff_not, beq_iff_eq, bne_iff_ne, beq_eq_false_iff_ne, bne_eq_false_iff_eq, Bool.not_eq_true', Bool.not_eq_false', Bool.not_eq_eq_eq_not, Bool.not_true, Bool.not_false, ne_eq, Decidable.not_not, Int.not_lt, Int.not_le, gt_iff_lt, ge_iff_le] at h1
      refine WPC.skip ?_
      refine blockQ_n ?_
      refine thenQ_n ?_
      refine WPC.region ?_
      first | refine L_s (q_inc rfl rfl (by omega)) rfl ?_ | refine L_s (q_addI rfl rfl (by omega)) rfl ?_ | refine L_s (q_int rfl rfl rfl) rfl ?_
      refine L_s (q_move rfl) rfl ?_
      refine WPL.nil ?_
      refine thenQ_n ?_
      exact ⟨rfl, _, _, _, by omega, ⟨k + 1, rfl, by omega, by first | rw [cntIn_succ hx, if_pos h1] | rw [cntIn_succ hx, if_neg h1, Nat.add_zero], rfl⟩, (by repeat (first | exact trivial | refine ⟨rfl, ?_⟩)), Imp.pick (by repeat (first | exact Pick.nil | apply Pick.keep (by repeat (first | exact List.Mem.head _ | apply List.Mem.tail)) (by first | exact Pers.cells _ _ _ | exact Pers.slv _ _ _) | apply Pick.cons (by repeat (first | exact Pick1.here | apply Pick1.there))))⟩
  · simp only [decide_eq_false_iff_not] at h0
    have hk' : k = n := by omega
    refine WPC.exit ?_
    refine thenQ_e ?_
    refine thenQ_e ?_
    refine blockQ_here ?_
    refine thenQ_n ?_
    refine WPC.seqR ?_
    refine L_s (q_move rfl) rfl ?_
    refine L_s (q_assign rfl) rfl ?_
    refine WPL.nil ?_
    refine WPC.ret ?_
    subst hk'
    exact endR_r rfl (.tmp rfl .nil) (Imp.pick (by repeat (first | exact Pick.nil | apply Pick.keep (by repeat (first | exact List.Mem.head _ | apply List.Mem.tail)) (by first | exact Pers.cells _ _ _ | exact Pers.slv _ _ _) | apply Pick.cons (by repeat (first | exact Pick1.here | apply Pick1.there))))) ⟨by simp only [packV]; rw [List.take_of_length_le (by omega)], rfl⟩

theorem c_Agrees {p q : Bool} {a a' : Option Addr} {n c n' c' : Nat} {xs ys : List Int} (hs : Sok 1 a n c (xs.map (.int .i64))) (hs' : Sok 1 a' n' c' (ys.map (.int .i64))) (hn : n < 1073741824) (hn' : n' < 1073741824) : Trip Try.prog 31 #[.slice a n c, .slice a' n' c'] [sl p a (xs.map (.int .i64)), sl q a' (ys.map (.int .i64))] fun r Δ => r = .bool (agrees xs ys) ∧ Δ = [sl p a (xs.map (.int .i64)), sl q a' (ys.map (.int .i64))] := by
  have hl : xs.length = n := by have := hs.len; simpa using this
  refine Trip.start 11 [.tmp 4] [(0, .slice a n c), (1, .slice a' n' c')] Try.func31 rfl Try.ntmps31 rfl ⟨rfl, rfl, trivial⟩ rfl ?_
  refine WPC.seqR ?_
  refine L_s (q_assign rfl) rfl ?_
  refine WPL.nil ?_
  refine WPC.seqR ?_
  refine L_s (q_move rfl) rfl ?_
  refine L_s (q_move rfl) rfl ?_
  refine WPL.cons rfl (C1.call (c_call Try.func51 rfl rfl rfl) (c_count hs hs' hn hn') (by repeat (first | exact Pick.nil | apply Pick.keep (by repeat (first | exact List.Mem.head _ | apply List.Mem.tail)) (by first | exact Pers.cells _ _ _ | exact Pers.slv _ _ _) | apply Pick.cons (by repeat (first | exact Pick1.here | apply Pick1.there)))) rfl ?_)
  rintro _ _ ⟨rfl, rfl⟩
  refine WPL.putS ?_
  refine L_s (q_move rfl) rfl ?_
  refine WPL.cons rfl (C1.call (c_call Try.func52 rfl rfl rfl) (c_Majority hn) (by repeat (first | exact Pick.nil | apply Pick.keep (by repeat (first | exact List.Mem.head _ | apply List.Mem.tail)) (by first | exact Pers.cells _ _ _ | exact Pers.slv _ _ _) | apply Pick.cons (by repeat (first | exact Pick1.here | apply Pick1.there)))) rfl ?_)
  rintro _ _ ⟨rfl, rfl⟩
  refine WPL.putS ?_
  refine L_s (q_int rfl rfl rfl) rfl ?_
  refine L_s (q_assign rfl) rfl ?_
  refine WPL.nil ?_
  refine WPC.ret ?_
  exact endR_r rfl (.tmp rfl .nil) (Imp.pick (by repeat (first | exact Pick.nil | apply Pick.keep (by repeat (first | exact List.Mem.head _ | apply List.Mem.tail)) (by first | exact Pers.cells _ _ _ | exact Pers.slv _ _ _) | apply Pick.cons (by repeat (first | exact Pick1.here | apply Pick1.there))))) ⟨by simp only [packV, agrees, hl, ge_iff_le, Int.ofNat_le], rfl⟩

theorem c_Clone {p : Bool} {a : Option Addr} {n c : Nat} {xs : List Int} (hs : Sok 1 a n c (xs.map (.int .i64))) (hn : n < 1073741824) : Trip Try.prog 26 #[.slice a n c] [sl p a (xs.map (.int .i64))] fun r Δ => ∃ a' c', r = .slice a' n c' ∧ Δ = [buf 1 a' n c' (xs.map (.int .i64)), sl p a (xs.map (.int .i64))] := by
  refine Trip.start 8 [.tmp 2] [(0, .slice a n c)] Try.func26 rfl Try.ntmps26 rfl ⟨rfl, trivial⟩ rfl ?_
  refine WPC.seqR ?_
  refine L_s (q_assign rfl) rfl ?_
  refine WPL.nil ?_
  refine WPC.seq ?_
  refine WPC.seqR ?_
  refine L_s (q_move rfl) rfl ?_
  refine L_s (q_slNilEq un_sl_int rfl rfl) rfl ?_
  refine WPL.nil ?_
  refine WPC.cond rfl (fun h0 => ?_) (fun h0 => ?_)
  · simp only [Option.isNone_iff_eq_none] at h0
    have h1 := hs.none0 (by omega) h0
    subst h0 h1
    have h2 : xs = [] := by have := hs.len; simpa using this
    subst h2
    refine WPC.seqR ?_
    refine L_s (q_assign rfl) rfl ?_
    refine WPL.nil ?_
    refine WPC.ret ?_
    refine thenQ_r ?_
    exact endR_r rfl (.tmp rfl .nil) (Imp.bufNil.trans (Imp.pick (by repeat (first | exact Pick.nil | apply Pick.keep (by repeat (first | exact List.Mem.head _ | apply List.Mem.tail)) (by first | exact Pers.cells _ _ _ | exact Pers.slv _ _ _) | apply Pick.cons (by repeat (first | exact Pick1.here | apply Pick1.there)))))) ⟨none, 0, rfl, rfl⟩
  · skip
    refine WPC.skip ?_
    refine thenQ_n ?_
    refine WPC.seqR ?_
    refine WPL.cons rfl (E1.wpo (e_buildSlice mk_sl_int (by decide) rfl rfl rfl) rfl ?_)
    rintro _ _ ⟨b1, rfl, rfl⟩
    refine WPL.putS ?_
    refine L_s (q_move rfl) rfl ?_
    refine WPL.imp (Imp.bufNew (sz := 1) (n := 0) (cs := []) rfl) ?_
    refine WPL.cons rfl (E1.wpo (e_append (n := 0) (cs := []) mk_sl_int (by decide) rfl rfl (Pick1.here (c := buf 1 (some ⟨b1, 0, none⟩) 0 0 [])) (Rd.mem hs (hs.none0 (by omega)) (p := p) (by repeat (first | exact List.Mem.head _ | apply List.Mem.tail))) (by simp [Value.oneCell']) (by omega) (by omega)) rfl ?_)
    rintro _ _ ⟨a', c', rfl, -, rfl⟩
    simp only [Nat.zero_add, List.nil_append]
    refine WPL.putS ?_
    refine L_s (q_assign rfl) rfl ?_
    refine WPL.nil ?_
    refine WPC.ret ?_
    exact endR_r rfl (.tmp rfl .nil) (Imp.pick (by repeat (first | exact Pick.nil | apply Pick.keep (by repeat (first | exact List.Mem.head _ | apply List.Mem.tail)) (by first | exact Pers.cells _ _ _ | exact Pers.slv _ _ _) | apply Pick.cons (by repeat (first | exact Pick1.here | apply Pick1.there))))) ⟨a', c', rfl, rfl⟩

theorem c_IndexFunc {p : Bool} {a : Option Addr} {n c : Nat} {xs : List Int} (hs : Sok 1 a n c (xs.map (.int .i64))) (hn : n < 1073741824) {k : Nat} {fn : Func} {cd : Code} {q : Array Value} {C : A} {f : Int → Bool} (hk : Try.prog.funcs[k]? = some fn) (hcb : fn.body = some cd) (hkn : (fn.name == "runtime.NumGoroutine") = false) (hcl : ∀ x, Trip Try.prog k (#[] ++ [Value.int .i64 x].toArray ++ q) [C] (fun r Δ => r = .bool (f x) ∧ Δ = [C])) : Trip Try.prog 48 #[.slice a n c, .func (.func k) #[] q] [sl p a (xs.map (.int .i64)), C] fun r Δ => (∃ i : Int, r = .int .i64 i ∧ ((i = -1 ∧ ∀ x ∈ xs, f x = false) ∨ (∃ (j : Nat) (x : Int), i = (j : Int) ∧ xs[j]? = some x ∧ f x = true ∧ ∀ x ∈ xs.take j, f x = false))) ∧ Δ = [sl p a (xs.map (.int .i64)), C] := by
  have hl : xs.length = n := by have := hs.len; simpa using this
  refine Trip.start 19 [.tmp 4] [(0, .slice a n c), (1, .func (.func k) #[] q)] Try.func48 rfl Try.ntmps48 rfl ⟨rfl, rfl, trivial⟩ rfl ?_
  refine WPC.seqR ?_
  refine L_s (q_assign rfl) rfl ?_
  refine WPL.nil ?_
  refine WPC.seq ?_
  refine WPC.seqR ?_
  refine L_s (q_move rfl) rfl ?_
  refine L_s (q_len rfl un_sl_int rfl) rfl ?_
  refine L_s (q_move rfl) rfl ?_
  refine WPL.nil ?_
  refine WPC.block ?_
  refine WPC.loopS (fun m e Γ => ∃ j : Nat, m = n - j ∧ j ≤ n ∧ (∀ x ∈ xs.take j, f x = false) ∧ e = [(0, .slice a n c), (1, .func (.func k) #[] q), (7, .int .i64 (n : Int)), (8, .int .i64 (j : Int))] ∧ Γ = [sl p a (xs.map (.int .i64)), C]) (n) ⟨0, rfl, by omega, by simp, rfl, rfl⟩ (by repeat (first | exact trivial | refine ⟨rfl, ?_⟩)) (Imp.pick (by repeat (first | exact Pick.nil | apply Pick.keep (by repeat (first | exact List.Mem.head _ | apply List.Mem.tail)) (by first | exact Pers.cells _ _ _ | exact Pers.slv _ _ _) | apply Pick.cons (by repeat (first | exact Pick1.here | apply Pick1.there))))) ?_
  rintro m e Γ ⟨j, rfl, hj, hv, rfl, rfl⟩
  refine WPC.seqR ?_
  refine L_s (q_int rfl rfl rfl) rfl ?_
  refine WPL.nil ?_
  refine WPC.seq ?_
  refine WPC.cond rfl (fun h0 => ?_) (fun h0 => ?_)
  · simp only [decide_eq_true_eq] at h0
    have hj' : j < n := by omega
    have hp : Pl a := hs.at (by omega) (by omega)
    obtain ⟨x, hx⟩ : ∃ x, xs[j]? = some x := ⟨xs[j]'(by omega), by simp⟩
    refine WPC.skip ?_
    refine thenQ_n ?_
    refine WPC.seq ?_
    refine WPC.block ?_
    refine WPC.seqR ?_
    refine L_s (q_move rfl) rfl ?_
    refine L_s (q_assign rfl) rfl ?_
    refine WPL.nil ?_
    refine WPC.seqR ?_
    refine L_s (q_move rfl) rfl ?_
    refine L_s (q_move rfl) rfl ?_
    refine L_s (q_move rfl) rfl ?_
    first | refine L_s (q_idxN sl_sl_int rfl rfl (by omega) (by assumption)) rfl ?_ | refine L_s (q_idx sl_sl_int rfl rfl (by omega) (by omega) (by assumption)) rfl ?_
    refine L_s (q_ldMap ld_int rfl (by repeat (first | exact List.Mem.head _ | apply List.Mem.tail)) hx) rfl ?_
    refine WPL.cons rfl (C1.call (c_callV rfl (by first | assumption | rfl) (by first | assumption | rfl) (by first | assumption | rfl) rfl) (hcl x) (by repeat (first | exact Pick.nil | apply Pick.keep (by repeat (first | exact List.Mem.head _ | apply List.Mem.tail)) (by first | exact Pers.cells _ _ _ | exact Pers.slv _ _ _) | apply Pick.cons (by repeat (first | exact Pick1.here | apply Pick1.there)))) rfl ?_)
    rintro _ _ ⟨rfl, rfl⟩
    refine WPL.putS ?_
    refine WPL.nil ?_
    refine WPC.cond rfl (fun h1 => ?_) (fun h1 => ?_)
    · try simp only [decide_eq_true_eq, decide_eq_false_iff_not, beq_iff_eq, bne_iff_ne, beq_eq_false_iff_ne, bne_eq_false_iff_eq, Bool.not_eq_true', Bool.not_eq_false', Bool.not_eq_eq_eq_not, Bool.not_true, Bool.not_false, ne_eq, Decidable.not_not, Int.not_lt, Int.not_le, gt_iff_lt, ge_iff_le] at h1
      refine WPC.seqR ?_
      refine L_s (q_move rfl) rfl ?_
      refine L_s (q_assign rfl) rfl ?_
      refine WPL.nil ?_
      refine WPC.ret ?_
      refine blockQ_r ?_
      refine thenQ_r ?_
      refine thenQ_r ?_
      refine blockQ_r ?_
      refine thenQ_r ?_
      exact endR_r rfl (.tmp rfl .nil) (Imp.pick (by repeat (first | exact Pick.nil | apply Pick.keep (by repeat (first | exact List.Mem.head _ | apply List.Mem.tail)) (by first | exact Pers.cells _ _ _ | exact Pers.slv _ _ _) | apply Pick.cons (by repeat (first | exact Pick1.here | apply Pick1.there))))) ⟨⟨j, rfl, .inr ⟨j, x, rfl, hx, h1, hv⟩⟩, rfl⟩
    · try simp only [decide_eq_true_eq, decide_eq_false_iff_not, beq_iff_eq, bne_iff_ne, beq_eq_false_iff_ne, bne_eq_false_iff_eq, Bool.not_eq_true', Bool.not_eq_false', Bool.not_eq_eq_eq_not, Bool.not_true, Bool.not_false, ne_eq, Decidable.not_not, Int.not_lt, Int.not_le, gt_iff_lt, ge_iff_le] at h1
      refine WPC.skip ?_
      refine blockQ_n ?_
      refine thenQ_n ?_
      refine WPC.region ?_
      first | refine L_s (q_inc rfl rfl (by omega)) rfl ?_ | refine L_s (q_addI rfl rfl (by omega)) rfl ?_ | refine L_s (q_int rfl rfl rfl) rfl ?_
      refine L_s (q_move rfl) rfl ?_
      refine WPL.nil ?_
      refine thenQ_n ?_
      exact ⟨rfl, _, _, _, by omega, ⟨j + 1, rfl, by omega, by intro y hy; rw [take_succ hx, List.mem_append] at hy; rcases hy with hy | hy; exact hv y hy; rw [List.mem_singleton] at hy; rw [hy]; exact h1, rfl, rfl⟩, (by repeat (first | exact trivial | refine ⟨rfl, ?_⟩)), Imp.pick (by repeat (first | exact Pick.nil | apply Pick.keep (by repeat (first | exact List.Mem.head _ | apply List.Mem.tail)) (by first | exact Pers.cells _ _ _ | exact Pers.slv _ _ _) | apply Pick.cons (by repeat (first | exact Pick1.here | apply Pick1.there))))⟩
  · simp only [decide_eq_false_iff_not] at h0
    have hj' : j = n := by omega
    refine WPC.exit ?_
    refine thenQ_e ?_
    refine thenQ_e ?_
    refine blockQ_here ?_
    refine thenQ_n ?_
    refine WPC.seqR ?_
    refine L_s (q_assign rfl) rfl ?_
    refine WPL.nil ?_
    refine WPC.ret ?_
    subst hj'
    exact endR_r rfl (.tmp rfl .nil) (Imp.pick (by repeat (first | exact Pick.nil | apply Pick.keep (by repeat (first | exact List.Mem.head _ | apply List.Mem.tail)) (by first | exact Pers.cells _ _ _ | exact Pers.slv _ _ _) | apply Pick.cons (by repeat (first | exact Pick1.here | apply Pick1.there))))) ⟨⟨-1, rfl, .inl ⟨rfl, by rwa [← hl, List.take_length] at hv⟩⟩, rfl⟩

theorem c_DeleteFunc {a : Option Addr} {n c : Nat} {xs : List Int} (hs : Sok 1 a n c (xs.map (.int .i64))) (hn : n < 1073741824) {k : Nat} {fn : Func} {cd : Code} {q : Array Value} {C : A} {f : Int → Bool} (hk : Try.prog.funcs[k]? = some fn) (hcb : fn.body = some cd) (hkn : (fn.name == "runtime.NumGoroutine") = false) (hcl : ∀ x, Trip Try.prog k (#[] ++ [Value.int .i64 x].toArray ++ q) [C] (fun r Δ => r = .bool (f x) ∧ Δ = [C])) : Trip Try.prog 25 #[.slice a n c, .func (.func k) #[] q] [sl true a (xs.map (.int .i64)), C] fun r Δ => ∃ (ys : List Int) (zs : List Value), ys = xs.filter (fun x => !f x) ∧ ys.length ≤ n ∧ r = .slice a ys.length c ∧ Δ = [sl true a (ys.map (.int .i64) ++ zs), C] := by
  have hl : xs.length = n := by have := hs.len; simpa using this
  have hcap := hs.cap
  refine Trip.start 42 [.tmp 4] [(0, .slice a n c), (1, .func (.func k) #[] q)] Try.func25 rfl Try.ntmps25 rfl ⟨rfl, rfl, trivial⟩ rfl ?_
  refine WPC.seqR ?_
  refine L_s (q_assign rfl) rfl ?_
  refine WPL.nil ?_
  refine WPC.seqR ?_
  refine L_s (q_move rfl) rfl ?_
  refine L_s (q_move rfl) rfl ?_
  refine WPL.cons rfl (C1.call (c_call Try.func48 rfl rfl rfl) (c_IndexFunc hs hn hk hcb hkn hcl) (by repeat (first | exact Pick.nil | apply Pick.keep (by repeat (first | exact List.Mem.head _ | apply List.Mem.tail)) (by first | exact Pers.cells _ _ _ | exact Pers.slv _ _ _) | apply Pick.cons (by repeat (first | exact Pick1.here | apply Pick1.there)))) rfl ?_)
  rintro _ _ ⟨⟨i, rfl, hi⟩, rfl⟩
  refine WPL.putS ?_
  refine L_s (q_assign rfl) rfl ?_
  refine WPL.nil ?_
  refine WPC.seq ?_
  refine WPC.seqR ?_
  refine L_s (q_move rfl) rfl ?_
  refine L_s (q_int rfl rfl rfl) rfl ?_
  refine WPL.nil ?_
  refine WPC.cond rfl (fun h0 => ?_) (fun h0 => ?_)
  · simp only [beq_iff_eq] at h0
    subst h0
    refine WPC.seqR ?_
    refine L_s (q_move rfl) rfl ?_
    refine L_s (q_assign rfl) rfl ?_
    refine WPL.nil ?_
    refine WPC.ret ?_
    refine thenQ_r ?_
    rcases hi with ⟨-, hi⟩ | ⟨j, x, hj, -⟩
    · have hys : xs.filter (fun x => !f x) = xs := by rw [List.filter_eq_self]; intro x hx; simp [hi x hx]
      subst hl
      exact endR_r rfl (.tmp rfl .nil) (Imp.pick (by repeat (first | exact Pick.nil | apply Pick.keep (by repeat (first | exact List.Mem.head _ | apply List.Mem.tail)) (by first | exact Pers.cells _ _ _ | exact Pers.slv _ _ _) | apply Pick.cons (by repeat (first | exact Pick1.here | apply Pick1.there))))) ⟨xs, [], hys.symm, Nat.le_refl _, rfl, congrArg (fun l => [sl true a l, C]) (List.append_nil _).symm⟩
    · omega
  · simp only [beq_eq_false_iff_ne, ne_eq] at h0
    rcases hi with ⟨hi, -⟩ | ⟨i1, x0, rfl, hx0, hf0, hpre⟩
    · exact absurd hi h0
    have hi0 : i1 < n := by rw [List.getElem?_eq_some_iff] at hx0; obtain ⟨h, -⟩ := hx0; omega
    refine WPC.skip ?_
    refine thenQ_n ?_
    refine WPC.seq ?_
    refine WPC.seqR ?_
    refine L_s (q_move rfl) rfl ?_
    first | refine L_s (q_inc rfl rfl (by omega)) rfl ?_ | refine L_s (q_addI rfl rfl (by omega)) rfl ?_ | refine L_s (q_int rfl rfl rfl) rfl ?_
    refine L_s (q_assign rfl) rfl ?_
    refine WPL.nil ?_
    refine WPC.block ?_
    refine WPC.loopS (fun m e Γ => ∃ (j i : Nat) (cur : List Int), m = n - j ∧ j ≤ n ∧ i < j ∧ cur.length = n ∧ cur.take i = (xs.take j).filter (fun x => !f x) ∧ cur.drop j = xs.drop j ∧ e = [(0, .slice a n c), (1, .func (.func k) #[] q), (5, .int .i64 (i : Int)), (6, .int .i64 (j : Int))] ∧ Γ = [sl true a (cur.map (.int .i64)), C]) (n - (i1 + 1)) ⟨i1 + 1, i1, xs, rfl, by omega, by omega, hl, by rw [filter_take_succ _ hx0, hf0, List.filter_eq_self.2 (fun y hy => by simp [hpre y hy])]; simp, rfl, rfl, rfl⟩ (by repeat (first | exact trivial | refine ⟨rfl, ?_⟩)) (Imp.pick (by repeat (first | exact Pick.nil | apply Pick.keep (by repeat (first | exact List.Mem.head _ | apply List.Mem.tail)) (by first | exact Pers.cells _ _ _ | exact Pers.slv _ _ _) | apply Pick.cons (by repeat (first | exact Pick1.here | apply Pick1.there))))) ?_
    clear hi0 hx0 hf0 hpre h0
    rintro m e Γ ⟨j, i, cur, rfl, hj, hij, hcl', ht, hd, rfl, rfl⟩
    refine WPC.seq ?_
    refine WPC.seqR ?_
    refine L_s (q_move rfl) rfl ?_
    refine L_s (q_move rfl) rfl ?_
    refine L_s (q_len rfl un_sl_int rfl) rfl ?_
    refine L_s (q_int rfl rfl rfl) rfl ?_
    refine WPL.nil ?_
    refine WPC.cond rfl (fun h1 => ?_) (fun h1 => ?_)
    · simp only [decide_eq_true_eq] at h1
      have hj' : j < n := by omega
      have hp : Pl a := hs.at (by omega) (by omega)
      obtain ⟨x, hx⟩ : ∃ x, xs[j]? = some x := ⟨xs[j]'(by omega), by simp⟩
      have hx' : cur[j]? = some x := by have := congrArg (·[0]?) hd; simpa [hx] using this
      refine WPC.skip ?_
      refine thenQ_n ?_
      refine WPC.seq ?_
      refine WPC.block ?_
      refine WPC.seqR ?_
      refine L_s (q_move rfl) rfl ?_
      refine L_s (q_move rfl) rfl ?_
      first | refine L_s (q_idxN sl_sl_int rfl rfl (by omega) (by assumption)) rfl ?_ | refine L_s (q_idx sl_sl_int rfl rfl (by omega) (by omega) (by assumption)) rfl ?_
      refine L_s (q_ldMap ld_int rfl (by repeat (first | exact List.Mem.head _ | apply List.Mem.tail)) hx') rfl ?_
      refine L_s (q_assign rfl) rfl ?_
      refine WPL.nil ?_
      refine WPC.seqR ?_
      refine L_s (q_move rfl) rfl ?_
      refine L_s (q_move rfl) rfl ?_
      refine WPL.cons rfl (C1.call (c_callV rfl (by first | assumption | rfl) (by first | assumption | rfl) (by first | assumption | rfl) rfl) (hcl x) (by repeat (first | exact Pick.nil | apply Pick.keep (by repeat (first | exact List.Mem.head _ | apply List.Mem.tail)) (by first | exact Pers.cells _ _ _ | exact Pers.slv _ _ _) | apply Pick.cons (by repeat (first | exact Pick1.here | apply Pick1.there)))) rfl ?_)
      rintro _ _ ⟨rfl, rfl⟩
      refine WPL.putS ?_
      refine L_s (q_not rfl) rfl ?_
      refine WPL.nil ?_
      refine WPC.cond rfl (fun h2 => ?_) (fun h2 => ?_)
      · try simp only [decide_eq_true_eq, decide_eq_false_iff_not, beq_iff_eq, bne_iff_ne, beq_eq_false_iff_ne, bne_eq_false_iff_eq, Bool.not_eq_true', Bool.not_eq_false', Bool.not_eq_eq_eq_not, Bool.not_true, Bool.not_false, ne_eq, Decidable.not_not, Int.not_lt, Int.not_le, gt_iff_lt, ge_iff_le] at h2
        refine WPC.seqR ?_
        refine L_s (q_move rfl) rfl ?_
        refine L_s (q_move rfl) rfl ?_
        refine L_s (q_move rfl) rfl ?_
        first | refine L_s (q_idxN sl_sl_int rfl rfl (by omega) (by assumption)) rfl ?_ | refine L_s (q_idx sl_sl_int rfl rfl (by omega) (by omega) (by assumption)) rfl ?_
        refine WPL.cons rfl (S1.wpo (s_storeMap (xs := cur) (f := .int .i64) sz_int rfl rfl rfl rfl (by omega) (by repeat (first | exact Upd.here | apply Upd.there))) rfl ?_)
        refine WPL.putN ?_
        refine WPL.nil ?_
        refine WPC.region ?_
        refine L_s (q_move rfl) rfl ?_
        first | refine L_s (q_inc rfl rfl (by omega)) rfl ?_ | refine L_s (q_addI rfl rfl (by omega)) rfl ?_ | refine L_s (q_int rfl rfl rfl) rfl ?_
        refine L_s (q_assign rfl) rfl ?_
        refine WPL.nil ?_
        refine blockQ_n ?_
        refine thenQ_n ?_
        refine WPC.region ?_
        refine L_s (q_move rfl) rfl ?_
        first | refine L_s (q_inc rfl rfl (by omega)) rfl ?_ | refine L_s (q_addI rfl rfl (by omega)) rfl ?_ | refine L_s (q_int rfl rfl rfl) rfl ?_
        refine L_s (q_assign rfl) rfl ?_
        refine WPL.nil ?_
        refine thenQ_n ?_
        first | exact ⟨rfl, _, _, _, by omega, ⟨j + 1, i + 1, cur.set i x, rfl, by omega, by omega, by simp [hcl'], by rw [filter_take_succ _ hx, ← ht, h2, take_set_succ (by omega)]; rfl, by rw [List.drop_set_of_lt (by omega), ← List.drop_drop, hd, List.drop_drop], rfl, rfl⟩, (by repeat (first | exact trivial | refine ⟨rfl, ?_⟩)), Imp.pick (by repeat (first | exact Pick.nil | apply Pick.keep (by repeat (first | exact List.Mem.head _ | apply List.Mem.tail)) (by first | exact Pers.cells _ _ _ | exact Pers.slv _ _ _) | apply Pick.cons (by repeat (first | exact Pick1.here | apply Pick1.there))))⟩ | exact ⟨rfl, _, _, _, by omega, ⟨j + 1, i, cur, rfl, by omega, by omega, hcl', by rw [filter_take_succ _ hx, ← ht, h2]; simp, by rw [← List.drop_drop, hd, List.drop_drop], rfl, rfl⟩, (by repeat (first | exact trivial | refine ⟨rfl, ?_⟩)), Imp.pick (by repeat (first | exact Pick.nil | apply Pick.keep (by repeat (first | exact List.Mem.head _ | apply List.Mem.tail)) (by first | exact Pers.cells _ _ _ | exact Pers.slv _ _ _) | apply Pick.cons (by repeat (first | exact Pick1.here | apply Pick1.there))))⟩
      · try simp only [decide_eq_true_eq, decide_eq_false_iff_not, beq_iff_eq, bne_iff_ne, beq_eq_false_iff_ne, bne_eq_false_iff_eq, Bool.not_eq_true', Bool.not_eq_false', Bool.not_eq_eq_eq_not, Bool.not_true, Bool.not_false, ne_eq, Decidable.not_not, Int.not_lt, Int.not_le, gt_iff_lt, ge_iff_le] at h2
        refine WPC.skip ?_
        refine blockQ_n ?_
        refine thenQ_n ?_
        refine WPC.region ?_
        refine L_s (q_move rfl) rfl ?_
        first | refine L_s (q_inc rfl rfl (by omega)) rfl ?_ | refine L_s (q_addI rfl rfl (by omega)) rfl ?_ | refine L_s (q_int rfl rfl rfl) rfl ?_
        refine L_s (q_assign rfl) rfl ?_
        refine WPL.nil ?_
        refine thenQ_n ?_
        first | exact ⟨rfl, _, _, _, by omega, ⟨j + 1, i + 1, cur.set i x, rfl, by omega, by omega, by simp [hcl'], by rw [filter_take_succ _ hx, ← ht, h2, take_set_succ (by omega)]; rfl, by rw [List.drop_set_of_lt (by omega), ← List.drop_drop, hd, List.drop_drop], rfl, rfl⟩, (by repeat (first | exact trivial | refine ⟨rfl, ?_⟩)), Imp.pick (by repeat (first | exact Pick.nil | apply Pick.keep (by repeat (first | exact List.Mem.head _ | apply List.Mem.tail)) (by first | exact Pers.cells _ _ _ | exact Pers.slv _ _ _) | apply Pick.cons (by repeat (first | exact Pick1.here | apply Pick1.there))))⟩ | exact ⟨rfl, _, _, _, by omega, ⟨j + 1, i, cur, rfl, by omega, by omega, hcl', by rw [filter_take_succ _ hx, ← ht, h2]; simp, by rw [← List.drop_drop, hd, List.drop_drop], rfl, rfl⟩, (by repeat (first | exact trivial | refine ⟨rfl, ?_⟩)), Imp.pick (by repeat (first | exact Pick.nil | apply Pick.keep (by repeat (first | exact List.Mem.head _ | apply List.Mem.tail)) (by first | exact Pers.cells _ _ _ | exact Pers.slv _ _ _) | apply Pick.cons (by repeat (first | exact Pick1.here | apply Pick1.there))))⟩
    · simp only [decide_eq_false_iff_not] at h1
      have hj' : j = n := by omega
      subst hj'
      have hp : Pl a := hs.at (by omega) (by omega)
      refine WPC.exit ?_
      refine thenQ_e ?_
      refine thenQ_e ?_
      refine blockQ_here ?_
      refine thenQ_n ?_
      refine WPC.seqR ?_
      refine L_s (q_move rfl) rfl ?_
      refine L_s (q_move rfl) rfl ?_
      refine L_s (q_sliceLo sl_sl_int rfl rfl hp (by omega) hcap (by omega)) rfl ?_
      refine WPL.cons rfl (E1.wpo (e_clear (vs := cur.map (.int .i64)) mk_sl_int (by decide) (by simp [Value.oneCell']) rfl (by omega) (by simp; omega) (by repeat (first | exact Upd.here | apply Upd.there))) rfl ?_)
      rintro _ _ ⟨rfl, rfl⟩
      refine WPL.putN ?_
      refine WPL.nil ?_
      refine WPC.seqR ?_
      refine L_s (q_move rfl) rfl ?_
      refine L_s (q_move rfl) rfl ?_
      refine L_s (q_sliceHi sl_sl_int rfl rfl (by omega)) rfl ?_
      refine L_s (q_assign rfl) rfl ?_
      refine WPL.nil ?_
      refine WPC.ret ?_
      have hcut : cur.take i = xs.filter (fun x => !f x) := by rw [ht, ← hl, List.take_length]
      have hlen : (xs.filter (fun x => !f x)).length = i := by rw [← hcut, List.length_take]; omega
      exact endR_r rfl (.tmp rfl .nil) (Imp.pick (by repeat (first | exact Pick.nil | apply Pick.keep (by repeat (first | exact List.Mem.head _ | apply List.Mem.tail)) (by first | exact Pers.cells _ _ _ | exact Pers.slv _ _ _) | apply Pick.cons (by repeat (first | exact Pick1.here | apply Pick1.there))))) ⟨xs.filter (fun x => !f x), repZ [.int .i64 0] (j - i), rfl, by omega, by rw [hlen]; rfl, congrArg (fun l => [sl true a l, C]) (by rw [← hcut, List.map_take, List.drop_eq_nil_of_le (by simp; omega), List.append_nil, Nat.mul_one])⟩

end Go.Sl
