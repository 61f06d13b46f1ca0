/- Walks: the reference's node. -/
import Derived.Test.YtpipmojaonialaaWF
namespace Go.Sl
open Go Go.RowKit Go.Proofs
set_option linter.unusedSimpArgs false
set_option linter.unusedVariables false
attribute [local irreducible] faB szB ldB zB zL slB mkB arB plB intB cells objc star stars buf slv grp whole Sat WPC WPL WPA WPO Trip

theorem c_rOthers {b o : Nat} {x : EN} {L : RL} (hs : Sok 1 L.ca L.cn L.cc (x.conf.map (.int .i64))) (hn : L.cn < 1073741824) : Trip Try.prog 16 #[.pointer (some ⟨b, o, none⟩)] [cells true b o (rnodeH x L), sl false L.ca (x.conf.map (.int .i64))] fun r Δ => ∃ (a : Option Addr) (c : Nat), r = .slice a x.others.length c ∧ Sok 1 a x.others.length c (x.others.map (.int .i64)) ∧ x.others.length < 1073741824 ∧ Δ = sl false a (x.others.map (.int .i64)) :: [cells true b o (rnodeH x L), sl false L.ca (x.conf.map (.int .i64))] := by
  have hl : x.conf.length = L.cn := by have := hs.len; simpa using this
  refine Trip.start 37 [.tmp 2] [(0, .pointer (some ⟨b, o, none⟩))] Try.func16 rfl Try.ntmps16 rfl ⟨rfl, trivial⟩ rfl ?_
  refine WPC.seqR ?_
  refine L_s (q_assign rfl) rfl ?_
  refine WPL.nil ?_
  refine WPC.seqR ?_
  refine L_s (q_assign rfl) rfl ?_
  refine WPL.nil ?_
  refine WPC.imp (Imp.bufNil (sz := 1)) ?_
  refine WPC.seq ?_
  refine WPC.seqR ?_
  refine L_s (q_assign rfl) rfl ?_
  refine WPL.nil ?_
  refine WPC.block ?_
  refine WPC.loopS (fun m e Γ => ∃ (k : Nat) (a2 : Option Addr) (c2 : Nat), m = L.cn - k ∧ k ≤ L.cn ∧ e = [(0, .pointer (some ⟨b, o, none⟩)), (4, .int .i64 (k : Int)), (3, .slice a2 ((x.conf.take k).filter (fun m => !(m == x.me))).length c2)] ∧ Γ = [buf 1 a2 ((x.conf.take k).filter (fun m => !(m == x.me))).length c2 (((x.conf.take k).filter (fun m => !(m == x.me))).map (.int .i64)), cells true b o (rnodeH x L), sl false L.ca (x.conf.map (.int .i64))]) (L.cn) ⟨0, none, 0, rfl, by omega, rfl, rfl⟩ (by repeat (first | exact trivial | refine ⟨rfl, ?_⟩)) (Imp.pick (by repeat (first | exact Pick.nil | apply Pick.keep (by repeat (first | exact List.Mem.head _ | apply List.Mem.tail)) (by first | exact Pers.cells _ _ _ | exact Pers.slv _ _ _) | apply Pick.cons (by repeat (first | exact Pick1.here | apply Pick1.there))))) ?_
  rintro m e Γ ⟨k, a2, c2, rfl, hk, rfl, rfl⟩
  have hfl : ((x.conf.take k).filter (fun m => !(m == x.me))).length ≤ k := by have := List.length_filter_le (fun m => !(m == x.me)) (x.conf.take k); rw [List.length_take] at this; omega
  refine WPC.seq ?_
  refine WPC.seqR ?_
  refine L_s (q_move rfl) rfl ?_
  refine L_s (q_move rfl) rfl ?_
  first | refine L_s (q_nilP rfl) rfl ?_ | refine L_s (q_nilF rfl) rfl ?_
  first | refine L_s (q_faK fa_pursuivantref11_Node_Conf rfl) rfl ?_ | refine L_s (q_fa fa_pursuivantref11_Node_Conf rfl) rfl ?_
  first | refine L_s (q_load1z ld_sl_int rfl (by repeat (first | exact List.Mem.head _ | apply List.Mem.tail)) (by rfl)) rfl ?_ | refine L_s (q_load1 ld_sl_int rfl (by repeat (first | exact List.Mem.head _ | apply List.Mem.tail)) rfl (by rfl)) rfl ?_
  refine L_s (q_len rfl un_sl_int rfl) rfl ?_
  refine L_s (q_int rfl rfl rfl) rfl ?_
  refine WPL.nil ?_
  refine WPC.cond rfl (fun h0 => ?_) (fun h0 => ?_)
  · simp only [decide_eq_true_eq] at h0
    have hk' : k < L.cn := by omega
    have hp : Pl L.ca := hs.at (by omega) (by omega)
    obtain ⟨i, hx⟩ : ∃ i, x.conf[k]? = some i := ⟨x.conf[k]'(by omega), by simp⟩
    have ht := others_take hx
    refine WPC.skip ?_
    refine thenQ_n ?_
    refine WPC.seq ?_
    refine WPC.block ?_
    refine WPC.seqQ mixed (by kernel_rfl) ?_
    refine WPQ.cons (q_move rfl) rfl ?_
    first | refine WPQ.cons (q_nilP rfl) rfl ?_ | refine WPQ.cons (q_nilF rfl) rfl ?_
    first | refine WPQ.cons (q_faK fa_pursuivantref11_Node_Conf rfl) rfl ?_ | refine WPQ.cons (q_fa fa_pursuivantref11_Node_Conf rfl) rfl ?_
    first | refine WPQ.cons (q_load1z ld_sl_int rfl (by repeat (first | exact List.Mem.head _ | apply List.Mem.tail)) (by rfl)) rfl ?_ | refine WPQ.cons (q_load1 ld_sl_int rfl (by repeat (first | exact List.Mem.head _ | apply List.Mem.tail)) rfl (by rfl)) rfl ?_
    refine WPQ.cons (q_move rfl) rfl ?_
    first | refine WPQ.cons (q_idxN sl_sl_int rfl rfl (by omega) (by assumption)) rfl ?_ | refine WPQ.cons (q_idx sl_sl_int rfl rfl (by omega) (by omega) (by assumption)) rfl ?_
    refine WPQ.cons (q_ldMap ld_int rfl (by repeat (first | exact List.Mem.head _ | apply List.Mem.tail)) hx) rfl ?_
    refine WPQ.cons (q_move rfl) rfl ?_
    first | refine WPQ.cons (q_nilP rfl) rfl ?_ | refine WPQ.cons (q_nilF rfl) rfl ?_
    first | refine WPQ.cons (q_faK fa_pursuivantref11_Node_Me rfl) rfl ?_ | refine WPQ.cons (q_fa fa_pursuivantref11_Node_Me rfl) rfl ?_
    first | refine WPQ.cons (q_load1z ld_int rfl (by repeat (first | exact List.Mem.head _ | apply List.Mem.tail)) (by rfl)) rfl ?_ | refine WPQ.cons (q_load1 ld_int rfl (by repeat (first | exact List.Mem.head _ | apply List.Mem.tail)) rfl (by rfl)) rfl ?_
    refine WPQ.cons (q_int rfl rfl rfl) rfl ?_
    refine WPQ.nil ?_
    refine WPC.cond rfl (fun h1 => ?_) (fun h1 => ?_)
    · try simp only [decide_eq_true_eq, decide_eq_false_iff_not, beq_iff_eq, bne_iff_ne, beq_eq_false_iff_ne, bne_eq_false_iff_eq, Bool.not_eq_true', Bool.not_eq_false', Bool.not_eq_eq_eq_not, Bool.not_true, Bool.not_false, ne_eq, Decidable.not_not, Int.not_lt, Int.not_le, gt_iff_lt, ge_iff_le] at h1
      refine WPC.region ?_
      refine L_s (q_move rfl) rfl ?_
      refine L_s (q_move rfl) rfl ?_
      first | refine L_s (q_nilP rfl) rfl ?_ | refine L_s (q_nilF rfl) rfl ?_
      first | refine L_s (q_faK fa_pursuivantref11_Node_Conf rfl) rfl ?_ | refine L_s (q_fa fa_pursuivantref11_Node_Conf rfl) rfl ?_
      first | refine L_s (q_load1z ld_sl_int rfl (by repeat (first | exact List.Mem.head _ | apply List.Mem.tail)) (by rfl)) rfl ?_ | refine L_s (q_load1 ld_sl_int rfl (by repeat (first | exact List.Mem.head _ | apply List.Mem.tail)) rfl (by rfl)) rfl ?_
      refine L_s (q_move rfl) rfl ?_
      first | refine L_s (q_idxN sl_sl_int rfl rfl (by omega) (by assumption)) rfl ?_ | refine L_s (q_idx sl_sl_int rfl rfl (by omega) (by omega) (by assumption)) rfl ?_
      refine L_s (q_ldMap ld_int rfl (by repeat (first | exact List.Mem.head _ | apply List.Mem.tail)) hx) rfl ?_
      refine WPL.cons rfl (E1.wpo (e_buildSlice mk_sl_int (by decide) rfl rfl rfl) rfl ?_)
      rintro _ _ ⟨bE, rfl, rfl⟩
      refine WPL.putS ?_
      refine WPL.cons rfl (E1.wpo (e_append (m := 1) (news := [.int .i64 i]) mk_sl_int (by decide) rfl rfl (by repeat (first | exact Pick1.here | apply Pick1.there)) (Rd.part (i := 0) (b := bE) (o := 0) (vs := [.int .i64 i]) (by repeat (first | exact List.Mem.head _ | apply List.Mem.tail)) rfl rfl rfl) (by simp [Value.oneCell']) (by omega) (by omega)) rfl ?_)
      rintro _ _ ⟨a3, c3, rfl, -, rfl⟩
      refine WPL.putS ?_
      refine L_s (q_assign rfl) rfl ?_
      refine WPL.nil ?_
      refine blockQ_n ?_
      refine thenQ_n ?_
      refine WPC.region ?_
      refine L_s (q_move rfl) rfl ?_
      first | refine L_s (q_inc rfl rfl (by omega)) rfl ?_ | refine L_s (q_addI rfl rfl (by omega)) rfl ?_ | refine L_s (q_int rfl rfl rfl) rfl ?_
      refine L_s (q_assign rfl) rfl ?_
      refine WPL.nil ?_
      refine thenQ_n ?_
      rw [if_neg h1] at ht
      exact ⟨rfl, _, _, _, by omega, ⟨k + 1, a3, c3, rfl, by omega, rfl, rfl⟩, by (rw [ht, List.length_append]; repeat (first | exact trivial | refine ⟨rfl, ?_⟩)), by rw [ht, List.length_append, List.map_append]; exact Imp.pick (by repeat (first | exact Pick.nil | apply Pick.keep (by repeat (first | exact List.Mem.head _ | apply List.Mem.tail)) (by first | exact Pers.cells _ _ _ | exact Pers.slv _ _ _) | apply Pick.cons (by repeat (first | exact Pick1.here | apply Pick1.there))))⟩
    · try simp only [decide_eq_true_eq, decide_eq_false_iff_not, beq_iff_eq, bne_iff_ne, beq_eq_false_iff_ne, bne_eq_false_iff_eq, Bool.not_eq_true', Bool.not_eq_false', Bool.not_eq_eq_eq_not, Bool.not_true, Bool.not_false, ne_eq, Decidable.not_not, Int.not_lt, Int.not_le, gt_iff_lt, ge_iff_le] at h1
      refine WPC.skip ?_
      refine blockQ_n ?_
      refine thenQ_n ?_
      refine WPC.region ?_
      refine L_s (q_move rfl) rfl ?_
      first | refine L_s (q_inc rfl rfl (by omega)) rfl ?_ | refine L_s (q_addI rfl rfl (by omega)) rfl ?_ | refine L_s (q_int rfl rfl rfl) rfl ?_
      refine L_s (q_assign rfl) rfl ?_
      refine WPL.nil ?_
      refine thenQ_n ?_
      rw [if_pos h1, List.append_nil] at ht
      exact ⟨rfl, _, _, _, by omega, ⟨k + 1, a2, c2, rfl, by omega, rfl, rfl⟩, by (rw [ht]; repeat (first | exact trivial | refine ⟨rfl, ?_⟩)), by rw [ht]; exact Imp.pick (by repeat (first | exact Pick.nil | apply Pick.keep (by repeat (first | exact List.Mem.head _ | apply List.Mem.tail)) (by first | exact Pers.cells _ _ _ | exact Pers.slv _ _ _) | apply Pick.cons (by repeat (first | exact Pick1.here | apply Pick1.there))))⟩
  · simp only [decide_eq_false_iff_not] at h0
    have hk' : k = L.cn := by omega
    refine WPC.exit ?_
    refine thenQ_e ?_
    refine thenQ_e ?_
    refine blockQ_here ?_
    refine thenQ_n ?_
    refine WPC.seqR ?_
    refine L_s (q_move rfl) rfl ?_
    refine L_s (q_assign rfl) rfl ?_
    refine WPL.nil ?_
    have e1 : (x.conf.take k).filter (fun m => !(m == x.me)) = x.others := by rw [List.take_of_length_le (by omega)]; rfl
    rw [e1] at *
    refine WPC.bufRo fun ho => ?_
    refine WPC.ret ?_
    exact endR_r rfl (.tmp rfl .nil) (Imp.pick (by repeat (first | exact Pick.nil | apply Pick.keep (by repeat (first | exact List.Mem.head _ | apply List.Mem.tail)) (by first | exact Pers.cells _ _ _ | exact Pers.slv _ _ _) | apply Pick.cons (by repeat (first | exact Pick1.here | apply Pick1.there))))) ⟨a2, c2, rfl, ho, by have := List.length_filter_le (fun m => !(m == x.me)) x.conf; show (x.conf.filter _).length < _; omega, rfl⟩

theorem c_rFollow {b o : Nat} {x : EN} {L : RL} (t l : Int) : Trip Try.prog 12 #[.pointer (some ⟨b, o, none⟩), .int .u64 t, .int .i64 l] [cells true b o (rnodeH x L)] fun r Δ => r = .tuple #[] ∧ Δ = [cells true b o (rnodeH (x.follow t l) { L with ya := none, yn := 0, yc := 0 })] := by
  obtain ⟨me, vote, role, lead, conf, yes, term, commit, base, bt, es, heard, next, mtch⟩ := x
  obtain ⟨ca, cn, cc, ya, yn, yc, ea, en, ec⟩ := L
  dsimp only [rnodeH, EN.follow]
  refine Trip.start 29 [] [(0, .pointer (some ⟨b, o, none⟩)), (1, .int .u64 t), (2, .int .i64 l)] Try.func12 rfl Try.ntmps12 rfl ⟨rfl, rfl, rfl, trivial⟩ rfl ?_
  refine WPC.seq ?_
  refine WPC.seqR ?_
  refine L_s (q_move rfl) rfl ?_
  refine L_s (q_move rfl) rfl ?_
  first | refine L_s (q_nilP rfl) rfl ?_ | refine L_s (q_nilF rfl) rfl ?_
  first | refine L_s (q_faK fa_pursuivantref11_Node_Term rfl) rfl ?_ | refine L_s (q_fa fa_pursuivantref11_Node_Term rfl) rfl ?_
  first | refine L_s (q_load1z ld_uint64 rfl (by repeat (first | exact List.Mem.head _ | apply List.Mem.tail)) (by rfl)) rfl ?_ | refine L_s (q_load1 ld_uint64 rfl (by repeat (first | exact List.Mem.head _ | apply List.Mem.tail)) rfl (by rfl)) rfl ?_
  refine L_s (q_int rfl rfl rfl) rfl ?_
  refine WPL.nil ?_
  refine WPC.cond rfl (fun h0 => ?_) (fun h0 => ?_)
  · try simp only [decide_eq_true_eq, decide_eq_false_iff_not, beq_iff_eq, bne_iff_ne, beq_eq_false_iff_ne, bne_eq_false_iff_eq, Bool.not_eq_true', Bool.not_eq_false', Bool.not_eq_eq_eq_not, Bool.not_true, Bool.not_false, ne_eq, Decidable.not_not, Int.not_lt, Int.not_le, gt_iff_lt, ge_iff_le] at h0
    refine WPC.seqR ?_
    refine L_s (q_move rfl) rfl ?_
    refine L_s (q_move rfl) rfl ?_
    first | refine L_s (q_nilP rfl) rfl ?_ | refine L_s (q_nilF rfl) rfl ?_
    first | refine L_s (q_faK fa_pursuivantref11_Node_Term rfl) rfl ?_ | refine L_s (q_fa fa_pursuivantref11_Node_Term rfl) rfl ?_
    refine WPL.cons rfl (S1.wpo (s_store1k sz_uint64 rfl rfl rfl rfl (by repeat (first | exact Upd.here | apply Upd.there)) (by repeat constructor)) rfl ?_)
    refine WPL.putN ?_
    refine WPL.nil ?_
    refine WPC.region ?_
    refine L_s (q_move rfl) rfl ?_
    first | refine L_s (q_nilP rfl) rfl ?_ | refine L_s (q_nilF rfl) rfl ?_
    first | refine L_s (q_faK fa_pursuivantref11_Node_Vote rfl) rfl ?_ | refine L_s (q_fa fa_pursuivantref11_Node_Vote rfl) rfl ?_
    refine WPL.cons rfl (S1.wpo (s_store1k sz_int rfl rfl rfl rfl (by repeat (first | exact Upd.here | apply Upd.there)) (by repeat constructor)) rfl ?_)
    refine WPL.putN ?_
    refine WPL.nil ?_
    refine thenQ_n ?_
    refine WPC.seqR ?_
    refine L_s (q_move rfl) rfl ?_
    first | refine L_s (q_nilP rfl) rfl ?_ | refine L_s (q_nilF rfl) rfl ?_
    first | refine L_s (q_faK fa_pursuivantref11_Node_Role rfl) rfl ?_ | refine L_s (q_fa fa_pursuivantref11_Node_Role rfl) rfl ?_
    refine WPL.cons rfl (S1.wpo (s_store1k sz_int rfl rfl rfl rfl (by repeat (first | exact Upd.here | apply Upd.there)) (by repeat constructor)) rfl ?_)
    refine WPL.putN ?_
    refine WPL.nil ?_
    refine WPC.seqR ?_
    refine L_s (q_move rfl) rfl ?_
    refine L_s (q_move rfl) rfl ?_
    first | refine L_s (q_nilP rfl) rfl ?_ | refine L_s (q_nilF rfl) rfl ?_
    first | refine L_s (q_faK fa_pursuivantref11_Node_Lead rfl) rfl ?_ | refine L_s (q_fa fa_pursuivantref11_Node_Lead rfl) rfl ?_
    refine WPL.cons rfl (S1.wpo (s_store1k sz_int rfl rfl rfl rfl (by repeat (first | exact Upd.here | apply Upd.there)) (by repeat constructor)) rfl ?_)
    refine WPL.putN ?_
    refine WPL.nil ?_
    refine WPC.region ?_
    refine L_s (q_move rfl) rfl ?_
    first | refine L_s (q_nilP rfl) rfl ?_ | refine L_s (q_nilF rfl) rfl ?_
    first | refine L_s (q_faK fa_pursuivantref11_Node_Yes rfl) rfl ?_ | refine L_s (q_fa fa_pursuivantref11_Node_Yes rfl) rfl ?_
    refine WPL.cons rfl (S1.wpo (s_store1k sz_sl_int rfl rfl rfl rfl (by repeat (first | exact Upd.here | apply Upd.there)) (by repeat constructor)) rfl ?_)
    refine WPL.putN ?_
    refine WPL.nil ?_
    rw [if_pos h0, if_pos h0]
    exact endR_n rfl .nil (Imp.pick (by repeat (first | exact Pick.nil | apply Pick.keep (by repeat (first | exact List.Mem.head _ | apply List.Mem.tail)) (by first | exact Pers.cells _ _ _ | exact Pers.slv _ _ _) | apply Pick.cons (by repeat (first | exact Pick1.here | apply Pick1.there))))) ⟨rfl, rfl⟩
  · try simp only [decide_eq_true_eq, decide_eq_false_iff_not, beq_iff_eq, bne_iff_ne, beq_eq_false_iff_ne, bne_eq_false_iff_eq, Bool.not_eq_true', Bool.not_eq_false', Bool.not_eq_eq_eq_not, Bool.not_true, Bool.not_false, ne_eq, Decidable.not_not, Int.not_lt, Int.not_le, gt_iff_lt, ge_iff_le] at h0
    refine WPC.skip ?_
    refine thenQ_n ?_
    refine WPC.seqR ?_
    refine L_s (q_move rfl) rfl ?_
    first | refine L_s (q_nilP rfl) rfl ?_ | refine L_s (q_nilF rfl) rfl ?_
    first | refine L_s (q_faK fa_pursuivantref11_Node_Role rfl) rfl ?_ | refine L_s (q_fa fa_pursuivantref11_Node_Role rfl) rfl ?_
    refine WPL.cons rfl (S1.wpo (s_store1k sz_int rfl rfl rfl rfl (by repeat (first | exact Upd.here | apply Upd.there)) (by repeat constructor)) rfl ?_)
    refine WPL.putN ?_
    refine WPL.nil ?_
    refine WPC.seqR ?_
    refine L_s (q_move rfl) rfl ?_
    refine L_s (q_move rfl) rfl ?_
    first | refine L_s (q_nilP rfl) rfl ?_ | refine L_s (q_nilF rfl) rfl ?_
    first | refine L_s (q_faK fa_pursuivantref11_Node_Lead rfl) rfl ?_ | refine L_s (q_fa fa_pursuivantref11_Node_Lead rfl) rfl ?_
    refine WPL.cons rfl (S1.wpo (s_store1k sz_int rfl rfl rfl rfl (by repeat (first | exact Upd.here | apply Upd.there)) (by repeat constructor)) rfl ?_)
    refine WPL.putN ?_
    refine WPL.nil ?_
    refine WPC.region ?_
    refine L_s (q_move rfl) rfl ?_
    first | refine L_s (q_nilP rfl) rfl ?_ | refine L_s (q_nilF rfl) rfl ?_
    first | refine L_s (q_faK fa_pursuivantref11_Node_Yes rfl) rfl ?_ | refine L_s (q_fa fa_pursuivantref11_Node_Yes rfl) rfl ?_
    refine WPL.cons rfl (S1.wpo (s_store1k sz_sl_int rfl rfl rfl rfl (by repeat (first | exact Upd.here | apply Upd.there)) (by repeat constructor)) rfl ?_)
    refine WPL.putN ?_
    refine WPL.nil ?_
    rw [if_neg (by omega), if_neg (by omega)]
    exact endR_n rfl .nil (Imp.pick (by repeat (first | exact Pick.nil | apply Pick.keep (by repeat (first | exact List.Mem.head _ | apply List.Mem.tail)) (by first | exact Pers.cells _ _ _ | exact Pers.slv _ _ _) | apply Pick.cons (by repeat (first | exact Pick1.here | apply Pick1.there))))) ⟨rfl, rfl⟩

theorem c_rLast {a : Option Addr} {n c : Nat} {base bt : Int} (hb : 0 ≤ base ∧ base ≤ 4611686018427387904) (hn : n < 1073741824) : Trip Try.prog 37 #[(.agg #[.int .u64 base, .int .u64 bt, .slice a n c])] [] fun r Δ => r = .int .u64 (base + n) ∧ Δ = [] := by
  refine Trip.start 10 [.tmp 2] [(0, (.agg #[.int .u64 base, .int .u64 bt, .slice a n c]))] Try.func37 rfl Try.ntmps37 rfl ⟨rfl, trivial⟩ rfl ?_
  refine WPC.seqR ?_
  first | refine WPL.cons rfl (E1.wpo (e_boxN rfl) rfl ?_) | refine WPL.cons rfl (E1.wpo (e_box1 rfl rfl) rfl ?_)
  rintro _ _ ⟨b1, rfl, rfl⟩
  refine WPL.putS ?_
  refine L_s (q_assign rfl) rfl ?_
  refine WPL.nil ?_
  refine WPC.seqR ?_
  first | refine L_s (q_faK fa_pursuivantref09_Log_Base rfl) rfl ?_ | refine L_s (q_fa fa_pursuivantref09_Log_Base rfl) rfl ?_
  first | refine L_s (q_load1z ld_uint64 rfl (by repeat (first | exact List.Mem.head _ | apply List.Mem.tail)) (by rfl)) rfl ?_ | refine L_s (q_load1 ld_uint64 rfl (by repeat (first | exact List.Mem.head _ | apply List.Mem.tail)) rfl (by rfl)) rfl ?_
  first | refine L_s (q_faK fa_pursuivantref09_Log_Entries rfl) rfl ?_ | refine L_s (q_fa fa_pursuivantref09_Log_Entries rfl) rfl ?_
  first | refine L_s (q_load1z ld_sl_api_Entry rfl (by repeat (first | exact List.Mem.head _ | apply List.Mem.tail)) (by rfl)) rfl ?_ | refine L_s (q_load1 ld_sl_api_Entry rfl (by repeat (first | exact List.Mem.head _ | apply List.Mem.tail)) rfl (by rfl)) rfl ?_
  refine L_s (q_len rfl un_sl_api_Entry rfl) rfl ?_
  first | refine L_s (q_convU in_int in_uint64 rfl (by omega)) rfl ?_ | refine L_s (q_conv in_int in_uint64 rfl) rfl ?_
  first | refine L_s (q_addU rfl rfl (by omega)) rfl ?_ | refine L_s (q_int rfl rfl rfl) rfl ?_
  refine L_s (q_assign rfl) rfl ?_
  refine WPL.nil ?_
  refine WPC.ret ?_
  exact endR_r rfl (.tmp rfl .nil) (Imp.pick (by repeat (first | exact Pick.nil | apply Pick.keep (by repeat (first | exact List.Mem.head _ | apply List.Mem.tail)) (by first | exact Pers.cells _ _ _ | exact Pers.slv _ _ _) | apply Pick.cons (by repeat (first | exact Pick1.here | apply Pick1.there))))) ⟨rfl, rfl⟩

theorem c_rLastTerm {p : Bool} {a : Option Addr} {n c : Nat} {base bt : Int} {es : List RE} (hs : Sok 3 a n c (es.flatMap encE)) (hn : n < 1073741824) : Trip Try.prog 38 #[(.agg #[.int .u64 base, .int .u64 bt, .slice a n c])] [sl p a (es.flatMap encE)] fun r Δ => r = .int .u64 (lgLastTerm bt es) ∧ Δ = [sl p a (es.flatMap encE)] := by
  have hl : es.length = n := by have := hs.len; rw [flat_length encE_len] at this; omega
  refine Trip.start 18 [.tmp 2] [(0, (.agg #[.int .u64 base, .int .u64 bt, .slice a n c]))] Try.func38 rfl Try.ntmps38 rfl ⟨rfl, trivial⟩ rfl ?_
  refine WPC.seqR ?_
  first | refine WPL.cons rfl (E1.wpo (e_boxN rfl) rfl ?_) | refine WPL.cons rfl (E1.wpo (e_box1 rfl rfl) rfl ?_)
  rintro _ _ ⟨b1, rfl, rfl⟩
  refine WPL.putS ?_
  refine L_s (q_assign rfl) rfl ?_
  refine WPL.nil ?_
  refine WPC.seq ?_
  refine WPC.seqR ?_
  first | refine L_s (q_faK fa_pursuivantref09_Log_Entries rfl) rfl ?_ | refine L_s (q_fa fa_pursuivantref09_Log_Entries rfl) rfl ?_
  first | refine L_s (q_load1z ld_sl_api_Entry rfl (by repeat (first | exact List.Mem.head _ | apply List.Mem.tail)) (by rfl)) rfl ?_ | refine L_s (q_load1 ld_sl_api_Entry rfl (by repeat (first | exact List.Mem.head _ | apply List.Mem.tail)) rfl (by rfl)) rfl ?_
  refine L_s (q_len rfl un_sl_api_Entry rfl) rfl ?_
  refine L_s (q_int rfl rfl rfl) rfl ?_
  refine WPL.nil ?_
  refine WPC.cond rfl (fun h0 => ?_) (fun h0 => ?_)
  · have h0 : n = 0 := by simp at h0; omega
    obtain rfl : es = [] := List.eq_nil_of_length_eq_zero (by omega)
    refine WPC.seqR ?_
    first | refine L_s (q_faK fa_pursuivantref09_Log_BaseTerm rfl) rfl ?_ | refine L_s (q_fa fa_pursuivantref09_Log_BaseTerm rfl) rfl ?_
    first | refine L_s (q_load1z ld_uint64 rfl (by repeat (first | exact List.Mem.head _ | apply List.Mem.tail)) (by rfl)) rfl ?_ | refine L_s (q_load1 ld_uint64 rfl (by repeat (first | exact List.Mem.head _ | apply List.Mem.tail)) rfl (by rfl)) rfl ?_
    refine L_s (q_assign rfl) rfl ?_
    refine WPL.nil ?_
    refine WPC.ret ?_
    refine thenQ_r ?_
    exact endR_r rfl (.tmp rfl .nil) (Imp.pick (by repeat (first | exact Pick.nil | apply Pick.keep (by repeat (first | exact List.Mem.head _ | apply List.Mem.tail)) (by first | exact Pers.cells _ _ _ | exact Pers.slv _ _ _) | apply Pick.cons (by repeat (first | exact Pick1.here | apply Pick1.there))))) ⟨rfl, rfl⟩
  · have h0 : 0 < n := by simp at h0; omega
    have hp : Pl a := hs.at (by omega) (by omega)
    obtain ⟨y, hy⟩ : ∃ y, es[n - 1]? = some y := ⟨es[n - 1]'(by omega), by simp⟩
    have hg : es.getLast? = some y := by rw [List.getLast?_eq_getElem?, hl]; exact hy
    refine WPC.skip ?_
    refine thenQ_n ?_
    refine WPC.seqR ?_
    first | refine L_s (q_faK fa_pursuivantref09_Log_Entries rfl) rfl ?_ | refine L_s (q_fa fa_pursuivantref09_Log_Entries rfl) rfl ?_
    first | refine L_s (q_load1z ld_sl_api_Entry rfl (by repeat (first | exact List.Mem.head _ | apply List.Mem.tail)) (by rfl)) rfl ?_ | refine L_s (q_load1 ld_sl_api_Entry rfl (by repeat (first | exact List.Mem.head _ | apply List.Mem.tail)) rfl (by rfl)) rfl ?_
    first | refine L_s (q_faK fa_pursuivantref09_Log_Entries rfl) rfl ?_ | refine L_s (q_fa fa_pursuivantref09_Log_Entries rfl) rfl ?_
    first | refine L_s (q_load1z ld_sl_api_Entry rfl (by repeat (first | exact List.Mem.head _ | apply List.Mem.tail)) (by rfl)) rfl ?_ | refine L_s (q_load1 ld_sl_api_Entry rfl (by repeat (first | exact List.Mem.head _ | apply List.Mem.tail)) rfl (by rfl)) rfl ?_
    refine L_s (q_len rfl un_sl_api_Entry rfl) rfl ?_
    refine L_s (q_dec rfl rfl h0 (by omega)) rfl ?_
    first | refine L_s (q_idxN sl_sl_api_Entry rfl rfl (by omega) (by assumption)) rfl ?_ | refine L_s (q_idx sl_sl_api_Entry rfl rfl (by omega) (by omega) (by assumption)) rfl ?_
    first | refine L_s (q_faK fa_api_Entry_Term rfl) rfl ?_ | refine L_s (q_fa fa_api_Entry_Term rfl) rfl ?_
    refine L_s (q_ldFlat1 (k := 3) (i := n - 1) (j := 0) (e := y) ld_uint64 rfl (by repeat (first | exact List.Mem.head _ | apply List.Mem.tail)) encE_len hy (by omega) rfl) rfl ?_
    refine L_s (q_assign rfl) rfl ?_
    refine WPL.nil ?_
    refine WPC.ret ?_
    exact endR_r rfl (.tmp rfl .nil) (Imp.pick (by repeat (first | exact Pick.nil | apply Pick.keep (by repeat (first | exact List.Mem.head _ | apply List.Mem.tail)) (by first | exact Pers.cells _ _ _ | exact Pers.slv _ _ _) | apply Pick.cons (by repeat (first | exact Pick1.here | apply Pick1.there))))) ⟨by unfold lgLastTerm; rw [hg]; rfl, rfl⟩

theorem c_rAdd {p : Bool} {a : Option Addr} {n c : Nat} {base bt : Int} {es : List RE} (hs : Sok 3 a n c (es.flatMap encE)) (hn : n < 536870912) (e : RE) : Trip Try.prog 55 #[(.agg #[.int .u64 base, .int .u64 bt, .slice a n c]), .agg (encE e).toArray] [sl p a (es.flatMap encE)] fun r Δ => ∃ a' c', r = .agg #[.int .u64 base, .int .u64 bt, .slice a' (n + 1) c'] ∧ Δ = [buf 3 a' (n + 1) c' ((es ++ [e]).flatMap encE), sl p a (es.flatMap encE)] := by
  refine Trip.start 17 [.cell 4 61] [(0, (.agg #[.int .u64 base, .int .u64 bt, .slice a n c])), (1, .agg (encE e).toArray)] Try.func55 rfl Try.ntmps55 rfl ⟨rfl, rfl, trivial⟩ rfl ?_
  refine WPC.seqR ?_
  first | refine WPL.cons rfl (E1.wpo (e_boxN rfl) rfl ?_) | refine WPL.cons rfl (E1.wpo (e_box1 rfl rfl) rfl ?_)
  rintro _ _ ⟨b1, rfl, rfl⟩
  refine WPL.putS ?_
  first | refine WPL.cons rfl (E1.wpo (e_boxN rfl) rfl ?_) | refine WPL.cons rfl (E1.wpo (e_box1 rfl rfl) rfl ?_)
  rintro _ _ ⟨b2, rfl, rfl⟩
  refine WPL.putS ?_
  refine WPL.cons rfl (E1.wpo (e_allocL zl_pursuivantref09_Log) rfl ?_)
  rintro _ _ ⟨b3, rfl, rfl⟩
  refine WPL.putS ?_
  refine WPL.nil ?_
  refine WPC.seqD mixed ?_
  first | refine WPA.takeP 0 rfl (q_faK fa_pursuivantref09_Log_Base rfl) (by kernel_rfl) (by kernel_rfl) (by kernel_rfl) rfl rfl (.nil _) ?_ | refine WPA.takeP 0 rfl (q_fa fa_pursuivantref09_Log_Base rfl) (by kernel_rfl) (by kernel_rfl) (by kernel_rfl) rfl rfl (.nil _) ?_
  refine WPA.putS ?_
  first | refine WPA.takeL 1 rfl (Ent.mem (by repeat (first | exact List.Mem.head _ | apply List.Mem.tail))) (q_load1z ld_uint64 rfl (.head _) (by rfl)) (by kernel_rfl) (by kernel_rfl) (by kernel_rfl) rfl rfl (.nil _) ?_ | refine WPA.takeL 1 rfl (Ent.mem (by repeat (first | exact List.Mem.head _ | apply List.Mem.tail))) (q_load1 ld_uint64 rfl (.head _) rfl (by rfl)) (by kernel_rfl) (by kernel_rfl) (by kernel_rfl) rfl rfl (.nil _) ?_
  refine WPA.putS ?_
  first | refine WPA.takeP 2 rfl (q_faK fa_pursuivantref09_Log_BaseTerm rfl) (by kernel_rfl) (by kernel_rfl) (by kernel_rfl) rfl rfl (.cons (Ent.mem (by repeat (first | exact List.Mem.head _ | apply List.Mem.tail))) (.nil _)) ?_ | refine WPA.takeP 2 rfl (q_fa fa_pursuivantref09_Log_BaseTerm rfl) (by kernel_rfl) (by kernel_rfl) (by kernel_rfl) rfl rfl (.cons (Ent.mem (by repeat (first | exact List.Mem.head _ | apply List.Mem.tail))) (.nil _)) ?_
  refine WPA.putS ?_
  first | refine WPA.takeL 3 rfl (Ent.mem (by repeat (first | exact List.Mem.head _ | apply List.Mem.tail))) (q_load1z ld_uint64 rfl (.head _) (by rfl)) (by kernel_rfl) (by kernel_rfl) (by kernel_rfl) rfl rfl (.cons (Ent.mem (by repeat (first | exact List.Mem.head _ | apply List.Mem.tail))) (.nil _)) ?_ | refine WPA.takeL 3 rfl (Ent.mem (by repeat (first | exact List.Mem.head _ | apply List.Mem.tail))) (q_load1 ld_uint64 rfl (.head _) rfl (by rfl)) (by kernel_rfl) (by kernel_rfl) (by kernel_rfl) rfl rfl (.cons (Ent.mem (by repeat (first | exact List.Mem.head _ | apply List.Mem.tail))) (.nil _)) ?_
  refine WPA.putS ?_
  first | refine WPA.takeP 5 rfl (q_faK fa_pursuivantref09_Log_Entries rfl) (by kernel_rfl) (by kernel_rfl) (by kernel_rfl) rfl rfl (.cons (Ent.mem (by repeat (first | exact List.Mem.head _ | apply List.Mem.tail))) (.cons (Ent.mem (by repeat (first | exact List.Mem.head _ | apply List.Mem.tail))) (.nil _))) ?_ | refine WPA.takeP 5 rfl (q_fa fa_pursuivantref09_Log_Entries rfl) (by kernel_rfl) (by kernel_rfl) (by kernel_rfl) rfl rfl (.cons (Ent.mem (by repeat (first | exact List.Mem.head _ | apply List.Mem.tail))) (.cons (Ent.mem (by repeat (first | exact List.Mem.head _ | apply List.Mem.tail))) (.nil _))) ?_
  refine WPA.putS ?_
  first | refine WPA.takeL 6 rfl (Ent.mem (by repeat (first | exact List.Mem.head _ | apply List.Mem.tail))) (q_load1z ld_sl_api_Entry rfl (.head _) (by rfl)) (by kernel_rfl) (by kernel_rfl) (by kernel_rfl) rfl rfl (.cons (Ent.mem (by repeat (first | exact List.Mem.head _ | apply List.Mem.tail))) (.cons (Ent.mem (by repeat (first | exact List.Mem.head _ | apply List.Mem.tail))) (.nil _))) ?_ | refine WPA.takeL 6 rfl (Ent.mem (by repeat (first | exact List.Mem.head _ | apply List.Mem.tail))) (q_load1 ld_sl_api_Entry rfl (.head _) rfl (by rfl)) (by kernel_rfl) (by kernel_rfl) (by kernel_rfl) rfl rfl (.cons (Ent.mem (by repeat (first | exact List.Mem.head _ | apply List.Mem.tail))) (.cons (Ent.mem (by repeat (first | exact List.Mem.head _ | apply List.Mem.tail))) (.nil _))) ?_
  refine WPA.putS ?_
  first | refine WPA.takeL 8 rfl (Ent.mem (by repeat (first | exact List.Mem.head _ | apply List.Mem.tail))) (q_loadNz (us := [_, _, _]) ld_api_Entry rfl (.head _) (by exact ⟨rfl, rfl⟩)) (by kernel_rfl) (by kernel_rfl) (by kernel_rfl) rfl rfl (.cons (Ent.mem (by repeat (first | exact List.Mem.head _ | apply List.Mem.tail))) (.cons (Ent.mem (by repeat (first | exact List.Mem.head _ | apply List.Mem.tail))) (.cons (Ent.mem (by repeat (first | exact List.Mem.head _ | apply List.Mem.tail))) (.nil _)))) ?_ | refine WPA.takeL 8 rfl (Ent.mem (by repeat (first | exact List.Mem.head _ | apply List.Mem.tail))) (q_loadNk (us := [_, _, _]) ld_api_Entry rfl (.head _) (by exact ⟨rfl, rfl⟩)) (by kernel_rfl) (by kernel_rfl) (by kernel_rfl) rfl rfl (.cons (Ent.mem (by repeat (first | exact List.Mem.head _ | apply List.Mem.tail))) (.cons (Ent.mem (by repeat (first | exact List.Mem.head _ | apply List.Mem.tail))) (.cons (Ent.mem (by repeat (first | exact List.Mem.head _ | apply List.Mem.tail))) (.nil _)))) ?_
  refine WPA.putS ?_
  refine WPA.two 4 9 (by kernel_rfl) ?_ ?_
  · refine Eff.mk 4 [(8, [_]), (6, [_]), (3, [_]), (1, [_])] rfl rfl (by repeat (first | exact .nil | refine .anc rfl ?_ | refine .keep (by repeat (first | exact List.Mem.head _ | apply List.Mem.tail)) ?_)) (E1.wpo (e_buildSlice mk_sl_api_Entry (by decide) rfl rfl rfl) rfl ?_)
    rintro _ _ ⟨b0, rfl, rfl⟩
    refine ⟨(.cons (Ent.mem (by repeat (first | exact List.Mem.head _ | apply List.Mem.tail))) (.cons (Ent.mem (by repeat (first | exact List.Mem.head _ | apply List.Mem.tail))) (.cons (Ent.mem (by repeat (first | exact List.Mem.head _ | apply List.Mem.tail))) (.cons (Ent.mem (by repeat (first | exact List.Mem.head _ | apply List.Mem.tail))) (.nil _))))), ?_⟩
    refine WPA.putS ?_
    refine WPA.imp (Imp.bufNew (sz := 3) (b := b0) (n := 0) (cs := []) rfl) ?_
    refine WPA.two 7 9 (by kernel_rfl) ?_ ?_
    · refine Eff.mk 7 [(8, [_]), (3, [_]), (1, [_])] rfl rfl (by repeat (first | exact .nil | refine .anc rfl ?_ | refine .keep (by repeat (first | exact List.Mem.head _ | apply List.Mem.tail)) ?_)) (E1.wpo (e_append (n := 0) (m := n) (cs := []) (news := es.flatMap encE) mk_sl_api_Entry (by decide) rfl rfl (by repeat (first | exact Pick1.here | apply Pick1.there)) (Rd.mem hs (hs.none0 (by omega)) (by repeat (first | exact List.Mem.head _ | apply List.Mem.tail))) (encE_one es) (by omega) (by omega)) rfl ?_)
      rintro _ _ ⟨a1, c1, rfl, -, rfl⟩
      simp only [Nat.zero_add, List.nil_append]
      refine ⟨(.cons (Ent.mem (by repeat (first | exact List.Mem.head _ | apply List.Mem.tail))) (.cons (Ent.mem (by repeat (first | exact List.Mem.head _ | apply List.Mem.tail))) (.cons (Ent.mem (by repeat (first | exact List.Mem.head _ | apply List.Mem.tail))) (.nil _)))), ?_⟩
      refine WPA.putS ?_
      refine WPA.oneE 9 [(3, [_]), (1, [_])] (by kernel_rfl) rfl rfl (by repeat (first | exact .nil | refine .anc rfl ?_ | refine .keep (by repeat (first | exact List.Mem.head _ | apply List.Mem.tail)) ?_)) (E1.wpo (e_buildSlice mk_sl_api_Entry (by decide) rfl rfl rfl) rfl ?_)
      rintro _ _ ⟨bE, rfl, rfl⟩
      refine ⟨(.cons (Ent.mem (by repeat (first | exact List.Mem.head _ | apply List.Mem.tail))) (.cons (Ent.mem (by repeat (first | exact List.Mem.head _ | apply List.Mem.tail))) (.nil _))), ?_⟩
      refine WPA.putS ?_
      refine WPA.oneE 10 [(3, [_]), (1, [_])] (by kernel_rfl) rfl rfl (by repeat (first | exact .nil | refine .anc rfl ?_ | refine .keep (by repeat (first | exact List.Mem.head _ | apply List.Mem.tail)) ?_)) (E1.wpo (e_append (m := 1) (news := encE e) mk_sl_api_Entry (by decide) rfl rfl (by repeat (first | exact Pick1.here | apply Pick1.there)) (Rd.part (i := 0) (b := bE) (o := 0) (vs := encE e) (by repeat (first | exact List.Mem.head _ | apply List.Mem.tail)) rfl rfl rfl) (by simp [Value.oneCell']) (by omega) (by omega)) rfl ?_)
      rintro _ _ ⟨a', c', rfl, -, rfl⟩
      refine ⟨(.cons (Ent.mem (by repeat (first | exact List.Mem.head _ | apply List.Mem.tail))) (.cons (Ent.mem (by repeat (first | exact List.Mem.head _ | apply List.Mem.tail))) (.nil _))), ?_⟩
      refine WPA.putS ?_
      refine WPA.takeP 11 rfl (q_build (cs := [_, _, _]) pl_pursuivantref09_Log rfl rfl) (by kernel_rfl) (by kernel_rfl) (by kernel_rfl) rfl rfl (.cons (Ent.mem (by repeat (first | exact List.Mem.head _ | apply List.Mem.tail))) (.cons (Ent.mem (by repeat (first | exact List.Mem.head _ | apply List.Mem.tail))) (.nil _))) ?_
      refine WPA.putS ?_
      refine WPA.oneE 12 [] (by kernel_rfl) rfl rfl (by repeat (first | exact .nil | refine .anc rfl ?_ | refine .keep (by repeat (first | exact List.Mem.head _ | apply List.Mem.tail)) ?_)) (S1.wpo (s_storeNz sz_pursuivantref09_Log rfl rfl (by simp [Value.oneCell']) rfl (by repeat (first | exact Upd.here | apply Upd.there)) (by repeat constructor)) rfl ?_)
      refine ⟨(.nil _), ?_⟩
      refine WPA.putN ?_
      refine WPA.done (by kernel_rfl) ?_
      refine WPC.ret ?_
      simp only [flat_snoc]
      exact endR_r rfl (.cellN (us := [_, _, _]) rfl ld_pursuivantref09_Log (by repeat (first | exact List.Mem.head _ | apply List.Mem.tail)) rfl rfl .nil) (Imp.pick (by repeat (first | exact Pick.nil | apply Pick.keep (by repeat (first | exact List.Mem.head _ | apply List.Mem.tail)) (by first | exact Pers.cells _ _ _ | exact Pers.slv _ _ _) | apply Pick.cons (by repeat (first | exact Pick1.here | apply Pick1.there))))) ⟨a', c', rfl, rfl⟩
    · refine Eff.mk 9 [(6, [_]), (3, [_]), (1, [_])] rfl rfl (by repeat (first | exact .nil | refine .anc rfl ?_ | refine .keep (by repeat (first | exact List.Mem.head _ | apply List.Mem.tail)) ?_)) (E1.wpo (e_buildSlice mk_sl_api_Entry (by decide) rfl rfl rfl) rfl ?_)
      rintro _ _ ⟨bE, rfl, rfl⟩
      refine ⟨(.cons (Ent.mem (by repeat (first | exact List.Mem.head _ | apply List.Mem.tail))) (.cons (Ent.mem (by repeat (first | exact List.Mem.head _ | apply List.Mem.tail))) (.cons (Ent.mem (by repeat (first | exact List.Mem.head _ | apply List.Mem.tail))) (.nil _)))), ?_⟩
      refine WPA.putS ?_
      refine WPA.oneE 7 [(3, [_]), (1, [_])] (by kernel_rfl) rfl rfl (by repeat (first | exact .nil | refine .anc rfl ?_ | refine .keep (by repeat (first | exact List.Mem.head _ | apply List.Mem.tail)) ?_)) (E1.wpo (e_append (n := 0) (m := n) (cs := []) (news := es.flatMap encE) mk_sl_api_Entry (by decide) rfl rfl (by repeat (first | exact Pick1.here | apply Pick1.there)) (Rd.mem hs (hs.none0 (by omega)) (by repeat (first | exact List.Mem.head _ | apply List.Mem.tail))) (encE_one es) (by omega) (by omega)) rfl ?_)
      rintro _ _ ⟨a1, c1, rfl, -, rfl⟩
      simp only [Nat.zero_add, List.nil_append]
      refine ⟨(.cons (Ent.mem (by repeat (first | exact List.Mem.head _ | apply List.Mem.tail))) (.cons (Ent.mem (by repeat (first | exact List.Mem.head _ | apply List.Mem.tail))) (.nil _))), ?_⟩
      refine WPA.putS ?_
      refine WPA.oneE 10 [(3, [_]), (1, [_])] (by kernel_rfl) rfl rfl (by repeat (first | exact .nil | refine .anc rfl ?_ | refine .keep (by repeat (first | exact List.Mem.head _ | apply List.Mem.tail)) ?_)) (E1.wpo (e_append (m := 1) (news := encE e) mk_sl_api_Entry (by decide) rfl rfl (by repeat (first | exact Pick1.here | apply Pick1.there)) (Rd.part (i := 0) (b := bE) (o := 0) (vs := encE e) (by repeat (first | exact List.Mem.head _ | apply List.Mem.tail)) rfl rfl rfl) (by simp [Value.oneCell']) (by omega) (by omega)) rfl ?_)
      rintro _ _ ⟨a', c', rfl, -, rfl⟩
      refine ⟨(.cons (Ent.mem (by repeat (first | exact List.Mem.head _ | apply List.Mem.tail))) (.cons (Ent.mem (by repeat (first | exact List.Mem.head _ | apply List.Mem.tail))) (.nil _))), ?_⟩
      refine WPA.putS ?_
      refine WPA.takeP 11 rfl (q_build (cs := [_, _, _]) pl_pursuivantref09_Log rfl rfl) (by kernel_rfl) (by kernel_rfl) (by kernel_rfl) rfl rfl (.cons (Ent.mem (by repeat (first | exact List.Mem.head _ | apply List.Mem.tail))) (.cons (Ent.mem (by repeat (first | exact List.Mem.head _ | apply List.Mem.tail))) (.nil _))) ?_
      refine WPA.putS ?_
      refine WPA.oneE 12 [] (by kernel_rfl) rfl rfl (by repeat (first | exact .nil | refine .anc rfl ?_ | refine .keep (by repeat (first | exact List.Mem.head _ | apply List.Mem.tail)) ?_)) (S1.wpo (s_storeNz sz_pursuivantref09_Log rfl rfl (by simp [Value.oneCell']) rfl (by repeat (first | exact Upd.here | apply Upd.there)) (by repeat constructor)) rfl ?_)
      refine ⟨(.nil _), ?_⟩
      refine WPA.putN ?_
      refine WPA.done (by kernel_rfl) ?_
      refine WPC.ret ?_
      simp only [flat_snoc]
      exact endR_r rfl (.cellN (us := [_, _, _]) rfl ld_pursuivantref09_Log (by repeat (first | exact List.Mem.head _ | apply List.Mem.tail)) rfl rfl .nil) (Imp.pick (by repeat (first | exact Pick.nil | apply Pick.keep (by repeat (first | exact List.Mem.head _ | apply List.Mem.tail)) (by first | exact Pers.cells _ _ _ | exact Pers.slv _ _ _) | apply Pick.cons (by repeat (first | exact Pick1.here | apply Pick1.there))))) ⟨a', c', rfl, rfl⟩
  · refine Eff.mk 9 [(6, [_]), (3, [_]), (1, [_])] rfl rfl (by repeat (first | exact .nil | refine .anc rfl ?_ | refine .keep (by repeat (first | exact List.Mem.head _ | apply List.Mem.tail)) ?_)) (E1.wpo (e_buildSlice mk_sl_api_Entry (by decide) rfl rfl rfl) rfl ?_)
    rintro _ _ ⟨bE, rfl, rfl⟩
    refine ⟨(.cons (Ent.mem (by repeat (first | exact List.Mem.head _ | apply List.Mem.tail))) (.cons (Ent.mem (by repeat (first | exact List.Mem.head _ | apply List.Mem.tail))) (.cons (Ent.mem (by repeat (first | exact List.Mem.head _ | apply List.Mem.tail))) (.nil _)))), ?_⟩
    refine WPA.putS ?_
    refine WPA.oneE 4 [(6, [_]), (3, [_]), (1, [_])] (by kernel_rfl) rfl rfl (by repeat (first | exact .nil | refine .anc rfl ?_ | refine .keep (by repeat (first | exact List.Mem.head _ | apply List.Mem.tail)) ?_)) (E1.wpo (e_buildSlice mk_sl_api_Entry (by decide) rfl rfl rfl) rfl ?_)
    rintro _ _ ⟨b0, rfl, rfl⟩
    refine ⟨(.cons (Ent.mem (by repeat (first | exact List.Mem.head _ | apply List.Mem.tail))) (.cons (Ent.mem (by repeat (first | exact List.Mem.head _ | apply List.Mem.tail))) (.cons (Ent.mem (by repeat (first | exact List.Mem.head _ | apply List.Mem.tail))) (.nil _)))), ?_⟩
    refine WPA.putS ?_
    refine WPA.imp (Imp.bufNew (sz := 3) (b := b0) (n := 0) (cs := []) rfl) ?_
    refine WPA.oneE 7 [(3, [_]), (1, [_])] (by kernel_rfl) rfl rfl (by repeat (first | exact .nil | refine .anc rfl ?_ | refine .keep (by repeat (first | exact List.Mem.head _ | apply List.Mem.tail)) ?_)) (E1.wpo (e_append (n := 0) (m := n) (cs := []) (news := es.flatMap encE) mk_sl_api_Entry (by decide) rfl rfl (by repeat (first | exact Pick1.here | apply Pick1.there)) (Rd.mem hs (hs.none0 (by omega)) (by repeat (first | exact List.Mem.head _ | apply List.Mem.tail))) (encE_one es) (by omega) (by omega)) rfl ?_)
    rintro _ _ ⟨a1, c1, rfl, -, rfl⟩
    simp only [Nat.zero_add, List.nil_append]
    refine ⟨(.cons (Ent.mem (by repeat (first | exact List.Mem.head _ | apply List.Mem.tail))) (.cons (Ent.mem (by repeat (first | exact List.Mem.head _ | apply List.Mem.tail))) (.nil _))), ?_⟩
    refine WPA.putS ?_
    refine WPA.oneE 10 [(3, [_]), (1, [_])] (by kernel_rfl) rfl rfl (by repeat (first | exact .nil | refine .anc rfl ?_ | refine .keep (by repeat (first | exact List.Mem.head _ | apply List.Mem.tail)) ?_)) (E1.wpo (e_append (m := 1) (news := encE e) mk_sl_api_Entry (by decide) rfl rfl (by repeat (first | exact Pick1.here | apply Pick1.there)) (Rd.part (i := 0) (b := bE) (o := 0) (vs := encE e) (by repeat (first | exact List.Mem.head _ | apply List.Mem.tail)) rfl rfl rfl) (by simp [Value.oneCell']) (by omega) (by omega)) rfl ?_)
    rintro _ _ ⟨a', c', rfl, -, rfl⟩
    refine ⟨(.cons (Ent.mem (by repeat (first | exact List.Mem.head _ | apply List.Mem.tail))) (.cons (Ent.mem (by repeat (first | exact List.Mem.head _ | apply List.Mem.tail))) (.nil _))), ?_⟩
    refine WPA.putS ?_
    refine WPA.takeP 11 rfl (q_build (cs := [_, _, _]) pl_pursuivantref09_Log rfl rfl) (by kernel_rfl) (by kernel_rfl) (by kernel_rfl) rfl rfl (.cons (Ent.mem (by repeat (first | exact List.Mem.head _ | apply List.Mem.tail))) (.cons (Ent.mem (by repeat (first | exact List.Mem.head _ | apply List.Mem.tail))) (.nil _))) ?_
    refine WPA.putS ?_
    refine WPA.oneE 12 [] (by kernel_rfl) rfl rfl (by repeat (first | exact .nil | refine .anc rfl ?_ | refine .keep (by repeat (first | exact List.Mem.head _ | apply List.Mem.tail)) ?_)) (S1.wpo (s_storeNz sz_pursuivantref09_Log rfl rfl (by simp [Value.oneCell']) rfl (by repeat (first | exact Upd.here | apply Upd.there)) (by repeat constructor)) rfl ?_)
    refine ⟨(.nil _), ?_⟩
    refine WPA.putN ?_
    refine WPA.done (by kernel_rfl) ?_
    refine WPC.ret ?_
    simp only [flat_snoc]
    exact endR_r rfl (.cellN (us := [_, _, _]) rfl ld_pursuivantref09_Log (by repeat (first | exact List.Mem.head _ | apply List.Mem.tail)) rfl rfl .nil) (Imp.pick (by repeat (first | exact Pick.nil | apply Pick.keep (by repeat (first | exact List.Mem.head _ | apply List.Mem.tail)) (by first | exact Pers.cells _ _ _ | exact Pers.slv _ _ _) | apply Pick.cons (by repeat (first | exact Pick1.here | apply Pick1.there))))) ⟨a', c', rfl, rfl⟩

end Go.Sl
