/- Walks: the reference asks. -/
import Derived.Test.YtpipmojaonialaaWI
namespace Go.Sl
open Go Go.RowKit Go.Proofs
set_option linter.unusedSimpArgs false
set_option linter.unusedVariables false
attribute [local irreducible] faB szB ldB zB zL slB mkB arB plB intB cells objc star stars buf slv grp whole Sat WPC WPL WPA WPO Trip

theorem c_rLead5 {b o : Nat} {x : EN} (hx : x.fits) : Trip Try.prog 36 #[.pointer (some ⟨b, o, none⟩)] [rnode b o x] fun r Δ => r = .tuple #[] ∧ Δ = [rnode b o x.lead5] := by
  obtain ⟨me, vote, role, lead, conf, yes, term, commit, base, bt, es, heard, next, mtch⟩ := x
  obtain ⟨hme, hterm, hbase, hes, hys⟩ := hx
  dsimp only at hme hterm hbase hes
  obtain ⟨mn, rfl⟩ : ∃ mn : Nat, me = (mn : Int) := ⟨me.toNat, by omega⟩
  refine rnode_open3 fun L hL => ?_
  obtain ⟨ca, cn, cc, ya, yn, yc, ea, en, ec⟩ := L
  obtain ⟨hc, hcn, hy0, hyn, he, hen, hnx, hmt⟩ := hL
  dsimp only at hc hcn hy0 hyn he hen hnx hmt
  dsimp only [rnodeH]
  have hel : es.length = en := by have := he.len; rw [flat_length encE_len] at this; omega
  have hb : 0 ≤ base ∧ base ≤ 4611686018427387904 := by omega
  rw [show EN.lead5 ⟨(mn : Int), vote, role, lead, conf, yes, term, commit, base, bt, es, heard, next, mtch⟩ = (⟨(mn : Int), vote, 3, (mn : Int), conf, [], term, commit, base, bt, es ++ [⟨term, 0, none, 0, 0⟩], heard, List.replicate 16 (base + ((en + 1 : Nat) : Int)), (List.replicate 16 0).set mn (base + ((en + 1 : Nat) : Int))⟩ : EN) by simp [EN.lead5, EN.grow, hel]]
  refine Trip.start 61 [] [(0, .pointer (some ⟨b, o, none⟩))] Try.func36 rfl Try.ntmps36 rfl ⟨rfl, trivial⟩ rfl ?_
  refine WPC.seqR ?_
  refine L_s (q_move rfl) rfl ?_
  first | refine L_s (q_nilP rfl) rfl ?_ | refine L_s (q_nilF rfl) rfl ?_
  first | refine L_s (q_faK fa_pursuivantref11_Node_Role rfl) rfl ?_ | refine L_s (q_fa fa_pursuivantref11_Node_Role rfl) rfl ?_
  refine WPL.cons rfl (S1.wpo (s_store1k sz_int rfl rfl rfl rfl (by repeat (first | exact Upd.here | apply Upd.there)) (by repeat constructor)) rfl ?_)
  refine WPL.putN ?_
  refine WPL.nil ?_
  refine WPC.seqR ?_
  refine L_s (q_move rfl) rfl ?_
  refine L_s (q_move rfl) rfl ?_
  first | refine L_s (q_nilP rfl) rfl ?_ | refine L_s (q_nilF rfl) rfl ?_
  first | refine L_s (q_faK fa_pursuivantref11_Node_Me rfl) rfl ?_ | refine L_s (q_fa fa_pursuivantref11_Node_Me rfl) rfl ?_
  first | refine L_s (q_load1z ld_int rfl (by repeat (first | exact List.Mem.head _ | apply List.Mem.tail)) (by rfl)) rfl ?_ | refine L_s (q_load1 ld_int rfl (by repeat (first | exact List.Mem.head _ | apply List.Mem.tail)) rfl (by rfl)) rfl ?_
  first | refine L_s (q_nilP rfl) rfl ?_ | refine L_s (q_nilF rfl) rfl ?_
  first | refine L_s (q_faK fa_pursuivantref11_Node_Lead rfl) rfl ?_ | refine L_s (q_fa fa_pursuivantref11_Node_Lead rfl) rfl ?_
  refine WPL.cons rfl (S1.wpo (s_store1k sz_int rfl rfl rfl rfl (by repeat (first | exact Upd.here | apply Upd.there)) (by repeat constructor)) rfl ?_)
  refine WPL.putN ?_
  refine WPL.nil ?_
  refine WPC.seqR ?_
  refine L_s (q_move rfl) rfl ?_
  first | refine L_s (q_nilP rfl) rfl ?_ | refine L_s (q_nilF rfl) rfl ?_
  first | refine L_s (q_faK fa_pursuivantref11_Node_Yes rfl) rfl ?_ | refine L_s (q_fa fa_pursuivantref11_Node_Yes rfl) rfl ?_
  refine WPL.cons rfl (S1.wpo (s_store1k sz_sl_int rfl rfl rfl rfl (by repeat (first | exact Upd.here | apply Upd.there)) (by repeat constructor)) rfl ?_)
  refine WPL.putN ?_
  refine WPL.nil ?_
  refine WPC.seqD mixed ?_
  refine WPA.takeP 0 rfl (q_move rfl) (by kernel_rfl) (by kernel_rfl) (by kernel_rfl) rfl rfl (.nil _) ?_
  refine WPA.putS ?_
  refine WPA.takeP 1 rfl (q_move rfl) (by kernel_rfl) (by kernel_rfl) (by kernel_rfl) rfl rfl (.nil _) ?_
  refine WPA.putS ?_
  first | refine WPA.takeP 2 rfl (q_nilP rfl) (by kernel_rfl) (by kernel_rfl) (by kernel_rfl) rfl rfl (.nil _) ?_ | refine WPA.takeP 2 rfl (q_nilF rfl) (by kernel_rfl) (by kernel_rfl) (by kernel_rfl) rfl rfl (.nil _) ?_
  refine WPA.putS ?_
  first | refine WPA.takeP 3 rfl (q_faK fa_pursuivantref11_Node_Log rfl) (by kernel_rfl) (by kernel_rfl) (by kernel_rfl) rfl rfl (.nil _) ?_ | refine WPA.takeP 3 rfl (q_fa fa_pursuivantref11_Node_Log rfl) (by kernel_rfl) (by kernel_rfl) (by kernel_rfl) rfl rfl (.nil _) ?_
  refine WPA.putS ?_
  first | refine WPA.takeL 4 rfl (Ent.mem (by repeat (first | exact List.Mem.head _ | apply List.Mem.tail))) (q_loadNz (us := [_, _, _]) ld_pursuivantref09_Log rfl (.head _) (by exact ⟨rfl, rfl⟩)) (by kernel_rfl) (by kernel_rfl) (by kernel_rfl) rfl rfl (.nil _) ?_ | refine WPA.takeL 4 rfl (Ent.mem (by repeat (first | exact List.Mem.head _ | apply List.Mem.tail))) (q_loadNk (us := [_, _, _]) ld_pursuivantref09_Log rfl (.head _) (by exact ⟨rfl, rfl⟩)) (by kernel_rfl) (by kernel_rfl) (by kernel_rfl) rfl rfl (.nil _) ?_
  refine WPA.putS ?_
  refine WPA.takeP 5 rfl (q_move rfl) (by kernel_rfl) (by kernel_rfl) (by kernel_rfl) rfl rfl (.cons (Ent.mem (by repeat (first | exact List.Mem.head _ | apply List.Mem.tail))) (.nil _)) ?_
  refine WPA.putS ?_
  first | refine WPA.takeP 6 rfl (q_nilP rfl) (by kernel_rfl) (by kernel_rfl) (by kernel_rfl) rfl rfl (.cons (Ent.mem (by repeat (first | exact List.Mem.head _ | apply List.Mem.tail))) (.nil _)) ?_ | refine WPA.takeP 6 rfl (q_nilF rfl) (by kernel_rfl) (by kernel_rfl) (by kernel_rfl) rfl rfl (.cons (Ent.mem (by repeat (first | exact List.Mem.head _ | apply List.Mem.tail))) (.nil _)) ?_
  refine WPA.putS ?_
  first | refine WPA.takeP 7 rfl (q_faK fa_pursuivantref11_Node_Term rfl) (by kernel_rfl) (by kernel_rfl) (by kernel_rfl) rfl rfl (.cons (Ent.mem (by repeat (first | exact List.Mem.head _ | apply List.Mem.tail))) (.nil _)) ?_ | refine WPA.takeP 7 rfl (q_fa fa_pursuivantref11_Node_Term rfl) (by kernel_rfl) (by kernel_rfl) (by kernel_rfl) rfl rfl (.cons (Ent.mem (by repeat (first | exact List.Mem.head _ | apply List.Mem.tail))) (.nil _)) ?_
  refine WPA.putS ?_
  first | refine WPA.takeL 8 rfl (Ent.mem (by repeat (first | exact List.Mem.head _ | apply List.Mem.tail))) (q_load1z ld_uint64 rfl (.head _) (by rfl)) (by kernel_rfl) (by kernel_rfl) (by kernel_rfl) rfl rfl (.cons (Ent.mem (by repeat (first | exact List.Mem.head _ | apply List.Mem.tail))) (.nil _)) ?_ | refine WPA.takeL 8 rfl (Ent.mem (by repeat (first | exact List.Mem.head _ | apply List.Mem.tail))) (q_load1 ld_uint64 rfl (.head _) rfl (by rfl)) (by kernel_rfl) (by kernel_rfl) (by kernel_rfl) rfl rfl (.cons (Ent.mem (by repeat (first | exact List.Mem.head _ | apply List.Mem.tail))) (.nil _)) ?_
  refine WPA.putS ?_
  refine WPA.takeP 9 rfl (q_build (cs := [_, _, _]) pl_api_Entry rfl rfl) (by kernel_rfl) (by kernel_rfl) (by kernel_rfl) rfl rfl (.cons (Ent.mem (by repeat (first | exact List.Mem.head _ | apply List.Mem.tail))) (.cons (Ent.mem (by repeat (first | exact List.Mem.head _ | apply List.Mem.tail))) (.nil _))) ?_
  refine WPA.putS ?_
  refine WPA.oneE 10 [] (by kernel_rfl) rfl rfl (by repeat (first | exact .nil | refine .anc rfl ?_ | refine .keep (by repeat (first | exact List.Mem.head _ | apply List.Mem.tail)) ?_)) (C1.call (c_call Try.func55 rfl rfl rfl) (c_rAdd he (by omega) ⟨term, 0, none, 0, 0⟩) (by repeat (first | exact Pick.nil | apply Pick.keep (by repeat (first | exact List.Mem.head _ | apply List.Mem.tail)) (by first | exact Pers.cells _ _ _ | exact Pers.slv _ _ _) | apply Pick.cons (by repeat (first | exact Pick1.here | apply Pick1.there)))) rfl ?_)
  rintro _ _ ⟨a', c', rfl, rfl⟩
  refine ⟨(.nil _), ?_⟩
  refine WPA.putS ?_
  first | refine WPA.takeP 11 rfl (q_nilP rfl) (by kernel_rfl) (by kernel_rfl) (by kernel_rfl) rfl rfl (.nil _) ?_ | refine WPA.takeP 11 rfl (q_nilF rfl) (by kernel_rfl) (by kernel_rfl) (by kernel_rfl) rfl rfl (.nil _) ?_
  refine WPA.putS ?_
  first | refine WPA.takeP 12 rfl (q_faK fa_pursuivantref11_Node_Log rfl) (by kernel_rfl) (by kernel_rfl) (by kernel_rfl) rfl rfl (.nil _) ?_ | refine WPA.takeP 12 rfl (q_fa fa_pursuivantref11_Node_Log rfl) (by kernel_rfl) (by kernel_rfl) (by kernel_rfl) rfl rfl (.nil _) ?_
  refine WPA.putS ?_
  refine WPA.oneE 13 [] (by kernel_rfl) rfl rfl (by repeat (first | exact .nil | refine .anc rfl ?_ | refine .keep (by repeat (first | exact List.Mem.head _ | apply List.Mem.tail)) ?_)) (S1.wpo (s_storeNk sz_pursuivantref09_Log rfl rfl (by simp [Value.oneCell']) rfl (by repeat (first | exact Upd.here | apply Upd.there)) (by repeat constructor)) rfl ?_)
  refine ⟨(.nil _), ?_⟩
  refine WPA.putN ?_
  refine WPA.done (by kernel_rfl) ?_
  refine WPC.imp (Imp.pick (Δ := [buf 3 a' (en + 1) c' ((es ++ [(⟨term, 0, none, 0, 0⟩ : RE)]).flatMap encE), cells true b o (rnodeH (⟨(mn : Int), vote, 3, (mn : Int), conf, [], term, commit, base, bt, es ++ [⟨term, 0, none, 0, 0⟩], heard, next, mtch⟩ : EN) (⟨ca, cn, cc, none, 0, 0, a', en + 1, c'⟩ : RL)), cells true b (o + 12) (next.map (.int .u64)), cells true b (o + 28) (mtch.map (.int .u64)), sl false ca (conf.map (.int .i64))]) (by repeat (first | exact Pick.nil | apply Pick.keep (by repeat (first | exact List.Mem.head _ | apply List.Mem.tail)) (by first | exact Pers.cells _ _ _ | exact Pers.slv _ _ _) | apply Pick.cons (by repeat (first | exact Pick1.here | apply Pick1.there))))) ?_
  refine WPC.bufRo fun hs2 => ?_
  refine WPC.imp (Imp.slEmpty (p := false) (a := none)) ?_
  refine WPC.seq ?_
  refine WPC.seqR ?_
  refine L_s (q_assign rfl) rfl ?_
  refine WPL.nil ?_
  refine WPC.prune [(0, _), (2, _)] (by repeat (first | exact trivial | refine ⟨rfl, ?_⟩)) ?_
  refine WPC.block ?_
  refine WPC.loopS (fun m e Γ => ∃ (k : Nat) (nx mt : List Int), m = 16 - k ∧ k ≤ 16 ∧ nx.length = 16 ∧ mt.length = 16 ∧ nx.take k = List.replicate k (base + ((en + 1 : Nat) : Int)) ∧ mt.take k = List.replicate k 0 ∧ e = [(0, .pointer (some ⟨b, o, none⟩)), (2, .int .i64 (k : Int))] ∧ Γ = [cells true b o (rnodeH (⟨(mn : Int), vote, 3, (mn : Int), conf, [], term, commit, base, bt, es ++ [⟨term, 0, none, 0, 0⟩], heard, nx, mt⟩ : EN) (⟨ca, cn, cc, none, 0, 0, a', en + 1, c'⟩ : RL)), cells true b (o + 12) (nx.map (.int .u64)), cells true b (o + 28) (mt.map (.int .u64)), sl false ca (conf.map (.int .i64)), sl false none [], sl false a' ((es ++ [(⟨term, 0, none, 0, 0⟩ : RE)]).flatMap encE)]) (16) ⟨0, next, mtch, rfl, by omega, hnx, hmt, rfl, rfl, rfl, rfl⟩ (by repeat (first | exact trivial | refine ⟨rfl, ?_⟩)) (Imp.pick (by repeat (first | exact Pick.nil | apply Pick.keep (by repeat (first | exact List.Mem.head _ | apply List.Mem.tail)) (by first | exact Pers.cells _ _ _ | exact Pers.slv _ _ _) | apply Pick.cons (by repeat (first | exact Pick1.here | apply Pick1.there))))) ?_
  rintro m e Γ ⟨k, nx, mt, rfl, hk, hnl, hml, hnt, hmt2, rfl, rfl⟩
  refine WPC.seq ?_
  refine WPC.seqR ?_
  refine L_s (q_move rfl) rfl ?_
  refine L_s (q_int rfl rfl rfl) rfl ?_
  refine WPL.nil ?_
  refine WPC.cond rfl (fun h0 => ?_) (fun h0 => ?_)
  · simp only [decide_eq_true_eq] at h0
    have hk' : k < 16 := by omega
    refine WPC.skip ?_
    refine thenQ_n ?_
    refine WPC.seq ?_
    refine WPC.block ?_
    refine WPC.seqD mixed ?_
    refine WPA.takeP 0 rfl (q_move rfl) (by kernel_rfl) (by kernel_rfl) (by kernel_rfl) rfl rfl (.nil _) ?_
    refine WPA.putS ?_
    refine WPA.takeP 1 rfl (q_move rfl) (by kernel_rfl) (by kernel_rfl) (by kernel_rfl) rfl rfl (.nil _) ?_
    refine WPA.putS ?_
    refine WPA.takeP 2 rfl (q_move rfl) (by kernel_rfl) (by kernel_rfl) (by kernel_rfl) rfl rfl (.nil _) ?_
    refine WPA.putS ?_
    first | refine WPA.takeP 3 rfl (q_nilP rfl) (by kernel_rfl) (by kernel_rfl) (by kernel_rfl) rfl rfl (.nil _) ?_ | refine WPA.takeP 3 rfl (q_nilF rfl) (by kernel_rfl) (by kernel_rfl) (by kernel_rfl) rfl rfl (.nil _) ?_
    refine WPA.putS ?_
    first | refine WPA.takeP 4 rfl (q_faK fa_pursuivantref11_Node_Log rfl) (by kernel_rfl) (by kernel_rfl) (by kernel_rfl) rfl rfl (.nil _) ?_ | refine WPA.takeP 4 rfl (q_fa fa_pursuivantref11_Node_Log rfl) (by kernel_rfl) (by kernel_rfl) (by kernel_rfl) rfl rfl (.nil _) ?_
    refine WPA.putS ?_
    first | refine WPA.takeL 5 rfl (Ent.mem (by repeat (first | exact List.Mem.head _ | apply List.Mem.tail))) (q_loadNz (us := [_, _, _]) ld_pursuivantref09_Log rfl (.head _) (by exact ⟨rfl, rfl⟩)) (by kernel_rfl) (by kernel_rfl) (by kernel_rfl) rfl rfl (.nil _) ?_ | refine WPA.takeL 5 rfl (Ent.mem (by repeat (first | exact List.Mem.head _ | apply List.Mem.tail))) (q_loadNk (us := [_, _, _]) ld_pursuivantref09_Log rfl (.head _) (by exact ⟨rfl, rfl⟩)) (by kernel_rfl) (by kernel_rfl) (by kernel_rfl) rfl rfl (.nil _) ?_
    refine WPA.putS ?_
    first | refine WPA.takeP 7 rfl (q_nilP rfl) (by kernel_rfl) (by kernel_rfl) (by kernel_rfl) rfl rfl (.cons (Ent.mem (by repeat (first | exact List.Mem.head _ | apply List.Mem.tail))) (.nil _)) ?_ | refine WPA.takeP 7 rfl (q_nilF rfl) (by kernel_rfl) (by kernel_rfl) (by kernel_rfl) rfl rfl (.cons (Ent.mem (by repeat (first | exact List.Mem.head _ | apply List.Mem.tail))) (.nil _)) ?_
    refine WPA.putS ?_
    first | refine WPA.takeP 8 rfl (q_faK fa_pursuivantref11_Node_Next rfl) (by kernel_rfl) (by kernel_rfl) (by kernel_rfl) rfl rfl (.cons (Ent.mem (by repeat (first | exact List.Mem.head _ | apply List.Mem.tail))) (.nil _)) ?_ | refine WPA.takeP 8 rfl (q_fa fa_pursuivantref11_Node_Next rfl) (by kernel_rfl) (by kernel_rfl) (by kernel_rfl) rfl rfl (.cons (Ent.mem (by repeat (first | exact List.Mem.head _ | apply List.Mem.tail))) (.nil _)) ?_
    refine WPA.putS ?_
    refine WPA.oneE 6 [] (by kernel_rfl) rfl rfl (by repeat (first | exact .nil | refine .anc rfl ?_ | refine .keep (by repeat (first | exact List.Mem.head _ | apply List.Mem.tail)) ?_)) (C1.call (c_call Try.func37 rfl rfl rfl) (c_rLast (n := en + 1) hb (by omega)) (by repeat (first | exact Pick.nil | apply Pick.keep (by repeat (first | exact List.Mem.head _ | apply List.Mem.tail)) (by first | exact Pers.cells _ _ _ | exact Pers.slv _ _ _) | apply Pick.cons (by repeat (first | exact Pick1.here | apply Pick1.there)))) rfl ?_)
    rintro _ _ ⟨rfl, rfl⟩
    refine ⟨(.nil _), ?_⟩
    refine WPA.putS ?_
    first | refine WPA.takeP 9 rfl (q_idxAN ar_arr16_uint64 rfl rfl (by omega)) (by kernel_rfl) (by kernel_rfl) (by kernel_rfl) rfl rfl (.nil _) ?_ | refine WPA.takeP 9 rfl (q_idxA ar_arr16_uint64 rfl rfl (by omega) (by omega)) (by kernel_rfl) (by kernel_rfl) (by kernel_rfl) rfl rfl (.nil _) ?_
    refine WPA.putS ?_
    refine WPA.oneE 10 [] (by kernel_rfl) rfl rfl (by repeat (first | exact .nil | refine .anc rfl ?_ | refine .keep (by repeat (first | exact List.Mem.head _ | apply List.Mem.tail)) ?_)) (S1.wpo (s_storeMap (xs := nx) (f := .int .u64) sz_uint64 rfl rfl rfl rfl (by omega) (by repeat (first | exact Upd.here | apply Upd.there))) rfl ?_)
    refine ⟨(.nil _), ?_⟩
    refine WPA.putN ?_
    refine WPA.done (by kernel_rfl) ?_
    refine WPC.region ?_
    refine L_s (q_move rfl) rfl ?_
    refine L_s (q_move rfl) rfl ?_
    first | refine L_s (q_nilP rfl) rfl ?_ | refine L_s (q_nilF rfl) rfl ?_
    first | refine L_s (q_faK fa_pursuivantref11_Node_Match rfl) rfl ?_ | refine L_s (q_fa fa_pursuivantref11_Node_Match rfl) rfl ?_
    first | refine L_s (q_idxAN ar_arr16_uint64 rfl rfl (by omega)) rfl ?_ | refine L_s (q_idxA ar_arr16_uint64 rfl rfl (by omega) (by omega)) rfl ?_
    refine WPL.cons rfl (S1.wpo (s_storeMap (xs := mt) (f := .int .u64) (o := o + 28) sz_uint64 rfl rfl rfl rfl (by omega) (by repeat (first | exact Upd.here | apply Upd.there))) rfl ?_)
    refine WPL.putN ?_
    refine WPL.nil ?_
    refine blockQ_n ?_
    refine thenQ_n ?_
    refine WPC.region ?_
    refine L_s (q_move rfl) rfl ?_
    first | refine L_s (q_inc rfl rfl (by omega)) rfl ?_ | refine L_s (q_addI rfl rfl (by omega)) rfl ?_ | refine L_s (q_int rfl rfl rfl) rfl ?_
    refine L_s (q_assign rfl) rfl ?_
    refine WPL.nil ?_
    refine thenQ_n ?_
    exact ⟨rfl, _, _, _, by omega, ⟨k + 1, nx.set k (base + ((en + 1 : Nat) : Int)), mt.set k 0, rfl, by omega, by simp [hnl], by simp [hml], take_set_rep (by omega) hnt, take_set_rep (by omega) hmt2, rfl, rfl⟩, (by repeat (first | exact trivial | refine ⟨rfl, ?_⟩)), Imp.pick (by repeat (first | exact Pick.nil | apply Pick.keep (by repeat (first | exact List.Mem.head _ | apply List.Mem.tail)) (by first | exact Pers.cells _ _ _ | exact Pers.slv _ _ _) | apply Pick.cons (by repeat (first | exact Pick1.here | apply Pick1.there))))⟩
  · simp only [decide_eq_false_iff_not] at h0
    have hk16 : 16 ≤ k := by omega
    have hk17 : k = 16 := Nat.le_antisymm hk hk16
    rw [hk17] at hnt hmt2
    have e1 := all_eq_replicate hnl hnt
    have e2 := all_eq_replicate hml hmt2
    clear hnt hmt2 hnl hml h0
    subst e1 e2
    refine WPC.exit ?_
    refine thenQ_e ?_
    refine thenQ_e ?_
    refine blockQ_here ?_
    refine thenQ_n ?_
    refine WPC.draw mixed ?_
    refine WPA.takeP 0 rfl (q_move rfl) (by kernel_rfl) (by kernel_rfl) (by kernel_rfl) rfl rfl (.nil _) ?_
    refine WPA.putS ?_
    refine WPA.takeP 1 rfl (q_move rfl) (by kernel_rfl) (by kernel_rfl) (by kernel_rfl) rfl rfl (.nil _) ?_
    refine WPA.putS ?_
    first | refine WPA.takeP 2 rfl (q_nilP rfl) (by kernel_rfl) (by kernel_rfl) (by kernel_rfl) rfl rfl (.nil _) ?_ | refine WPA.takeP 2 rfl (q_nilF rfl) (by kernel_rfl) (by kernel_rfl) (by kernel_rfl) rfl rfl (.nil _) ?_
    refine WPA.putS ?_
    first | refine WPA.takeP 3 rfl (q_faK fa_pursuivantref11_Node_Me rfl) (by kernel_rfl) (by kernel_rfl) (by kernel_rfl) rfl rfl (.nil _) ?_ | refine WPA.takeP 3 rfl (q_fa fa_pursuivantref11_Node_Me rfl) (by kernel_rfl) (by kernel_rfl) (by kernel_rfl) rfl rfl (.nil _) ?_
    refine WPA.putS ?_
    first | refine WPA.takeL 4 rfl (Ent.mem (by repeat (first | exact List.Mem.head _ | apply List.Mem.tail))) (q_load1z ld_int rfl (.head _) (by rfl)) (by kernel_rfl) (by kernel_rfl) (by kernel_rfl) rfl rfl (.nil _) ?_ | refine WPA.takeL 4 rfl (Ent.mem (by repeat (first | exact List.Mem.head _ | apply List.Mem.tail))) (q_load1 ld_int rfl (.head _) rfl (by rfl)) (by kernel_rfl) (by kernel_rfl) (by kernel_rfl) rfl rfl (.nil _) ?_
    refine WPA.putS ?_
    refine WPA.takeP 5 rfl (q_move rfl) (by kernel_rfl) (by kernel_rfl) (by kernel_rfl) rfl rfl (.cons (Ent.mem (by repeat (first | exact List.Mem.head _ | apply List.Mem.tail))) (.nil _)) ?_
    refine WPA.putS ?_
    first | refine WPA.takeP 6 rfl (q_nilP rfl) (by kernel_rfl) (by kernel_rfl) (by kernel_rfl) rfl rfl (.cons (Ent.mem (by repeat (first | exact List.Mem.head _ | apply List.Mem.tail))) (.nil _)) ?_ | refine WPA.takeP 6 rfl (q_nilF rfl) (by kernel_rfl) (by kernel_rfl) (by kernel_rfl) rfl rfl (.cons (Ent.mem (by repeat (first | exact List.Mem.head _ | apply List.Mem.tail))) (.nil _)) ?_
    refine WPA.putS ?_
    first | refine WPA.takeP 7 rfl (q_faK fa_pursuivantref11_Node_Log rfl) (by kernel_rfl) (by kernel_rfl) (by kernel_rfl) rfl rfl (.cons (Ent.mem (by repeat (first | exact List.Mem.head _ | apply List.Mem.tail))) (.nil _)) ?_ | refine WPA.takeP 7 rfl (q_fa fa_pursuivantref11_Node_Log rfl) (by kernel_rfl) (by kernel_rfl) (by kernel_rfl) rfl rfl (.cons (Ent.mem (by repeat (first | exact List.Mem.head _ | apply List.Mem.tail))) (.nil _)) ?_
    refine WPA.putS ?_
    first | refine WPA.takeL 8 rfl (Ent.mem (by repeat (first | exact List.Mem.head _ | apply List.Mem.tail))) (q_loadNz (us := [_, _, _]) ld_pursuivantref09_Log rfl (.head _) (by exact ⟨rfl, rfl⟩)) (by kernel_rfl) (by kernel_rfl) (by kernel_rfl) rfl rfl (.cons (Ent.mem (by repeat (first | exact List.Mem.head _ | apply List.Mem.tail))) (.nil _)) ?_ | refine WPA.takeL 8 rfl (Ent.mem (by repeat (first | exact List.Mem.head _ | apply List.Mem.tail))) (q_loadNk (us := [_, _, _]) ld_pursuivantref09_Log rfl (.head _) (by exact ⟨rfl, rfl⟩)) (by kernel_rfl) (by kernel_rfl) (by kernel_rfl) rfl rfl (.cons (Ent.mem (by repeat (first | exact List.Mem.head _ | apply List.Mem.tail))) (.nil _)) ?_
    refine WPA.putS ?_
    first | refine WPA.takeP 10 rfl (q_nilP rfl) (by kernel_rfl) (by kernel_rfl) (by kernel_rfl) rfl rfl (.cons (Ent.mem (by repeat (first | exact List.Mem.head _ | apply List.Mem.tail))) (.cons (Ent.mem (by repeat (first | exact List.Mem.head _ | apply List.Mem.tail))) (.nil _))) ?_ | refine WPA.takeP 10 rfl (q_nilF rfl) (by kernel_rfl) (by kernel_rfl) (by kernel_rfl) rfl rfl (.cons (Ent.mem (by repeat (first | exact List.Mem.head _ | apply List.Mem.tail))) (.cons (Ent.mem (by repeat (first | exact List.Mem.head _ | apply List.Mem.tail))) (.nil _))) ?_
    refine WPA.putS ?_
    first | refine WPA.takeP 11 rfl (q_faK fa_pursuivantref11_Node_Match rfl) (by kernel_rfl) (by kernel_rfl) (by kernel_rfl) rfl rfl (.cons (Ent.mem (by repeat (first | exact List.Mem.head _ | apply List.Mem.tail))) (.cons (Ent.mem (by repeat (first | exact List.Mem.head _ | apply List.Mem.tail))) (.nil _))) ?_ | refine WPA.takeP 11 rfl (q_fa fa_pursuivantref11_Node_Match rfl) (by kernel_rfl) (by kernel_rfl) (by kernel_rfl) rfl rfl (.cons (Ent.mem (by repeat (first | exact List.Mem.head _ | apply List.Mem.tail))) (.cons (Ent.mem (by repeat (first | exact List.Mem.head _ | apply List.Mem.tail))) (.nil _))) ?_
    refine WPA.putS ?_
    refine WPA.oneE 9 [(4, [_])] (by kernel_rfl) rfl rfl (by repeat (first | exact .nil | refine .anc rfl ?_ | refine .keep (by repeat (first | exact List.Mem.head _ | apply List.Mem.tail)) ?_)) (C1.call (c_call Try.func37 rfl rfl rfl) (c_rLast (n := en + 1) hb (by omega)) (by repeat (first | exact Pick.nil | apply Pick.keep (by repeat (first | exact List.Mem.head _ | apply List.Mem.tail)) (by first | exact Pers.cells _ _ _ | exact Pers.slv _ _ _) | apply Pick.cons (by repeat (first | exact Pick1.here | apply Pick1.there)))) rfl ?_)
    rintro _ _ ⟨rfl, rfl⟩
    refine ⟨(.cons (Ent.mem (by repeat (first | exact List.Mem.head _ | apply List.Mem.tail))) (.nil _)), ?_⟩
    refine WPA.putS ?_
    first | refine WPA.takeP 12 rfl (q_idxAN ar_arr16_uint64 rfl rfl (by omega)) (by kernel_rfl) (by kernel_rfl) (by kernel_rfl) rfl rfl (.cons (Ent.mem (by repeat (first | exact List.Mem.head _ | apply List.Mem.tail))) (.nil _)) ?_ | refine WPA.takeP 12 rfl (q_idxA ar_arr16_uint64 rfl rfl (by omega) (by omega)) (by kernel_rfl) (by kernel_rfl) (by kernel_rfl) rfl rfl (.cons (Ent.mem (by repeat (first | exact List.Mem.head _ | apply List.Mem.tail))) (.nil _)) ?_
    refine WPA.putS ?_
    refine WPA.oneE 13 [] (by kernel_rfl) rfl rfl (by repeat (first | exact .nil | refine .anc rfl ?_ | refine .keep (by repeat (first | exact List.Mem.head _ | apply List.Mem.tail)) ?_)) (S1.wpo (s_storeMap (xs := List.replicate 16 0) (f := .int .u64) sz_uint64 rfl rfl rfl rfl (by simp; omega) (by repeat (first | exact Upd.here | apply Upd.there))) rfl ?_)
    refine ⟨(.nil _), ?_⟩
    refine WPA.putN ?_
    refine WPA.done (by kernel_rfl) ?_
    exact endR_n rfl .nil ((Imp.pick (by repeat (first | exact Pick.nil | apply Pick.keep (by repeat (first | exact List.Mem.head _ | apply List.Mem.tail)) (by first | exact Pers.cells _ _ _ | exact Pers.slv _ _ _) | apply Pick.cons (by repeat (first | exact Pick1.here | apply Pick1.there))))).trans (rnode_close3 (⟨ca, cn, cc, none, 0, 0, a', en + 1, c'⟩ : RL) ⟨hc, hcn, (⟨rfl, Nat.le_refl _, .inl rfl⟩), by (show 0 < _; omega), hs2, (by show en + 1 < _; omega), by simp, by simp⟩ (Γ := []))) ⟨rfl, rfl⟩

theorem c_rAskR {b o : Nat} {x : EN} (hx : x.fits) (ht : x.term + 1 < 2305843009213693952) : Trip Try.prog 9 #[.pointer (some ⟨b, o, none⟩), .bool true] [rnode b o x] fun r Δ => ∃ (a : Option Addr) (c : Nat), r = .slice a x.askR.2.length c ∧ Δ = [rnode b o x.askR.1, buf 10 a x.askR.2.length c (x.askR.2.flatMap encM)] := by
  obtain ⟨me, vote, role, lead, conf, yes, term, commit, base, bt, es, heard, next, mtch⟩ := x
  obtain ⟨hme, hterm, hbase, hes, hys⟩ := hx
  dsimp only at ht hme hterm hbase hes
  obtain ⟨mn, rfl⟩ : ∃ mn : Nat, me = (mn : Int) := ⟨me.toNat, by omega⟩
  refine rnode_open3 fun L hL => ?_
  obtain ⟨ca, cn, cc, ya, yn, yc, ea, en, ec⟩ := L
  obtain ⟨hc, hcn, hy0, hyn, he, hen, hnx, hmt⟩ := hL
  dsimp only at hc hcn hy0 hyn he hen hnx hmt
  dsimp only [rnodeH]
  have hel : es.length = en := by have := he.len; rw [flat_length encE_len] at this; omega
  have hb : 0 ≤ base ∧ base ≤ 4611686018427387904 := by omega
  refine Trip.start 113 [.tmp 4] [(0, .pointer (some ⟨b, o, none⟩)), (1, .bool true)] Try.func9 rfl Try.ntmps9 rfl ⟨rfl, rfl, trivial⟩ rfl ?_
  refine WPC.seqR ?_
  refine L_s (q_assign rfl) rfl ?_
  refine WPL.nil ?_
  refine WPC.seqD mixed ?_
  refine WPA.takeP 0 rfl (q_move rfl) (by kernel_rfl) (by kernel_rfl) (by kernel_rfl) rfl rfl (.nil _) ?_
  refine WPA.putS ?_
  first | refine WPA.takeP 1 rfl (q_nilP rfl) (by kernel_rfl) (by kernel_rfl) (by kernel_rfl) rfl rfl (.nil _) ?_ | refine WPA.takeP 1 rfl (q_nilF rfl) (by kernel_rfl) (by kernel_rfl) (by kernel_rfl) rfl rfl (.nil _) ?_
  refine WPA.putS ?_
  first | refine WPA.takeP 2 rfl (q_faK fa_pursuivantref11_Node_Conf rfl) (by kernel_rfl) (by kernel_rfl) (by kernel_rfl) rfl rfl (.nil _) ?_ | refine WPA.takeP 2 rfl (q_fa fa_pursuivantref11_Node_Conf rfl) (by kernel_rfl) (by kernel_rfl) (by kernel_rfl) rfl rfl (.nil _) ?_
  refine WPA.putS ?_
  first | refine WPA.takeL 3 rfl (Ent.mem (by repeat (first | exact List.Mem.head _ | apply List.Mem.tail))) (q_load1z ld_sl_int rfl (.head _) (by rfl)) (by kernel_rfl) (by kernel_rfl) (by kernel_rfl) rfl rfl (.nil _) ?_ | refine WPA.takeL 3 rfl (Ent.mem (by repeat (first | exact List.Mem.head _ | apply List.Mem.tail))) (q_load1 ld_sl_int rfl (.head _) rfl (by rfl)) (by kernel_rfl) (by kernel_rfl) (by kernel_rfl) rfl rfl (.nil _) ?_
  refine WPA.putS ?_
  refine WPA.takeP 4 rfl (q_move rfl) (by kernel_rfl) (by kernel_rfl) (by kernel_rfl) rfl rfl (.cons (Ent.mem (by repeat (first | exact List.Mem.head _ | apply List.Mem.tail))) (.nil _)) ?_
  refine WPA.putS ?_
  first | refine WPA.takeP 5 rfl (q_nilP rfl) (by kernel_rfl) (by kernel_rfl) (by kernel_rfl) rfl rfl (.cons (Ent.mem (by repeat (first | exact List.Mem.head _ | apply List.Mem.tail))) (.nil _)) ?_ | refine WPA.takeP 5 rfl (q_nilF rfl) (by kernel_rfl) (by kernel_rfl) (by kernel_rfl) rfl rfl (.cons (Ent.mem (by repeat (first | exact List.Mem.head _ | apply List.Mem.tail))) (.nil _)) ?_
  refine WPA.putS ?_
  first | refine WPA.takeP 6 rfl (q_faK fa_pursuivantref11_Node_Me rfl) (by kernel_rfl) (by kernel_rfl) (by kernel_rfl) rfl rfl (.cons (Ent.mem (by repeat (first | exact List.Mem.head _ | apply List.Mem.tail))) (.nil _)) ?_ | refine WPA.takeP 6 rfl (q_fa fa_pursuivantref11_Node_Me rfl) (by kernel_rfl) (by kernel_rfl) (by kernel_rfl) rfl rfl (.cons (Ent.mem (by repeat (first | exact List.Mem.head _ | apply List.Mem.tail))) (.nil _)) ?_
  refine WPA.putS ?_
  first | refine WPA.takeL 7 rfl (Ent.mem (by repeat (first | exact List.Mem.head _ | apply List.Mem.tail))) (q_load1z ld_int rfl (.head _) (by rfl)) (by kernel_rfl) (by kernel_rfl) (by kernel_rfl) rfl rfl (.cons (Ent.mem (by repeat (first | exact List.Mem.head _ | apply List.Mem.tail))) (.nil _)) ?_ | refine WPA.takeL 7 rfl (Ent.mem (by repeat (first | exact List.Mem.head _ | apply List.Mem.tail))) (q_load1 ld_int rfl (.head _) rfl (by rfl)) (by kernel_rfl) (by kernel_rfl) (by kernel_rfl) rfl rfl (.cons (Ent.mem (by repeat (first | exact List.Mem.head _ | apply List.Mem.tail))) (.nil _)) ?_
  refine WPA.putS ?_
  refine WPA.oneE 8 [] (by kernel_rfl) rfl rfl (by repeat (first | exact .nil | refine .anc rfl ?_ | refine .keep (by repeat (first | exact List.Mem.head _ | apply List.Mem.tail)) ?_)) (C1.call (c_call Try.func34 rfl rfl rfl) (c_rHas hc hcn mn) (by repeat (first | exact Pick.nil | apply Pick.keep (by repeat (first | exact List.Mem.head _ | apply List.Mem.tail)) (by first | exact Pers.cells _ _ _ | exact Pers.slv _ _ _) | apply Pick.cons (by repeat (first | exact Pick1.here | apply Pick1.there)))) rfl ?_)
  rintro _ _ ⟨rfl, rfl⟩
  refine ⟨(.nil _), ?_⟩
  refine WPA.putS ?_
  refine WPA.takeP 9 rfl (q_assign rfl) (by kernel_rfl) (by kernel_rfl) (by kernel_rfl) rfl rfl (.nil _) ?_
  refine WPA.putS ?_
  refine WPA.done (by kernel_rfl) ?_
  refine WPC.seq ?_
  refine WPC.seqR ?_
  refine L_s (q_move rfl) rfl ?_
  refine L_s (q_not rfl) rfl ?_
  refine WPL.nil ?_
  refine WPC.cond rfl (fun h0 => ?_) (fun h0 => ?_)
  · simp only [Bool.not_eq_true', decide_eq_false_iff_not] at h0
    refine WPC.seqR ?_
    refine L_s (q_assign rfl) rfl ?_
    refine WPL.nil ?_
    refine WPC.ret ?_
    refine thenQ_r ?_
    rw [show EN.askR (⟨(mn : Int), vote, role, lead, conf, yes, term, commit, base, bt, es, heard, next, mtch⟩ : EN) = ((⟨(mn : Int), vote, role, lead, conf, yes, term, commit, base, bt, es, heard, next, mtch⟩ : EN), []) by simp [EN.askR, h0]]
    exact endR_r rfl (.tmp rfl .nil) ((Imp.bufNil (sz := 10)).trans ((Imp.pick (by repeat (first | exact Pick.nil | apply Pick.keep (by repeat (first | exact List.Mem.head _ | apply List.Mem.tail)) (by first | exact Pers.cells _ _ _ | exact Pers.slv _ _ _) | apply Pick.cons (by repeat (first | exact Pick1.here | apply Pick1.there))))).trans (rnode_close3 (⟨ca, cn, cc, ya, yn, yc, ea, en, ec⟩ : RL) ⟨hc, hcn, hy0, hyn, he, hen, hnx, hmt⟩ (Γ := [buf 10 none 0 0 []])))) ⟨none, 0, rfl, rfl⟩
  · simp only [Bool.not_eq_false', decide_eq_true_eq] at h0
    refine WPC.skip ?_
    refine thenQ_n ?_
    refine WPC.seqR ?_
    refine L_s (q_assign rfl) rfl ?_
    refine WPL.nil ?_
    refine WPC.seqR ?_
    refine L_s (q_move rfl) rfl ?_
    first | refine L_s (q_nilP rfl) rfl ?_ | refine L_s (q_nilF rfl) rfl ?_
    first | refine L_s (q_faK fa_pursuivantref11_Node_Term rfl) rfl ?_ | refine L_s (q_fa fa_pursuivantref11_Node_Term rfl) rfl ?_
    first | refine L_s (q_load1z ld_uint64 rfl (by repeat (first | exact List.Mem.head _ | apply List.Mem.tail)) (by rfl)) rfl ?_ | refine L_s (q_load1 ld_uint64 rfl (by repeat (first | exact List.Mem.head _ | apply List.Mem.tail)) rfl (by rfl)) rfl ?_
    first | refine L_s (q_addU rfl rfl (by omega)) rfl ?_ | refine L_s (q_int rfl rfl rfl) rfl ?_
    refine L_s (q_assign rfl) rfl ?_
    refine WPL.nil ?_
    refine WPC.seq ?_
    refine WPC.seqR ?_
    refine L_s (q_move rfl) rfl ?_
    refine WPL.nil ?_
    refine WPC.cond rfl (fun h1 => ?_) (fun h1 => ?_)
    · try simp only [decide_eq_true_eq, decide_eq_false_iff_not, beq_iff_eq, bne_iff_ne, beq_eq_false_iff_ne, bne_eq_false_iff_eq, Bool.not_eq_true', Bool.not_eq_false', Bool.not_eq_eq_eq_not, Bool.not_true, Bool.not_false, ne_eq, Decidable.not_not, Int.not_lt, Int.not_le, gt_iff_lt, ge_iff_le] at h1
      refine WPC.seqR ?_
      refine L_s (q_move rfl) rfl ?_
      refine L_s (q_move rfl) rfl ?_
      first | refine L_s (q_nilP rfl) rfl ?_ | refine L_s (q_nilF rfl) rfl ?_
      first | refine L_s (q_faK fa_pursuivantref11_Node_Term rfl) rfl ?_ | refine L_s (q_fa fa_pursuivantref11_Node_Term rfl) rfl ?_
      first | refine L_s (q_load1z ld_uint64 rfl (by repeat (first | exact List.Mem.head _ | apply List.Mem.tail)) (by rfl)) rfl ?_ | refine L_s (q_load1 ld_uint64 rfl (by repeat (first | exact List.Mem.head _ | apply List.Mem.tail)) rfl (by rfl)) rfl ?_
      first | refine L_s (q_addU rfl rfl (by omega)) rfl ?_ | refine L_s (q_int rfl rfl rfl) rfl ?_
      first | refine L_s (q_nilP rfl) rfl ?_ | refine L_s (q_nilF rfl) rfl ?_
      first | refine L_s (q_faK fa_pursuivantref11_Node_Term rfl) rfl ?_ | refine L_s (q_fa fa_pursuivantref11_Node_Term rfl) rfl ?_
      refine WPL.cons rfl (S1.wpo (s_store1k sz_uint64 rfl rfl rfl rfl (by repeat (first | exact Upd.here | apply Upd.there)) (by repeat constructor)) rfl ?_)
      refine WPL.putN ?_
      refine WPL.nil ?_
      refine WPC.prune [(0, _), (1, _), (4, _), (6, _), (7, _)] (by repeat (first | exact trivial | refine ⟨rfl, ?_⟩)) ?_
      refine WPC.seqR ?_
      refine L_s (q_move rfl) rfl ?_
      refine L_s (q_move rfl) rfl ?_
      first | refine L_s (q_nilP rfl) rfl ?_ | refine L_s (q_nilF rfl) rfl ?_
      first | refine L_s (q_faK fa_pursuivantref11_Node_Me rfl) rfl ?_ | refine L_s (q_fa fa_pursuivantref11_Node_Me rfl) rfl ?_
      first | refine L_s (q_load1z ld_int rfl (by repeat (first | exact List.Mem.head _ | apply List.Mem.tail)) (by rfl)) rfl ?_ | refine L_s (q_load1 ld_int rfl (by repeat (first | exact List.Mem.head _ | apply List.Mem.tail)) rfl (by rfl)) rfl ?_
      first | refine L_s (q_nilP rfl) rfl ?_ | refine L_s (q_nilF rfl) rfl ?_
      first | refine L_s (q_faK fa_pursuivantref11_Node_Vote rfl) rfl ?_ | refine L_s (q_fa fa_pursuivantref11_Node_Vote rfl) rfl ?_
      refine WPL.cons rfl (S1.wpo (s_store1k sz_int rfl rfl rfl rfl (by repeat (first | exact Upd.here | apply Upd.there)) (by repeat constructor)) rfl ?_)
      refine WPL.putN ?_
      refine WPL.nil ?_
      refine WPC.seqR ?_
      refine L_s (q_move rfl) rfl ?_
      first | refine L_s (q_nilP rfl) rfl ?_ | refine L_s (q_nilF rfl) rfl ?_
      first | refine L_s (q_faK fa_pursuivantref11_Node_Role rfl) rfl ?_ | refine L_s (q_fa fa_pursuivantref11_Node_Role rfl) rfl ?_
      refine WPL.cons rfl (S1.wpo (s_store1k sz_int rfl rfl rfl rfl (by repeat (first | exact Upd.here | apply Upd.there)) (by repeat constructor)) rfl ?_)
      refine WPL.putN ?_
      refine WPL.nil ?_
      refine WPC.region ?_
      refine L_s (q_assign rfl) rfl ?_
      refine WPL.nil ?_
      refine thenQ_n ?_
      refine WPC.seqR ?_
      refine L_s (q_move rfl) rfl ?_
      first | refine L_s (q_nilP rfl) rfl ?_ | refine L_s (q_nilF rfl) rfl ?_
      first | refine L_s (q_faK fa_pursuivantref11_Node_Lead rfl) rfl ?_ | refine L_s (q_fa fa_pursuivantref11_Node_Lead rfl) rfl ?_
      refine WPL.cons rfl (S1.wpo (s_store1k sz_int rfl rfl rfl rfl (by repeat (first | exact Upd.here | apply Upd.there)) (by repeat constructor)) rfl ?_)
      refine WPL.putN ?_
      refine WPL.nil ?_
      refine WPC.seqR ?_
      refine L_s (q_move rfl) rfl ?_
      refine L_s (q_move rfl) rfl ?_
      first | refine L_s (q_nilP rfl) rfl ?_ | refine L_s (q_nilF rfl) rfl ?_
      first | refine L_s (q_faK fa_pursuivantref11_Node_Me rfl) rfl ?_ | refine L_s (q_fa fa_pursuivantref11_Node_Me rfl) rfl ?_
      first | refine L_s (q_load1z ld_int rfl (by repeat (first | exact List.Mem.head _ | apply List.Mem.tail)) (by rfl)) rfl ?_ | refine L_s (q_load1 ld_int rfl (by repeat (first | exact List.Mem.head _ | apply List.Mem.tail)) rfl (by rfl)) rfl ?_
      refine WPL.cons rfl (E1.wpo (e_buildSlice mk_sl_int (by decide) rfl rfl rfl) rfl ?_)
      rintro _ _ ⟨bY, rfl, rfl⟩
      refine WPL.putS ?_
      refine WPL.imp (Imp.freeze bY 0 [.int .i64 (mn : Int)] _) ?_
      first | refine L_s (q_nilP rfl) rfl ?_ | refine L_s (q_nilF rfl) rfl ?_
      first | refine L_s (q_faK fa_pursuivantref11_Node_Yes rfl) rfl ?_ | refine L_s (q_fa fa_pursuivantref11_Node_Yes rfl) rfl ?_
      refine WPL.cons rfl (S1.wpo (s_store1k sz_sl_int rfl rfl rfl rfl (by repeat (first | exact Upd.here | apply Upd.there)) (by repeat constructor)) rfl ?_)
      refine WPL.putN ?_
      refine WPL.nil ?_
      have hy : Sok 1 (some ⟨bY, 0, none⟩) 1 1 ([(mn : Int)].map (.int .i64)) := ⟨rfl, Nat.le_refl _, .inr (Pl.mk _ _)⟩
      refine WPC.prune [(0, _), (1, _), (4, _), (6, _), (7, _)] (by repeat (first | exact trivial | refine ⟨rfl, ?_⟩)) ?_
      refine WPC.seqD mixed ?_
      refine WPA.takeP 0 rfl (q_move rfl) (by kernel_rfl) (by kernel_rfl) (by kernel_rfl) rfl rfl (.nil _) ?_
      refine WPA.putS ?_
      first | refine WPA.takeP 1 rfl (q_nilP rfl) (by kernel_rfl) (by kernel_rfl) (by kernel_rfl) rfl rfl (.nil _) ?_ | refine WPA.takeP 1 rfl (q_nilF rfl) (by kernel_rfl) (by kernel_rfl) (by kernel_rfl) rfl rfl (.nil _) ?_
      refine WPA.putS ?_
      first | refine WPA.takeP 2 rfl (q_faK fa_pursuivantref11_Node_Conf rfl) (by kernel_rfl) (by kernel_rfl) (by kernel_rfl) rfl rfl (.nil _) ?_ | refine WPA.takeP 2 rfl (q_fa fa_pursuivantref11_Node_Conf rfl) (by kernel_rfl) (by kernel_rfl) (by kernel_rfl) rfl rfl (.nil _) ?_
      refine WPA.putS ?_
      first | refine WPA.takeL 3 rfl (Ent.mem (by repeat (first | exact List.Mem.head _ | apply List.Mem.tail))) (q_load1z ld_sl_int rfl (.head _) (by rfl)) (by kernel_rfl) (by kernel_rfl) (by kernel_rfl) rfl rfl (.nil _) ?_ | refine WPA.takeL 3 rfl (Ent.mem (by repeat (first | exact List.Mem.head _ | apply List.Mem.tail))) (q_load1 ld_sl_int rfl (.head _) rfl (by rfl)) (by kernel_rfl) (by kernel_rfl) (by kernel_rfl) rfl rfl (.nil _) ?_
      refine WPA.putS ?_
      refine WPA.takeP 4 rfl (q_move rfl) (by kernel_rfl) (by kernel_rfl) (by kernel_rfl) rfl rfl (.cons (Ent.mem (by repeat (first | exact List.Mem.head _ | apply List.Mem.tail))) (.nil _)) ?_
      refine WPA.putS ?_
      first | refine WPA.takeP 5 rfl (q_nilP rfl) (by kernel_rfl) (by kernel_rfl) (by kernel_rfl) rfl rfl (.cons (Ent.mem (by repeat (first | exact List.Mem.head _ | apply List.Mem.tail))) (.nil _)) ?_ | refine WPA.takeP 5 rfl (q_nilF rfl) (by kernel_rfl) (by kernel_rfl) (by kernel_rfl) rfl rfl (.cons (Ent.mem (by repeat (first | exact List.Mem.head _ | apply List.Mem.tail))) (.nil _)) ?_
      refine WPA.putS ?_
      first | refine WPA.takeP 6 rfl (q_faK fa_pursuivantref11_Node_Yes rfl) (by kernel_rfl) (by kernel_rfl) (by kernel_rfl) rfl rfl (.cons (Ent.mem (by repeat (first | exact List.Mem.head _ | apply List.Mem.tail))) (.nil _)) ?_ | refine WPA.takeP 6 rfl (q_fa fa_pursuivantref11_Node_Yes rfl) (by kernel_rfl) (by kernel_rfl) (by kernel_rfl) rfl rfl (.cons (Ent.mem (by repeat (first | exact List.Mem.head _ | apply List.Mem.tail))) (.nil _)) ?_
      refine WPA.putS ?_
      first | refine WPA.takeL 7 rfl (Ent.mem (by repeat (first | exact List.Mem.head _ | apply List.Mem.tail))) (q_load1z ld_sl_int rfl (.head _) (by rfl)) (by kernel_rfl) (by kernel_rfl) (by kernel_rfl) rfl rfl (.cons (Ent.mem (by repeat (first | exact List.Mem.head _ | apply List.Mem.tail))) (.nil _)) ?_ | refine WPA.takeL 7 rfl (Ent.mem (by repeat (first | exact List.Mem.head _ | apply List.Mem.tail))) (q_load1 ld_sl_int rfl (.head _) rfl (by rfl)) (by kernel_rfl) (by kernel_rfl) (by kernel_rfl) rfl rfl (.cons (Ent.mem (by repeat (first | exact List.Mem.head _ | apply List.Mem.tail))) (.nil _)) ?_
      refine WPA.putS ?_
      refine WPA.oneE 8 [] (by kernel_rfl) rfl rfl (by repeat (first | exact .nil | refine .anc rfl ?_ | refine .keep (by repeat (first | exact List.Mem.head _ | apply List.Mem.tail)) ?_)) (C1.call (c_call Try.func35 rfl rfl rfl) (c_rAgrees (q := false) (ys := [(mn : Int)]) hc hy hcn (by omega)) (by repeat (first | exact Pick.nil | apply Pick.keep (by repeat (first | exact List.Mem.head _ | apply List.Mem.tail)) (by first | exact Pers.cells _ _ _ | exact Pers.slv _ _ _) | apply Pick.cons (by repeat (first | exact Pick1.here | apply Pick1.there)))) rfl ?_)
      rintro _ _ ⟨rfl, rfl⟩
      refine ⟨(.nil _), ?_⟩
      refine WPA.putS ?_
      refine WPA.takeP 9 rfl (q_assign rfl) (by kernel_rfl) (by kernel_rfl) (by kernel_rfl) rfl rfl (.nil _) ?_
      refine WPA.putS ?_
      refine WPA.done (by kernel_rfl) ?_
      refine WPC.seq ?_
      refine WPC.seqR ?_
      refine L_s (q_move rfl) rfl ?_
      refine L_s (q_move rfl) rfl ?_
      apply WPL.joinA (e' := [(0, _), (4, _), (6, _), (7, _), (8, _)]) 71 74 3 rfl
      · intro g15_1
        try simp only [decide_eq_true_eq, decide_eq_false_iff_not, beq_iff_eq, bne_iff_ne, beq_eq_false_iff_ne, bne_eq_false_iff_eq, Bool.not_eq_true', Bool.not_eq_false', Bool.not_eq_eq_eq_not, Bool.not_true, Bool.not_false, ne_eq, Decidable.not_not, Int.not_lt, Int.not_le, gt_iff_lt, ge_iff_le] at g15_1
        refine L_yes rfl rfl (q_move rfl) rfl ?_
        refine L_yes rfl rfl (q_not rfl) rfl ?_
        first | refine L_s (q_pickT rfl rfl) rfl ?_ | refine L_s (q_pickF rfl rfl) rfl ?_
        first | exact WPL.jn rfl rfl (by repeat (first | exact trivial | refine ⟨rfl, ?_⟩)) | exact WPL.jnI rfl rfl (by repeat (first | exact trivial | refine ⟨rfl, ?_⟩)) (Imp.pick (by repeat (first | exact Pick.nil | apply Pick.keep (by repeat (first | exact List.Mem.head _ | apply List.Mem.tail)) (by first | exact Pers.cells _ _ _ | exact Pers.slv _ _ _) | apply Pick.cons (by repeat (first | exact Pick1.here | apply Pick1.there)))))
      · intro g15_1
        try simp only [decide_eq_true_eq, decide_eq_false_iff_not, beq_iff_eq, bne_iff_ne, beq_eq_false_iff_ne, bne_eq_false_iff_eq, Bool.not_eq_true', Bool.not_eq_false', Bool.not_eq_eq_eq_not, Bool.not_true, Bool.not_false, ne_eq, Decidable.not_not, Int.not_lt, Int.not_le, gt_iff_lt, ge_iff_le] at g15_1
        refine L_no rfl rfl rfl rfl ?_
        refine L_no rfl rfl rfl rfl ?_
        first | refine L_s (q_pickT rfl rfl) rfl ?_ | refine L_s (q_pickF rfl rfl) rfl ?_
        first | exact WPL.jn rfl rfl (by repeat (first | exact trivial | refine ⟨rfl, ?_⟩)) | exact WPL.jnI rfl rfl (by repeat (first | exact trivial | refine ⟨rfl, ?_⟩)) (Imp.pick (by repeat (first | exact Pick.nil | apply Pick.keep (by repeat (first | exact List.Mem.head _ | apply List.Mem.tail)) (by first | exact Pers.cells _ _ _ | exact Pers.slv _ _ _) | apply Pick.cons (by repeat (first | exact Pick1.here | apply Pick1.there)))))
      refine WPL.nil ?_
      refine WPC.cond rfl (fun h2 => ?_) (fun h2 => ?_)
      · try simp only [decide_eq_true_eq, decide_eq_false_iff_not, beq_iff_eq, bne_iff_ne, beq_eq_false_iff_ne, bne_eq_false_iff_eq, Bool.not_eq_true', Bool.not_eq_false', Bool.not_eq_eq_eq_not, Bool.not_true, Bool.not_false, ne_eq, Decidable.not_not, Int.not_lt, Int.not_le, gt_iff_lt, ge_iff_le] at h2
        simp at h2
      · skip
        refine WPC.skip ?_
        refine thenQ_n ?_
        refine WPC.seq ?_
        refine WPC.seqR ?_
        refine L_s (q_move rfl) rfl ?_
        refine WPL.nil ?_
        refine WPC.cond rfl (fun h3 => ?_) (fun h3 => ?_)
        · try simp only [decide_eq_true_eq, decide_eq_false_iff_not, beq_iff_eq, bne_iff_ne, beq_eq_false_iff_ne, bne_eq_false_iff_eq, Bool.not_eq_true', Bool.not_eq_false', Bool.not_eq_eq_eq_not, Bool.not_true, Bool.not_false, ne_eq, Decidable.not_not, Int.not_lt, Int.not_le, gt_iff_lt, ge_iff_le] at h3
          refine WPC.seqR ?_
          refine L_s (q_move rfl) rfl ?_
          have ef : EN.askR (⟨(mn : Int), vote, role, lead, conf, yes, term, commit, base, bt, es, heard, next, mtch⟩ : EN) = ((⟨(mn : Int), (mn : Int), 2, -1, conf, [(mn : Int)], term + 1, commit, base, bt, es, heard, next, mtch⟩ : EN).lead5, []) := by simp [EN.askR, h0, h3]
          refine WPL.imp ((Imp.pick (by repeat (first | exact Pick.nil | apply Pick.keep (by repeat (first | exact List.Mem.head _ | apply List.Mem.tail)) (by first | exact Pers.cells _ _ _ | exact Pers.slv _ _ _) | apply Pick.cons (by repeat (first | exact Pick1.here | apply Pick1.there))))).trans (rnode_close3 (x := (⟨(mn : Int), (mn : Int), 2, -1, conf, [(mn : Int)], term + 1, commit, base, bt, es, heard, next, mtch⟩ : EN)) (b := b) (o := o) (⟨ca, cn, cc, some ⟨bY, 0, none⟩, 1, 1, ea, en, ec⟩ : RL) ⟨hc, hcn, hy, by (show 1 < _; omega), he, hen, hnx, hmt⟩ (Γ := []))) ?_
          refine WPL.cons rfl (C1.call (c_call Try.func36 rfl rfl rfl) (c_rLead5 (x := (⟨(mn : Int), (mn : Int), 2, -1, conf, [(mn : Int)], term + 1, commit, base, bt, es, heard, next, mtch⟩ : EN)) ⟨hme, by dsimp only; omega, hbase, hes, by simp⟩) (by repeat (first | exact Pick.nil | apply Pick.keep (by repeat (first | exact List.Mem.head _ | apply List.Mem.tail)) (by first | exact Pers.cells _ _ _ | exact Pers.slv _ _ _) | apply Pick.cons (by repeat (first | exact Pick1.here | apply Pick1.there)))) rfl ?_)
          rintro _ _ ⟨rfl, rfl⟩
          refine WPL.putS ?_
          refine WPL.nil ?_
          refine WPC.imp (Imp.bufNil (sz := 10)) ?_
          refine WPC.seqR ?_
          refine L_s (q_assign rfl) rfl ?_
          refine WPL.nil ?_
          refine WPC.ret ?_
          refine thenQ_r ?_
          rw [ef]
          exact endR_r rfl (.tmp rfl .nil) (Imp.pick (by repeat (first | exact Pick.nil | apply Pick.keep (by repeat (first | exact List.Mem.head _ | apply List.Mem.tail)) (by first | exact Pers.cells _ _ _ | exact Pers.slv _ _ _) | apply Pick.cons (by repeat (first | exact Pick1.here | apply Pick1.there))))) ⟨none, 0, rfl, rfl⟩
        · try simp only [decide_eq_true_eq, decide_eq_false_iff_not, beq_iff_eq, bne_iff_ne, beq_eq_false_iff_ne, bne_eq_false_iff_eq, Bool.not_eq_true', Bool.not_eq_false', Bool.not_eq_eq_eq_not, Bool.not_true, Bool.not_false, ne_eq, Decidable.not_not, Int.not_lt, Int.not_le, gt_iff_lt, ge_iff_le] at h3
          refine WPC.skip ?_
          refine thenQ_n ?_
          refine WPC.seqR ?_
          refine L_s (q_assign rfl) rfl ?_
          refine WPL.nil ?_
          refine WPC.seqR ?_
          refine L_s (q_move rfl) rfl ?_
          have ef : EN.askR (⟨(mn : Int), vote, role, lead, conf, yes, term, commit, base, bt, es, heard, next, mtch⟩ : EN) = ((⟨(mn : Int), (mn : Int), 2, -1, conf, [(mn : Int)], term + 1, commit, base, bt, es, heard, next, mtch⟩ : EN), EN.toAll (⟨(mn : Int), (mn : Int), 2, -1, conf, [(mn : Int)], term + 1, commit, base, bt, es, heard, next, mtch⟩ : EN) (msg 1 0 0 (term + 1) (base + (en : Int)) (lgLastTerm bt es) false)) := by simp [EN.askR, h0, h3, EN.last, hel]
          refine WPL.cons rfl (C1.call (c_call Try.func16 rfl rfl rfl) (c_rOthers (x := (⟨(mn : Int), (mn : Int), 2, -1, conf, [(mn : Int)], term + 1, commit, base, bt, es, heard, next, mtch⟩ : EN)) (L := (⟨ca, cn, cc, some ⟨bY, 0, none⟩, 1, 1, ea, en, ec⟩ : RL)) hc hcn) (by repeat (first | exact Pick.nil | apply Pick.keep (by repeat (first | exact List.Mem.head _ | apply List.Mem.tail)) (by first | exact Pers.cells _ _ _ | exact Pers.slv _ _ _) | apply Pick.cons (by repeat (first | exact Pick1.here | apply Pick1.there)))) rfl ?_)
          rintro _ _ ⟨ao, co, rfl, hso, hno, rfl⟩
          refine WPL.putS ?_
          refine L_s (q_assign rfl) rfl ?_
          refine WPL.nil ?_
          refine WPC.imp (Imp.bufNil (sz := 10)) ?_
          refine WPC.seq ?_
          refine WPC.seqR ?_
          refine L_s (q_assign rfl) rfl ?_
          refine WPL.nil ?_
          refine WPC.block ?_
          refine WPC.loopS (fun m e Γ => ∃ (k : Nat) (a2 : Option Addr) (c2 : Nat), m = (EN.others (⟨(mn : Int), (mn : Int), 2, -1, conf, [(mn : Int)], term + 1, commit, base, bt, es, heard, next, mtch⟩ : EN)).length - k ∧ k ≤ (EN.others (⟨(mn : Int), (mn : Int), 2, -1, conf, [(mn : Int)], term + 1, commit, base, bt, es, heard, next, mtch⟩ : EN)).length ∧ e = [(0, .pointer (some ⟨b, o, none⟩)), (6, .int .i64 1), (7, .int .u64 (term + 1)), (9, .slice a2 k c2), (10, .slice ao (EN.others (⟨(mn : Int), (mn : Int), 2, -1, conf, [(mn : Int)], term + 1, commit, base, bt, es, heard, next, mtch⟩ : EN)).length co), (11, .int .i64 (k : Int))] ∧ Γ = [buf 10 a2 k c2 ((((EN.others (⟨(mn : Int), (mn : Int), 2, -1, conf, [(mn : Int)], term + 1, commit, base, bt, es, heard, next, mtch⟩ : EN)).take k).map (fun i => ({ (msg 1 0 0 (term + 1) (base + (en : Int)) (lgLastTerm bt es) false) with fr := (mn : Int), to := i } : RM))).flatMap encM), sl false ao ((EN.others (⟨(mn : Int), (mn : Int), 2, -1, conf, [(mn : Int)], term + 1, commit, base, bt, es, heard, next, mtch⟩ : EN)).map (.int .i64)), cells true b o (rnodeH (⟨(mn : Int), (mn : Int), 2, -1, conf, [(mn : Int)], term + 1, commit, base, bt, es, heard, next, mtch⟩ : EN) (⟨ca, cn, cc, some ⟨bY, 0, none⟩, 1, 1, ea, en, ec⟩ : RL)), cells true b (o + 12) (next.map (.int .u64)), cells true b (o + 28) (mtch.map (.int .u64)), sl false ca (conf.map (.int .i64)), sl false (some ⟨bY, 0, none⟩) ([(mn : Int)].map (.int .i64)), sl false ea (es.flatMap encE)]) ((EN.others (⟨(mn : Int), (mn : Int), 2, -1, conf, [(mn : Int)], term + 1, commit, base, bt, es, heard, next, mtch⟩ : EN)).length) ⟨0, none, 0, rfl, by omega, rfl, rfl⟩ (by repeat (first | exact trivial | refine ⟨rfl, ?_⟩)) (Imp.pick (by repeat (first | exact Pick.nil | apply Pick.keep (by repeat (first | exact List.Mem.head _ | apply List.Mem.tail)) (by first | exact Pers.cells _ _ _ | exact Pers.slv _ _ _) | apply Pick.cons (by repeat (first | exact Pick1.here | apply Pick1.there))))) ?_
          rintro m e Γ ⟨k, a2, c2, rfl, hk, rfl, rfl⟩
          refine WPC.seq ?_
          refine WPC.seqR ?_
          refine L_s (q_move rfl) rfl ?_
          refine L_s (q_move rfl) rfl ?_
          refine L_s (q_len rfl un_sl_int rfl) rfl ?_
          refine L_s (q_int rfl rfl rfl) rfl ?_
          refine WPL.nil ?_
          refine WPC.cond rfl (fun h4 => ?_) (fun h4 => ?_)
          · simp only [decide_eq_true_eq] at h4
            have hk' : k < (EN.others (⟨(mn : Int), (mn : Int), 2, -1, conf, [(mn : Int)], term + 1, commit, base, bt, es, heard, next, mtch⟩ : EN)).length := by omega
            have hp : Pl ao := hso.at (by omega) (by omega)
            obtain ⟨i, hx⟩ : ∃ i, (EN.others (⟨(mn : Int), (mn : Int), 2, -1, conf, [(mn : Int)], term + 1, commit, base, bt, es, heard, next, mtch⟩ : EN))[k]? = some i := ⟨(EN.others (⟨(mn : Int), (mn : Int), 2, -1, conf, [(mn : Int)], term + 1, commit, base, bt, es, heard, next, mtch⟩ : EN))[k]'(by omega), by simp [hk']⟩
            refine WPC.skip ?_
            refine thenQ_n ?_
            refine WPC.seq ?_
            refine WPC.block ?_
            refine WPC.draw mixed ?_
            refine WPA.takeP 0 rfl (q_move rfl) (by kernel_rfl) (by kernel_rfl) (by kernel_rfl) rfl rfl (.nil _) ?_
            refine WPA.putS ?_
            refine WPA.takeP 1 rfl (q_move rfl) (by kernel_rfl) (by kernel_rfl) (by kernel_rfl) rfl rfl (.nil _) ?_
            refine WPA.putS ?_
            refine WPA.takeP 2 rfl (q_move rfl) (by kernel_rfl) (by kernel_rfl) (by kernel_rfl) rfl rfl (.nil _) ?_
            refine WPA.putS ?_
            first | refine WPA.takeP 3 rfl (q_nilP rfl) (by kernel_rfl) (by kernel_rfl) (by kernel_rfl) rfl rfl (.nil _) ?_ | refine WPA.takeP 3 rfl (q_nilF rfl) (by kernel_rfl) (by kernel_rfl) (by kernel_rfl) rfl rfl (.nil _) ?_
            refine WPA.putS ?_
            first | refine WPA.takeP 4 rfl (q_faK fa_pursuivantref11_Node_Me rfl) (by kernel_rfl) (by kernel_rfl) (by kernel_rfl) rfl rfl (.nil _) ?_ | refine WPA.takeP 4 rfl (q_fa fa_pursuivantref11_Node_Me rfl) (by kernel_rfl) (by kernel_rfl) (by kernel_rfl) rfl rfl (.nil _) ?_
            refine WPA.putS ?_
            first | refine WPA.takeL 5 rfl (Ent.mem (by repeat (first | exact List.Mem.head _ | apply List.Mem.tail))) (q_load1z ld_int rfl (.head _) (by rfl)) (by kernel_rfl) (by kernel_rfl) (by kernel_rfl) rfl rfl (.nil _) ?_ | refine WPA.takeL 5 rfl (Ent.mem (by repeat (first | exact List.Mem.head _ | apply List.Mem.tail))) (q_load1 ld_int rfl (.head _) rfl (by rfl)) (by kernel_rfl) (by kernel_rfl) (by kernel_rfl) rfl rfl (.nil _) ?_
            refine WPA.putS ?_
            refine WPA.takeP 6 rfl (q_move rfl) (by kernel_rfl) (by kernel_rfl) (by kernel_rfl) rfl rfl (.cons (Ent.mem (by repeat (first | exact List.Mem.head _ | apply List.Mem.tail))) (.nil _)) ?_
            refine WPA.putS ?_
            refine WPA.takeP 7 rfl (q_move rfl) (by kernel_rfl) (by kernel_rfl) (by kernel_rfl) rfl rfl (.cons (Ent.mem (by repeat (first | exact List.Mem.head _ | apply List.Mem.tail))) (.nil _)) ?_
            refine WPA.putS ?_
            first | refine WPA.takeP 8 rfl (q_idxN sl_sl_int rfl rfl (by omega) (by assumption)) (by kernel_rfl) (by kernel_rfl) (by kernel_rfl) rfl rfl (.cons (Ent.mem (by repeat (first | exact List.Mem.head _ | apply List.Mem.tail))) (.nil _)) ?_ | refine WPA.takeP 8 rfl (q_idx sl_sl_int rfl rfl (by omega) (by omega) (by assumption)) (by kernel_rfl) (by kernel_rfl) (by kernel_rfl) rfl rfl (.cons (Ent.mem (by repeat (first | exact List.Mem.head _ | apply List.Mem.tail))) (.nil _)) ?_
            refine WPA.putS ?_
            refine WPA.takeL 9 rfl (Ent.mem (by repeat (first | exact List.Mem.head _ | apply List.Mem.tail))) (q_ldMap ld_int rfl (.head _) hx) (by kernel_rfl) (by kernel_rfl) (by kernel_rfl) rfl rfl (.cons (Ent.mem (by repeat (first | exact List.Mem.head _ | apply List.Mem.tail))) (.nil _)) ?_
            refine WPA.putS ?_
            refine WPA.takeP 10 rfl (q_move rfl) (by kernel_rfl) (by kernel_rfl) (by kernel_rfl) rfl rfl (.cons (Ent.mem (by repeat (first | exact List.Mem.head _ | apply List.Mem.tail))) (.cons (Ent.mem (by repeat (first | exact List.Mem.head _ | apply List.Mem.tail))) (.nil _))) ?_
            refine WPA.putS ?_
            refine WPA.takeP 11 rfl (q_move rfl) (by kernel_rfl) (by kernel_rfl) (by kernel_rfl) rfl rfl (.cons (Ent.mem (by repeat (first | exact List.Mem.head _ | apply List.Mem.tail))) (.cons (Ent.mem (by repeat (first | exact List.Mem.head _ | apply List.Mem.tail))) (.nil _))) ?_
            refine WPA.putS ?_
            first | refine WPA.takeP 12 rfl (q_nilP rfl) (by kernel_rfl) (by kernel_rfl) (by kernel_rfl) rfl rfl (.cons (Ent.mem (by repeat (first | exact List.Mem.head _ | apply List.Mem.tail))) (.cons (Ent.mem (by repeat (first | exact List.Mem.head _ | apply List.Mem.tail))) (.nil _))) ?_ | refine WPA.takeP 12 rfl (q_nilF rfl) (by kernel_rfl) (by kernel_rfl) (by kernel_rfl) rfl rfl (.cons (Ent.mem (by repeat (first | exact List.Mem.head _ | apply List.Mem.tail))) (.cons (Ent.mem (by repeat (first | exact List.Mem.head _ | apply List.Mem.tail))) (.nil _))) ?_
            refine WPA.putS ?_
            first | refine WPA.takeP 13 rfl (q_faK fa_pursuivantref11_Node_Log rfl) (by kernel_rfl) (by kernel_rfl) (by kernel_rfl) rfl rfl (.cons (Ent.mem (by repeat (first | exact List.Mem.head _ | apply List.Mem.tail))) (.cons (Ent.mem (by repeat (first | exact List.Mem.head _ | apply List.Mem.tail))) (.nil _))) ?_ | refine WPA.takeP 13 rfl (q_fa fa_pursuivantref11_Node_Log rfl) (by kernel_rfl) (by kernel_rfl) (by kernel_rfl) rfl rfl (.cons (Ent.mem (by repeat (first | exact List.Mem.head _ | apply List.Mem.tail))) (.cons (Ent.mem (by repeat (first | exact List.Mem.head _ | apply List.Mem.tail))) (.nil _))) ?_
            refine WPA.putS ?_
            first | refine WPA.takeL 14 rfl (Ent.mem (by repeat (first | exact List.Mem.head _ | apply List.Mem.tail))) (q_loadNz (us := [_, _, _]) ld_pursuivantref09_Log rfl (.head _) (by exact ⟨rfl, rfl⟩)) (by kernel_rfl) (by kernel_rfl) (by kernel_rfl) rfl rfl (.cons (Ent.mem (by repeat (first | exact List.Mem.head _ | apply List.Mem.tail))) (.cons (Ent.mem (by repeat (first | exact List.Mem.head _ | apply List.Mem.tail))) (.nil _))) ?_ | refine WPA.takeL 14 rfl (Ent.mem (by repeat (first | exact List.Mem.head _ | apply List.Mem.tail))) (q_loadNk (us := [_, _, _]) ld_pursuivantref09_Log rfl (.head _) (by exact ⟨rfl, rfl⟩)) (by kernel_rfl) (by kernel_rfl) (by kernel_rfl) rfl rfl (.cons (Ent.mem (by repeat (first | exact List.Mem.head _ | apply List.Mem.tail))) (.cons (Ent.mem (by repeat (first | exact List.Mem.head _ | apply List.Mem.tail))) (.nil _))) ?_
            refine WPA.putS ?_
            refine WPA.takeP 16 rfl (q_move rfl) (by kernel_rfl) (by kernel_rfl) (by kernel_rfl) rfl rfl (.cons (Ent.mem (by repeat (first | exact List.Mem.head _ | apply List.Mem.tail))) (.cons (Ent.mem (by repeat (first | exact List.Mem.head _ | apply List.Mem.tail))) (.cons (Ent.mem (by repeat (first | exact List.Mem.head _ | apply List.Mem.tail))) (.nil _)))) ?_
            refine WPA.putS ?_
            first | refine WPA.takeP 17 rfl (q_nilP rfl) (by kernel_rfl) (by kernel_rfl) (by kernel_rfl) rfl rfl (.cons (Ent.mem (by repeat (first | exact List.Mem.head _ | apply List.Mem.tail))) (.cons (Ent.mem (by repeat (first | exact List.Mem.head _ | apply List.Mem.tail))) (.cons (Ent.mem (by repeat (first | exact List.Mem.head _ | apply List.Mem.tail))) (.nil _)))) ?_ | refine WPA.takeP 17 rfl (q_nilF rfl) (by kernel_rfl) (by kernel_rfl) (by kernel_rfl) rfl rfl (.cons (Ent.mem (by repeat (first | exact List.Mem.head _ | apply List.Mem.tail))) (.cons (Ent.mem (by repeat (first | exact List.Mem.head _ | apply List.Mem.tail))) (.cons (Ent.mem (by repeat (first | exact List.Mem.head _ | apply List.Mem.tail))) (.nil _)))) ?_
            refine WPA.putS ?_
            first | refine WPA.takeP 18 rfl (q_faK fa_pursuivantref11_Node_Log rfl) (by kernel_rfl) (by kernel_rfl) (by kernel_rfl) rfl rfl (.cons (Ent.mem (by repeat (first | exact List.Mem.head _ | apply List.Mem.tail))) (.cons (Ent.mem (by repeat (first | exact List.Mem.head _ | apply List.Mem.tail))) (.cons (Ent.mem (by repeat (first | exact List.Mem.head _ | apply List.Mem.tail))) (.nil _)))) ?_ | refine WPA.takeP 18 rfl (q_fa fa_pursuivantref11_Node_Log rfl) (by kernel_rfl) (by kernel_rfl) (by kernel_rfl) rfl rfl (.cons (Ent.mem (by repeat (first | exact List.Mem.head _ | apply List.Mem.tail))) (.cons (Ent.mem (by repeat (first | exact List.Mem.head _ | apply List.Mem.tail))) (.cons (Ent.mem (by repeat (first | exact List.Mem.head _ | apply List.Mem.tail))) (.nil _)))) ?_
            refine WPA.putS ?_
            first | refine WPA.takeL 19 rfl (Ent.mem (by repeat (first | exact List.Mem.head _ | apply List.Mem.tail))) (q_loadNz (us := [_, _, _]) ld_pursuivantref09_Log rfl (.head _) (by exact ⟨rfl, rfl⟩)) (by kernel_rfl) (by kernel_rfl) (by kernel_rfl) rfl rfl (.cons (Ent.mem (by repeat (first | exact List.Mem.head _ | apply List.Mem.tail))) (.cons (Ent.mem (by repeat (first | exact List.Mem.head _ | apply List.Mem.tail))) (.cons (Ent.mem (by repeat (first | exact List.Mem.head _ | apply List.Mem.tail))) (.nil _)))) ?_ | refine WPA.takeL 19 rfl (Ent.mem (by repeat (first | exact List.Mem.head _ | apply List.Mem.tail))) (q_loadNk (us := [_, _, _]) ld_pursuivantref09_Log rfl (.head _) (by exact ⟨rfl, rfl⟩)) (by kernel_rfl) (by kernel_rfl) (by kernel_rfl) rfl rfl (.cons (Ent.mem (by repeat (first | exact List.Mem.head _ | apply List.Mem.tail))) (.cons (Ent.mem (by repeat (first | exact List.Mem.head _ | apply List.Mem.tail))) (.cons (Ent.mem (by repeat (first | exact List.Mem.head _ | apply List.Mem.tail))) (.nil _)))) ?_
            refine WPA.putS ?_
            refine WPA.oneE 15 [(19, [_]), (9, [_]), (5, [_])] (by kernel_rfl) rfl rfl (by repeat (first | exact .nil | refine .anc rfl ?_ | refine .keep (by repeat (first | exact List.Mem.head _ | apply List.Mem.tail)) ?_)) (C1.call (c_call Try.func37 rfl rfl rfl) (c_rLast hb hen) (by repeat (first | exact Pick.nil | apply Pick.keep (by repeat (first | exact List.Mem.head _ | apply List.Mem.tail)) (by first | exact Pers.cells _ _ _ | exact Pers.slv _ _ _) | apply Pick.cons (by repeat (first | exact Pick1.here | apply Pick1.there)))) rfl ?_)
            rintro _ _ ⟨rfl, rfl⟩
            refine ⟨(.cons (Ent.mem (by repeat (first | exact List.Mem.head _ | apply List.Mem.tail))) (.cons (Ent.mem (by repeat (first | exact List.Mem.head _ | apply List.Mem.tail))) (.cons (Ent.mem (by repeat (first | exact List.Mem.head _ | apply List.Mem.tail))) (.nil _)))), ?_⟩
            refine WPA.putS ?_
            refine WPA.oneE 20 [(9, [_]), (5, [_])] (by kernel_rfl) rfl rfl (by repeat (first | exact .nil | refine .anc rfl ?_ | refine .keep (by repeat (first | exact List.Mem.head _ | apply List.Mem.tail)) ?_)) (C1.call (c_call Try.func38 rfl rfl rfl) (c_rLastTerm he hen) (by repeat (first | exact Pick.nil | apply Pick.keep (by repeat (first | exact List.Mem.head _ | apply List.Mem.tail)) (by first | exact Pers.cells _ _ _ | exact Pers.slv _ _ _) | apply Pick.cons (by repeat (first | exact Pick1.here | apply Pick1.there)))) rfl ?_)
            rintro _ _ ⟨rfl, rfl⟩
            refine ⟨(.cons (Ent.mem (by repeat (first | exact List.Mem.head _ | apply List.Mem.tail))) (.cons (Ent.mem (by repeat (first | exact List.Mem.head _ | apply List.Mem.tail))) (.nil _))), ?_⟩
            refine WPA.putS ?_
            refine WPA.takeP 21 rfl (q_build (cs := [_, _, _, _, _, _, _, _, _, _]) pl_api_Msg rfl rfl) (by kernel_rfl) (by kernel_rfl) (by kernel_rfl) rfl rfl (.cons (Ent.mem (by repeat (first | exact List.Mem.head _ | apply List.Mem.tail))) (.cons (Ent.mem (by repeat (first | exact List.Mem.head _ | apply List.Mem.tail))) (.nil _))) ?_
            refine WPA.putS ?_
            refine WPA.oneE 22 [] (by kernel_rfl) rfl rfl (by repeat (first | exact .nil | refine .anc rfl ?_ | refine .keep (by repeat (first | exact List.Mem.head _ | apply List.Mem.tail)) ?_)) (E1.wpo (e_buildSlice mk_sl_api_Msg (by decide) rfl rfl rfl) rfl ?_)
            rintro _ _ ⟨bE, rfl, rfl⟩
            refine ⟨(.nil _), ?_⟩
            refine WPA.putS ?_
            refine WPA.oneE 23 [] (by kernel_rfl) rfl rfl (by repeat (first | exact .nil | refine .anc rfl ?_ | refine .keep (by repeat (first | exact List.Mem.head _ | apply List.Mem.tail)) ?_)) (E1.wpo (e_append (m := 1) (news := encM ((fun i => ({ (msg 1 0 0 (term + 1) (base + (en : Int)) (lgLastTerm bt es) false) with fr := (mn : Int), to := i } : RM)) i)) mk_sl_api_Msg (by decide) rfl rfl (by repeat (first | exact Pick1.here | apply Pick1.there)) (Rd.part (i := 0) (b := bE) (o := 0) (vs := encM ((fun i => ({ (msg 1 0 0 (term + 1) (base + (en : Int)) (lgLastTerm bt es) false) with fr := (mn : Int), to := i } : RM)) i)) (by repeat (first | exact List.Mem.head _ | apply List.Mem.tail)) rfl rfl rfl) (by simp [Value.oneCell']) (by omega) (by omega)) rfl ?_)
            rintro _ _ ⟨a3, c3, rfl, -, rfl⟩
            refine ⟨(.nil _), ?_⟩
            refine WPA.putS ?_
            refine WPA.takeP 24 rfl (q_assign rfl) (by kernel_rfl) (by kernel_rfl) (by kernel_rfl) rfl rfl (.nil _) ?_
            refine WPA.putS ?_
            refine WPA.done (by kernel_rfl) ?_
            refine blockQ_n ?_
            refine thenQ_n ?_
            refine WPC.region ?_
            refine L_s (q_move rfl) rfl ?_
            first | refine L_s (q_inc rfl rfl (by omega)) rfl ?_ | refine L_s (q_addI rfl rfl (by omega)) rfl ?_ | refine L_s (q_int rfl rfl rfl) rfl ?_
            refine L_s (q_assign rfl) rfl ?_
            refine WPL.nil ?_
            refine thenQ_n ?_
            exact ⟨rfl, _, _, _, by omega, ⟨k + 1, a3, c3, rfl, by omega, rfl, by rw [take_succ hx, List.map_append, List.map_singleton, flat_snoc]⟩, (by repeat (first | exact trivial | refine ⟨rfl, ?_⟩)), Imp.pick (by repeat (first | exact Pick.nil | apply Pick.keep (by repeat (first | exact List.Mem.head _ | apply List.Mem.tail)) (by first | exact Pers.cells _ _ _ | exact Pers.slv _ _ _) | apply Pick.cons (by repeat (first | exact Pick1.here | apply Pick1.there))))⟩
          · simp only [decide_eq_false_iff_not] at h4
            have hk' : (EN.others (⟨(mn : Int), (mn : Int), 2, -1, conf, [(mn : Int)], term + 1, commit, base, bt, es, heard, next, mtch⟩ : EN)).length ≤ k := by omega
            refine WPC.exit ?_
            refine thenQ_e ?_
            refine thenQ_e ?_
            refine blockQ_here ?_
            refine thenQ_n ?_
            refine WPC.seqR ?_
            refine L_s (q_move rfl) rfl ?_
            refine L_s (q_assign rfl) rfl ?_
            refine WPL.nil ?_
            refine WPC.ret ?_
            have hk2 : k = (EN.others (⟨(mn : Int), (mn : Int), 2, -1, conf, [(mn : Int)], term + 1, commit, base, bt, es, heard, next, mtch⟩ : EN)).length := Nat.le_antisymm hk hk'
            have e1 : EN.toAll (⟨(mn : Int), (mn : Int), 2, -1, conf, [(mn : Int)], term + 1, commit, base, bt, es, heard, next, mtch⟩ : EN) (msg 1 0 0 (term + 1) (base + (en : Int)) (lgLastTerm bt es) false) = ((EN.others (⟨(mn : Int), (mn : Int), 2, -1, conf, [(mn : Int)], term + 1, commit, base, bt, es, heard, next, mtch⟩ : EN)).take k).map (fun i => ({ (msg 1 0 0 (term + 1) (base + (en : Int)) (lgLastTerm bt es) false) with fr := (mn : Int), to := i } : RM)) := by rw [hk2, List.take_length]; rfl
            have e2 : (EN.toAll (⟨(mn : Int), (mn : Int), 2, -1, conf, [(mn : Int)], term + 1, commit, base, bt, es, heard, next, mtch⟩ : EN) (msg 1 0 0 (term + 1) (base + (en : Int)) (lgLastTerm bt es) false)).length = k := by rw [EN.toAll, List.length_map, hk2]
            rw [ef]
            simp only [e2]
            rw [e1]
            exact endR_r rfl (.tmp rfl .nil) ((Imp.pick (by repeat (first | exact Pick.nil | apply Pick.keep (by repeat (first | exact List.Mem.head _ | apply List.Mem.tail)) (by first | exact Pers.cells _ _ _ | exact Pers.slv _ _ _) | apply Pick.cons (by repeat (first | exact Pick1.here | apply Pick1.there))))).trans (rnode_close3 (x := (⟨(mn : Int), (mn : Int), 2, -1, conf, [(mn : Int)], term + 1, commit, base, bt, es, heard, next, mtch⟩ : EN)) (b := b) (o := o) (⟨ca, cn, cc, some ⟨bY, 0, none⟩, 1, 1, ea, en, ec⟩ : RL) ⟨hc, hcn, hy, by (show 1 < _; omega), he, hen, hnx, hmt⟩ (Γ := [buf 10 a2 k c2 ((((EN.others (⟨(mn : Int), (mn : Int), 2, -1, conf, [(mn : Int)], term + 1, commit, base, bt, es, heard, next, mtch⟩ : EN)).take k).map (fun i => ({ (msg 1 0 0 (term + 1) (base + (en : Int)) (lgLastTerm bt es) false) with fr := (mn : Int), to := i } : RM))).flatMap encM)]))) ⟨a2, c2, rfl, rfl⟩
    · try simp only [decide_eq_true_eq, decide_eq_false_iff_not, beq_iff_eq, bne_iff_ne, beq_eq_false_iff_ne, bne_eq_false_iff_eq, Bool.not_eq_true', Bool.not_eq_false', Bool.not_eq_eq_eq_not, Bool.not_true, Bool.not_false, ne_eq, Decidable.not_not, Int.not_lt, Int.not_le, gt_iff_lt, ge_iff_le] at h1
      exact absurd h1 (by decide)

theorem c_rAskP {b o : Nat} {x : EN} (hx : x.fits) (ht : x.term + 1 < 2305843009213693952) : Trip Try.prog 9 #[.pointer (some ⟨b, o, none⟩), .bool false] [rnode b o x] fun r Δ => ∃ (a : Option Addr) (c : Nat), r = .slice a x.askP.2.length c ∧ Δ = [rnode b o x.askP.1, buf 10 a x.askP.2.length c (x.askP.2.flatMap encM)] := by
  obtain ⟨me, vote, role, lead, conf, yes, term, commit, base, bt, es, heard, next, mtch⟩ := x
  obtain ⟨hme, hterm, hbase, hes, hys⟩ := hx
  dsimp only at ht hme hterm hbase hes
  obtain ⟨mn, rfl⟩ : ∃ mn : Nat, me = (mn : Int) := ⟨me.toNat, by omega⟩
  refine rnode_open3 fun L hL => ?_
  obtain ⟨ca, cn, cc, ya, yn, yc, ea, en, ec⟩ := L
  obtain ⟨hc, hcn, hy0, hyn, he, hen, hnx, hmt⟩ := hL
  dsimp only at hc hcn hy0 hyn he hen hnx hmt
  dsimp only [rnodeH]
  have hel : es.length = en := by have := he.len; rw [flat_length encE_len] at this; omega
  have hb : 0 ≤ base ∧ base ≤ 4611686018427387904 := by omega
  refine Trip.start 113 [.tmp 4] [(0, .pointer (some ⟨b, o, none⟩)), (1, .bool false)] Try.func9 rfl Try.ntmps9 rfl ⟨rfl, rfl, trivial⟩ rfl ?_
  refine WPC.seqR ?_
  refine L_s (q_assign rfl) rfl ?_
  refine WPL.nil ?_
  refine WPC.seqD mixed ?_
  refine WPA.takeP 0 rfl (q_move rfl) (by kernel_rfl) (by kernel_rfl) (by kernel_rfl) rfl rfl (.nil _) ?_
  refine WPA.putS ?_
  first | refine WPA.takeP 1 rfl (q_nilP rfl) (by kernel_rfl) (by kernel_rfl) (by kernel_rfl) rfl rfl (.nil _) ?_ | refine WPA.takeP 1 rfl (q_nilF rfl) (by kernel_rfl) (by kernel_rfl) (by kernel_rfl) rfl rfl (.nil _) ?_
  refine WPA.putS ?_
  first | refine WPA.takeP 2 rfl (q_faK fa_pursuivantref11_Node_Conf rfl) (by kernel_rfl) (by kernel_rfl) (by kernel_rfl) rfl rfl (.nil _) ?_ | refine WPA.takeP 2 rfl (q_fa fa_pursuivantref11_Node_Conf rfl) (by kernel_rfl) (by kernel_rfl) (by kernel_rfl) rfl rfl (.nil _) ?_
  refine WPA.putS ?_
  first | refine WPA.takeL 3 rfl (Ent.mem (by repeat (first | exact List.Mem.head _ | apply List.Mem.tail))) (q_load1z ld_sl_int rfl (.head _) (by rfl)) (by kernel_rfl) (by kernel_rfl) (by kernel_rfl) rfl rfl (.nil _) ?_ | refine WPA.takeL 3 rfl (Ent.mem (by repeat (first | exact List.Mem.head _ | apply List.Mem.tail))) (q_load1 ld_sl_int rfl (.head _) rfl (by rfl)) (by kernel_rfl) (by kernel_rfl) (by kernel_rfl) rfl rfl (.nil _) ?_
  refine WPA.putS ?_
  refine WPA.takeP 4 rfl (q_move rfl) (by kernel_rfl) (by kernel_rfl) (by kernel_rfl) rfl rfl (.cons (Ent.mem (by repeat (first | exact List.Mem.head _ | apply List.Mem.tail))) (.nil _)) ?_
  refine WPA.putS ?_
  first | refine WPA.takeP 5 rfl (q_nilP rfl) (by kernel_rfl) (by kernel_rfl) (by kernel_rfl) rfl rfl (.cons (Ent.mem (by repeat (first | exact List.Mem.head _ | apply List.Mem.tail))) (.nil _)) ?_ | refine WPA.takeP 5 rfl (q_nilF rfl) (by kernel_rfl) (by kernel_rfl) (by kernel_rfl) rfl rfl (.cons (Ent.mem (by repeat (first | exact List.Mem.head _ | apply List.Mem.tail))) (.nil _)) ?_
  refine WPA.putS ?_
  first | refine WPA.takeP 6 rfl (q_faK fa_pursuivantref11_Node_Me rfl) (by kernel_rfl) (by kernel_rfl) (by kernel_rfl) rfl rfl (.cons (Ent.mem (by repeat (first | exact List.Mem.head _ | apply List.Mem.tail))) (.nil _)) ?_ | refine WPA.takeP 6 rfl (q_fa fa_pursuivantref11_Node_Me rfl) (by kernel_rfl) (by kernel_rfl) (by kernel_rfl) rfl rfl (.cons (Ent.mem (by repeat (first | exact List.Mem.head _ | apply List.Mem.tail))) (.nil _)) ?_
  refine WPA.putS ?_
  first | refine WPA.takeL 7 rfl (Ent.mem (by repeat (first | exact List.Mem.head _ | apply List.Mem.tail))) (q_load1z ld_int rfl (.head _) (by rfl)) (by kernel_rfl) (by kernel_rfl) (by kernel_rfl) rfl rfl (.cons (Ent.mem (by repeat (first | exact List.Mem.head _ | apply List.Mem.tail))) (.nil _)) ?_ | refine WPA.takeL 7 rfl (Ent.mem (by repeat (first | exact List.Mem.head _ | apply List.Mem.tail))) (q_load1 ld_int rfl (.head _) rfl (by rfl)) (by kernel_rfl) (by kernel_rfl) (by kernel_rfl) rfl rfl (.cons (Ent.mem (by repeat (first | exact List.Mem.head _ | apply List.Mem.tail))) (.nil _)) ?_
  refine WPA.putS ?_
  refine WPA.oneE 8 [] (by kernel_rfl) rfl rfl (by repeat (first | exact .nil | refine .anc rfl ?_ | refine .keep (by repeat (first | exact List.Mem.head _ | apply List.Mem.tail)) ?_)) (C1.call (c_call Try.func34 rfl rfl rfl) (c_rHas hc hcn mn) (by repeat (first | exact Pick.nil | apply Pick.keep (by repeat (first | exact List.Mem.head _ | apply List.Mem.tail)) (by first | exact Pers.cells _ _ _ | exact Pers.slv _ _ _) | apply Pick.cons (by repeat (first | exact Pick1.here | apply Pick1.there)))) rfl ?_)
  rintro _ _ ⟨rfl, rfl⟩
  refine ⟨(.nil _), ?_⟩
  refine WPA.putS ?_
  refine WPA.takeP 9 rfl (q_assign rfl) (by kernel_rfl) (by kernel_rfl) (by kernel_rfl) rfl rfl (.nil _) ?_
  refine WPA.putS ?_
  refine WPA.done (by kernel_rfl) ?_
  refine WPC.seq ?_
  refine WPC.seqR ?_
  refine L_s (q_move rfl) rfl ?_
  refine L_s (q_not rfl) rfl ?_
  refine WPL.nil ?_
  refine WPC.cond rfl (fun h0 => ?_) (fun h0 => ?_)
  · simp only [Bool.not_eq_true', decide_eq_false_iff_not] at h0
    refine WPC.seqR ?_
    refine L_s (q_assign rfl) rfl ?_
    refine WPL.nil ?_
    refine WPC.ret ?_
    refine thenQ_r ?_
    rw [show EN.askP (⟨(mn : Int), vote, role, lead, conf, yes, term, commit, base, bt, es, heard, next, mtch⟩ : EN) = ((⟨(mn : Int), vote, role, lead, conf, yes, term, commit, base, bt, es, heard, next, mtch⟩ : EN), []) by simp [EN.askP, h0]]
    exact endR_r rfl (.tmp rfl .nil) ((Imp.bufNil (sz := 10)).trans ((Imp.pick (by repeat (first | exact Pick.nil | apply Pick.keep (by repeat (first | exact List.Mem.head _ | apply List.Mem.tail)) (by first | exact Pers.cells _ _ _ | exact Pers.slv _ _ _) | apply Pick.cons (by repeat (first | exact Pick1.here | apply Pick1.there))))).trans (rnode_close3 (⟨ca, cn, cc, ya, yn, yc, ea, en, ec⟩ : RL) ⟨hc, hcn, hy0, hyn, he, hen, hnx, hmt⟩ (Γ := [buf 10 none 0 0 []])))) ⟨none, 0, rfl, rfl⟩
  · simp only [Bool.not_eq_false', decide_eq_true_eq] at h0
    refine WPC.skip ?_
    refine thenQ_n ?_
    refine WPC.seqR ?_
    refine L_s (q_assign rfl) rfl ?_
    refine WPL.nil ?_
    refine WPC.seqR ?_
    refine L_s (q_move rfl) rfl ?_
    first | refine L_s (q_nilP rfl) rfl ?_ | refine L_s (q_nilF rfl) rfl ?_
    first | refine L_s (q_faK fa_pursuivantref11_Node_Term rfl) rfl ?_ | refine L_s (q_fa fa_pursuivantref11_Node_Term rfl) rfl ?_
    first | refine L_s (q_load1z ld_uint64 rfl (by repeat (first | exact List.Mem.head _ | apply List.Mem.tail)) (by rfl)) rfl ?_ | refine L_s (q_load1 ld_uint64 rfl (by repeat (first | exact List.Mem.head _ | apply List.Mem.tail)) rfl (by rfl)) rfl ?_
    first | refine L_s (q_addU rfl rfl (by omega)) rfl ?_ | refine L_s (q_int rfl rfl rfl) rfl ?_
    refine L_s (q_assign rfl) rfl ?_
    refine WPL.nil ?_
    refine WPC.seq ?_
    refine WPC.seqR ?_
    refine L_s (q_move rfl) rfl ?_
    refine WPL.nil ?_
    refine WPC.cond rfl (fun h1 => ?_) (fun h1 => ?_)
    · try simp only [decide_eq_true_eq, decide_eq_false_iff_not, beq_iff_eq, bne_iff_ne, beq_eq_false_iff_ne, bne_eq_false_iff_eq, Bool.not_eq_true', Bool.not_eq_false', Bool.not_eq_eq_eq_not, Bool.not_true, Bool.not_false, ne_eq, Decidable.not_not, Int.not_lt, Int.not_le, gt_iff_lt, ge_iff_le] at h1
      exact absurd h1 (by decide)
    · try simp only [decide_eq_true_eq, decide_eq_false_iff_not, beq_iff_eq, bne_iff_ne, beq_eq_false_iff_ne, bne_eq_false_iff_eq, Bool.not_eq_true', Bool.not_eq_false', Bool.not_eq_eq_eq_not, Bool.not_true, Bool.not_false, ne_eq, Decidable.not_not, Int.not_lt, Int.not_le, gt_iff_lt, ge_iff_le] at h1
      refine WPC.region ?_
      refine L_s (q_move rfl) rfl ?_
      first | refine L_s (q_nilP rfl) rfl ?_ | refine L_s (q_nilF rfl) rfl ?_
      first | refine L_s (q_faK fa_pursuivantref11_Node_Role rfl) rfl ?_ | refine L_s (q_fa fa_pursuivantref11_Node_Role rfl) rfl ?_
      refine WPL.cons rfl (S1.wpo (s_store1k sz_int rfl rfl rfl rfl (by repeat (first | exact Upd.here | apply Upd.there)) (by repeat constructor)) rfl ?_)
      refine WPL.putN ?_
      refine WPL.nil ?_
      refine thenQ_n ?_
      refine WPC.seqR ?_
      refine L_s (q_move rfl) rfl ?_
      first | refine L_s (q_nilP rfl) rfl ?_ | refine L_s (q_nilF rfl) rfl ?_
      first | refine L_s (q_faK fa_pursuivantref11_Node_Lead rfl) rfl ?_ | refine L_s (q_fa fa_pursuivantref11_Node_Lead rfl) rfl ?_
      refine WPL.cons rfl (S1.wpo (s_store1k sz_int rfl rfl rfl rfl (by repeat (first | exact Upd.here | apply Upd.there)) (by repeat constructor)) rfl ?_)
      refine WPL.putN ?_
      refine WPL.nil ?_
      refine WPC.prune [(0, _), (1, _), (4, _), (6, _), (7, _)] (by repeat (first | exact trivial | refine ⟨rfl, ?_⟩)) ?_
      refine WPC.seqR ?_
      refine L_s (q_move rfl) rfl ?_
      refine L_s (q_move rfl) rfl ?_
      first | refine L_s (q_nilP rfl) rfl ?_ | refine L_s (q_nilF rfl) rfl ?_
      first | refine L_s (q_faK fa_pursuivantref11_Node_Me rfl) rfl ?_ | refine L_s (q_fa fa_pursuivantref11_Node_Me rfl) rfl ?_
      first | refine L_s (q_load1z ld_int rfl (by repeat (first | exact List.Mem.head _ | apply List.Mem.tail)) (by rfl)) rfl ?_ | refine L_s (q_load1 ld_int rfl (by repeat (first | exact List.Mem.head _ | apply List.Mem.tail)) rfl (by rfl)) rfl ?_
      refine WPL.cons rfl (E1.wpo (e_buildSlice mk_sl_int (by decide) rfl rfl rfl) rfl ?_)
      rintro _ _ ⟨bY, rfl, rfl⟩
      refine WPL.putS ?_
      refine WPL.imp (Imp.freeze bY 0 [.int .i64 (mn : Int)] _) ?_
      first | refine L_s (q_nilP rfl) rfl ?_ | refine L_s (q_nilF rfl) rfl ?_
      first | refine L_s (q_faK fa_pursuivantref11_Node_Yes rfl) rfl ?_ | refine L_s (q_fa fa_pursuivantref11_Node_Yes rfl) rfl ?_
      refine WPL.cons rfl (S1.wpo (s_store1k sz_sl_int rfl rfl rfl rfl (by repeat (first | exact Upd.here | apply Upd.there)) (by repeat constructor)) rfl ?_)
      refine WPL.putN ?_
      refine WPL.nil ?_
      have hy : Sok 1 (some ⟨bY, 0, none⟩) 1 1 ([(mn : Int)].map (.int .i64)) := ⟨rfl, Nat.le_refl _, .inr (Pl.mk _ _)⟩
      refine WPC.seqD mixed ?_
      refine WPA.takeP 0 rfl (q_move rfl) (by kernel_rfl) (by kernel_rfl) (by kernel_rfl) rfl rfl (.nil _) ?_
      refine WPA.putS ?_
      first | refine WPA.takeP 1 rfl (q_nilP rfl) (by kernel_rfl) (by kernel_rfl) (by kernel_rfl) rfl rfl (.nil _) ?_ | refine WPA.takeP 1 rfl (q_nilF rfl) (by kernel_rfl) (by kernel_rfl) (by kernel_rfl) rfl rfl (.nil _) ?_
      refine WPA.putS ?_
      first | refine WPA.takeP 2 rfl (q_faK fa_pursuivantref11_Node_Conf rfl) (by kernel_rfl) (by kernel_rfl) (by kernel_rfl) rfl rfl (.nil _) ?_ | refine WPA.takeP 2 rfl (q_fa fa_pursuivantref11_Node_Conf rfl) (by kernel_rfl) (by kernel_rfl) (by kernel_rfl) rfl rfl (.nil _) ?_
      refine WPA.putS ?_
      first | refine WPA.takeL 3 rfl (Ent.mem (by repeat (first | exact List.Mem.head _ | apply List.Mem.tail))) (q_load1z ld_sl_int rfl (.head _) (by rfl)) (by kernel_rfl) (by kernel_rfl) (by kernel_rfl) rfl rfl (.nil _) ?_ | refine WPA.takeL 3 rfl (Ent.mem (by repeat (first | exact List.Mem.head _ | apply List.Mem.tail))) (q_load1 ld_sl_int rfl (.head _) rfl (by rfl)) (by kernel_rfl) (by kernel_rfl) (by kernel_rfl) rfl rfl (.nil _) ?_
      refine WPA.putS ?_
      refine WPA.takeP 4 rfl (q_move rfl) (by kernel_rfl) (by kernel_rfl) (by kernel_rfl) rfl rfl (.cons (Ent.mem (by repeat (first | exact List.Mem.head _ | apply List.Mem.tail))) (.nil _)) ?_
      refine WPA.putS ?_
      first | refine WPA.takeP 5 rfl (q_nilP rfl) (by kernel_rfl) (by kernel_rfl) (by kernel_rfl) rfl rfl (.cons (Ent.mem (by repeat (first | exact List.Mem.head _ | apply List.Mem.tail))) (.nil _)) ?_ | refine WPA.takeP 5 rfl (q_nilF rfl) (by kernel_rfl) (by kernel_rfl) (by kernel_rfl) rfl rfl (.cons (Ent.mem (by repeat (first | exact List.Mem.head _ | apply List.Mem.tail))) (.nil _)) ?_
      refine WPA.putS ?_
      first | refine WPA.takeP 6 rfl (q_faK fa_pursuivantref11_Node_Yes rfl) (by kernel_rfl) (by kernel_rfl) (by kernel_rfl) rfl rfl (.cons (Ent.mem (by repeat (first | exact List.Mem.head _ | apply List.Mem.tail))) (.nil _)) ?_ | refine WPA.takeP 6 rfl (q_fa fa_pursuivantref11_Node_Yes rfl) (by kernel_rfl) (by kernel_rfl) (by kernel_rfl) rfl rfl (.cons (Ent.mem (by repeat (first | exact List.Mem.head _ | apply List.Mem.tail))) (.nil _)) ?_
      refine WPA.putS ?_
      first | refine WPA.takeL 7 rfl (Ent.mem (by repeat (first | exact List.Mem.head _ | apply List.Mem.tail))) (q_load1z ld_sl_int rfl (.head _) (by rfl)) (by kernel_rfl) (by kernel_rfl) (by kernel_rfl) rfl rfl (.cons (Ent.mem (by repeat (first | exact List.Mem.head _ | apply List.Mem.tail))) (.nil _)) ?_ | refine WPA.takeL 7 rfl (Ent.mem (by repeat (first | exact List.Mem.head _ | apply List.Mem.tail))) (q_load1 ld_sl_int rfl (.head _) rfl (by rfl)) (by kernel_rfl) (by kernel_rfl) (by kernel_rfl) rfl rfl (.cons (Ent.mem (by repeat (first | exact List.Mem.head _ | apply List.Mem.tail))) (.nil _)) ?_
      refine WPA.putS ?_
      refine WPA.oneE 8 [] (by kernel_rfl) rfl rfl (by repeat (first | exact .nil | refine .anc rfl ?_ | refine .keep (by repeat (first | exact List.Mem.head _ | apply List.Mem.tail)) ?_)) (C1.call (c_call Try.func35 rfl rfl rfl) (c_rAgrees (q := false) (ys := [(mn : Int)]) hc hy hcn (by omega)) (by repeat (first | exact Pick.nil | apply Pick.keep (by repeat (first | exact List.Mem.head _ | apply List.Mem.tail)) (by first | exact Pers.cells _ _ _ | exact Pers.slv _ _ _) | apply Pick.cons (by repeat (first | exact Pick1.here | apply Pick1.there)))) rfl ?_)
      rintro _ _ ⟨rfl, rfl⟩
      refine ⟨(.nil _), ?_⟩
      refine WPA.putS ?_
      refine WPA.takeP 9 rfl (q_assign rfl) (by kernel_rfl) (by kernel_rfl) (by kernel_rfl) rfl rfl (.nil _) ?_
      refine WPA.putS ?_
      refine WPA.done (by kernel_rfl) ?_
      refine WPC.seq ?_
      refine WPC.seqR ?_
      refine L_s (q_move rfl) rfl ?_
      refine L_s (q_move rfl) rfl ?_
      apply WPL.joinA (e' := [(0, _), (4, _), (6, _), (7, _), (8, _)]) 71 74 3 rfl
      · intro g15_1
        try simp only [decide_eq_true_eq, decide_eq_false_iff_not, beq_iff_eq, bne_iff_ne, beq_eq_false_iff_ne, bne_eq_false_iff_eq, Bool.not_eq_true', Bool.not_eq_false', Bool.not_eq_eq_eq_not, Bool.not_true, Bool.not_false, ne_eq, Decidable.not_not, Int.not_lt, Int.not_le, gt_iff_lt, ge_iff_le] at g15_1
        refine L_yes rfl rfl (q_move rfl) rfl ?_
        refine L_yes rfl rfl (q_not rfl) rfl ?_
        first | refine L_s (q_pickT rfl rfl) rfl ?_ | refine L_s (q_pickF rfl rfl) rfl ?_
        first | exact WPL.jn rfl rfl (by repeat (first | exact trivial | refine ⟨rfl, ?_⟩)) | exact WPL.jnI rfl rfl (by repeat (first | exact trivial | refine ⟨rfl, ?_⟩)) (Imp.pick (by repeat (first | exact Pick.nil | apply Pick.keep (by repeat (first | exact List.Mem.head _ | apply List.Mem.tail)) (by first | exact Pers.cells _ _ _ | exact Pers.slv _ _ _) | apply Pick.cons (by repeat (first | exact Pick1.here | apply Pick1.there)))))
      · intro g15_1
        try simp only [decide_eq_true_eq, decide_eq_false_iff_not, beq_iff_eq, bne_iff_ne, beq_eq_false_iff_ne, bne_eq_false_iff_eq, Bool.not_eq_true', Bool.not_eq_false', Bool.not_eq_eq_eq_not, Bool.not_true, Bool.not_false, ne_eq, Decidable.not_not, Int.not_lt, Int.not_le, gt_iff_lt, ge_iff_le] at g15_1
        refine L_no rfl rfl rfl rfl ?_
        refine L_no rfl rfl rfl rfl ?_
        first | refine L_s (q_pickT rfl rfl) rfl ?_ | refine L_s (q_pickF rfl rfl) rfl ?_
        first | exact WPL.jn rfl rfl (by repeat (first | exact trivial | refine ⟨rfl, ?_⟩)) | exact WPL.jnI rfl rfl (by repeat (first | exact trivial | refine ⟨rfl, ?_⟩)) (Imp.pick (by repeat (first | exact Pick.nil | apply Pick.keep (by repeat (first | exact List.Mem.head _ | apply List.Mem.tail)) (by first | exact Pers.cells _ _ _ | exact Pers.slv _ _ _) | apply Pick.cons (by repeat (first | exact Pick1.here | apply Pick1.there)))))
      refine WPL.nil ?_
      refine WPC.cond rfl (fun h2 => ?_) (fun h2 => ?_)
      · simp only [Bool.and_eq_true, Bool.not_false, and_true] at h2
        have ef : EN.askP (⟨(mn : Int), vote, role, lead, conf, yes, term, commit, base, bt, es, heard, next, mtch⟩ : EN) = ((⟨(mn : Int), vote, 1, -1, conf, [(mn : Int)], term, commit, base, bt, es, heard, next, mtch⟩ : EN).askR.1, (⟨(mn : Int), vote, 1, -1, conf, [(mn : Int)], term, commit, base, bt, es, heard, next, mtch⟩ : EN).askR.2) := by simp [EN.askP, h0, h2]
        refine WPC.seqR ?_
        refine L_s (q_move rfl) rfl ?_
        refine WPL.imp ((Imp.pick (by repeat (first | exact Pick.nil | apply Pick.keep (by repeat (first | exact List.Mem.head _ | apply List.Mem.tail)) (by first | exact Pers.cells _ _ _ | exact Pers.slv _ _ _) | apply Pick.cons (by repeat (first | exact Pick1.here | apply Pick1.there))))).trans (rnode_close3 (x := (⟨(mn : Int), vote, 1, -1, conf, [(mn : Int)], term, commit, base, bt, es, heard, next, mtch⟩ : EN)) (b := b) (o := o) (⟨ca, cn, cc, some ⟨bY, 0, none⟩, 1, 1, ea, en, ec⟩ : RL) ⟨hc, hcn, hy, by (show 1 < _; omega), he, hen, hnx, hmt⟩ (Γ := []))) ?_
        refine WPL.cons rfl (C1.call (c_call Try.func9 rfl rfl rfl) (c_rAskR (x := (⟨(mn : Int), vote, 1, -1, conf, [(mn : Int)], term, commit, base, bt, es, heard, next, mtch⟩ : EN)) ⟨hme, hterm, hbase, hes, by simp⟩ ht) (by repeat (first | exact Pick.nil | apply Pick.keep (by repeat (first | exact List.Mem.head _ | apply List.Mem.tail)) (by first | exact Pers.cells _ _ _ | exact Pers.slv _ _ _) | apply Pick.cons (by repeat (first | exact Pick1.here | apply Pick1.there)))) rfl ?_)
        rintro _ _ ⟨a, c, rfl, rfl⟩
        refine WPL.putS ?_
        refine L_s (q_assign rfl) rfl ?_
        refine WPL.nil ?_
        refine WPC.ret ?_
        refine thenQ_r ?_
        rw [ef]
        exact endR_r rfl (.tmp rfl .nil) (Imp.pick (by repeat (first | exact Pick.nil | apply Pick.keep (by repeat (first | exact List.Mem.head _ | apply List.Mem.tail)) (by first | exact Pers.cells _ _ _ | exact Pers.slv _ _ _) | apply Pick.cons (by repeat (first | exact Pick1.here | apply Pick1.there))))) ⟨a, c, rfl, rfl⟩
      · simp only [Bool.not_false, Bool.and_true] at h2
        refine WPC.skip ?_
        refine thenQ_n ?_
        refine WPC.seq ?_
        refine WPC.seqR ?_
        refine L_s (q_move rfl) rfl ?_
        refine WPL.nil ?_
        refine WPC.cond rfl (fun h3 => ?_) (fun h3 => ?_)
        · try simp only [decide_eq_true_eq, decide_eq_false_iff_not, beq_iff_eq, bne_iff_ne, beq_eq_false_iff_ne, bne_eq_false_iff_eq, Bool.not_eq_true', Bool.not_eq_false', Bool.not_eq_eq_eq_not, Bool.not_true, Bool.not_false, ne_eq, Decidable.not_not, Int.not_lt, Int.not_le, gt_iff_lt, ge_iff_le] at h3
          simp [h2] at h3
        · skip
          refine WPC.skip ?_
          refine thenQ_n ?_
          refine WPC.seqR ?_
          refine L_s (q_assign rfl) rfl ?_
          refine WPL.nil ?_
          refine WPC.seqR ?_
          refine L_s (q_move rfl) rfl ?_
          have ef : EN.askP (⟨(mn : Int), vote, role, lead, conf, yes, term, commit, base, bt, es, heard, next, mtch⟩ : EN) = ((⟨(mn : Int), vote, 1, -1, conf, [(mn : Int)], term, commit, base, bt, es, heard, next, mtch⟩ : EN), EN.toAll (⟨(mn : Int), vote, 1, -1, conf, [(mn : Int)], term, commit, base, bt, es, heard, next, mtch⟩ : EN) (msg 3 0 0 (term + 1) (base + (en : Int)) (lgLastTerm bt es) false)) := by simp [EN.askP, h0, h2, EN.last, hel]
          refine WPL.cons rfl (C1.call (c_call Try.func16 rfl rfl rfl) (c_rOthers (x := (⟨(mn : Int), vote, 1, -1, conf, [(mn : Int)], term, commit, base, bt, es, heard, next, mtch⟩ : EN)) (L := (⟨ca, cn, cc, some ⟨bY, 0, none⟩, 1, 1, ea, en, ec⟩ : RL)) hc hcn) (by repeat (first | exact Pick.nil | apply Pick.keep (by repeat (first | exact List.Mem.head _ | apply List.Mem.tail)) (by first | exact Pers.cells _ _ _ | exact Pers.slv _ _ _) | apply Pick.cons (by repeat (first | exact Pick1.here | apply Pick1.there)))) rfl ?_)
          rintro _ _ ⟨ao, co, rfl, hso, hno, rfl⟩
          refine WPL.putS ?_
          refine L_s (q_assign rfl) rfl ?_
          refine WPL.nil ?_
          refine WPC.imp (Imp.bufNil (sz := 10)) ?_
          refine WPC.seq ?_
          refine WPC.seqR ?_
          refine L_s (q_assign rfl) rfl ?_
          refine WPL.nil ?_
          refine WPC.block ?_
          refine WPC.loopS (fun m e Γ => ∃ (k : Nat) (a2 : Option Addr) (c2 : Nat), m = (EN.others (⟨(mn : Int), vote, 1, -1, conf, [(mn : Int)], term, commit, base, bt, es, heard, next, mtch⟩ : EN)).length - k ∧ k ≤ (EN.others (⟨(mn : Int), vote, 1, -1, conf, [(mn : Int)], term, commit, base, bt, es, heard, next, mtch⟩ : EN)).length ∧ e = [(0, .pointer (some ⟨b, o, none⟩)), (6, .int .i64 3), (7, .int .u64 (term + 1)), (9, .slice a2 k c2), (10, .slice ao (EN.others (⟨(mn : Int), vote, 1, -1, conf, [(mn : Int)], term, commit, base, bt, es, heard, next, mtch⟩ : EN)).length co), (11, .int .i64 (k : Int))] ∧ Γ = [buf 10 a2 k c2 ((((EN.others (⟨(mn : Int), vote, 1, -1, conf, [(mn : Int)], term, commit, base, bt, es, heard, next, mtch⟩ : EN)).take k).map (fun i => ({ (msg 3 0 0 (term + 1) (base + (en : Int)) (lgLastTerm bt es) false) with fr := (mn : Int), to := i } : RM))).flatMap encM), sl false ao ((EN.others (⟨(mn : Int), vote, 1, -1, conf, [(mn : Int)], term, commit, base, bt, es, heard, next, mtch⟩ : EN)).map (.int .i64)), cells true b o (rnodeH (⟨(mn : Int), vote, 1, -1, conf, [(mn : Int)], term, commit, base, bt, es, heard, next, mtch⟩ : EN) (⟨ca, cn, cc, some ⟨bY, 0, none⟩, 1, 1, ea, en, ec⟩ : RL)), cells true b (o + 12) (next.map (.int .u64)), cells true b (o + 28) (mtch.map (.int .u64)), sl false ca (conf.map (.int .i64)), sl false (some ⟨bY, 0, none⟩) ([(mn : Int)].map (.int .i64)), sl false ea (es.flatMap encE)]) ((EN.others (⟨(mn : Int), vote, 1, -1, conf, [(mn : Int)], term, commit, base, bt, es, heard, next, mtch⟩ : EN)).length) ⟨0, none, 0, rfl, by omega, rfl, rfl⟩ (by repeat (first | exact trivial | refine ⟨rfl, ?_⟩)) (Imp.pick (by repeat (first | exact Pick.nil | apply Pick.keep (by repeat (first | exact List.Mem.head _ | apply List.Mem.tail)) (by first | exact Pers.cells _ _ _ | exact Pers.slv _ _ _) | apply Pick.cons (by repeat (first | exact Pick1.here | apply Pick1.there))))) ?_
          rintro m e Γ ⟨k, a2, c2, rfl, hk, rfl, rfl⟩
          refine WPC.seq ?_
          refine WPC.seqR ?_
          refine L_s (q_move rfl) rfl ?_
          refine L_s (q_move rfl) rfl ?_
          refine L_s (q_len rfl un_sl_int rfl) rfl ?_
          refine L_s (q_int rfl rfl rfl) rfl ?_
          refine WPL.nil ?_
          refine WPC.cond rfl (fun h4 => ?_) (fun h4 => ?_)
          · simp only [decide_eq_true_eq] at h4
            have hk' : k < (EN.others (⟨(mn : Int), vote, 1, -1, conf, [(mn : Int)], term, commit, base, bt, es, heard, next, mtch⟩ : EN)).length := by omega
            have hp : Pl ao := hso.at (by omega) (by omega)
            obtain ⟨i, hx⟩ : ∃ i, (EN.others (⟨(mn : Int), vote, 1, -1, conf, [(mn : Int)], term, commit, base, bt, es, heard, next, mtch⟩ : EN))[k]? = some i := ⟨(EN.others (⟨(mn : Int), vote, 1, -1, conf, [(mn : Int)], term, commit, base, bt, es, heard, next, mtch⟩ : EN))[k]'(by omega), by simp [hk']⟩
            refine WPC.skip ?_
            refine thenQ_n ?_
            refine WPC.seq ?_
            refine WPC.block ?_
            refine WPC.draw mixed ?_
            refine WPA.takeP 0 rfl (q_move rfl) (by kernel_rfl) (by kernel_rfl) (by kernel_rfl) rfl rfl (.nil _) ?_
            refine WPA.putS ?_
            refine WPA.takeP 1 rfl (q_move rfl) (by kernel_rfl) (by kernel_rfl) (by kernel_rfl) rfl rfl (.nil _) ?_
            refine WPA.putS ?_
            refine WPA.takeP 2 rfl (q_move rfl) (by kernel_rfl) (by kernel_rfl) (by kernel_rfl) rfl rfl (.nil _) ?_
            refine WPA.putS ?_
            first | refine WPA.takeP 3 rfl (q_nilP rfl) (by kernel_rfl) (by kernel_rfl) (by kernel_rfl) rfl rfl (.nil _) ?_ | refine WPA.takeP 3 rfl (q_nilF rfl) (by kernel_rfl) (by kernel_rfl) (by kernel_rfl) rfl rfl (.nil _) ?_
            refine WPA.putS ?_
            first | refine WPA.takeP 4 rfl (q_faK fa_pursuivantref11_Node_Me rfl) (by kernel_rfl) (by kernel_rfl) (by kernel_rfl) rfl rfl (.nil _) ?_ | refine WPA.takeP 4 rfl (q_fa fa_pursuivantref11_Node_Me rfl) (by kernel_rfl) (by kernel_rfl) (by kernel_rfl) rfl rfl (.nil _) ?_
            refine WPA.putS ?_
            first | refine WPA.takeL 5 rfl (Ent.mem (by repeat (first | exact List.Mem.head _ | apply List.Mem.tail))) (q_load1z ld_int rfl (.head _) (by rfl)) (by kernel_rfl) (by kernel_rfl) (by kernel_rfl) rfl rfl (.nil _) ?_ | refine WPA.takeL 5 rfl (Ent.mem (by repeat (first | exact List.Mem.head _ | apply List.Mem.tail))) (q_load1 ld_int rfl (.head _) rfl (by rfl)) (by kernel_rfl) (by kernel_rfl) (by kernel_rfl) rfl rfl (.nil _) ?_
            refine WPA.putS ?_
            refine WPA.takeP 6 rfl (q_move rfl) (by kernel_rfl) (by kernel_rfl) (by kernel_rfl) rfl rfl (.cons (Ent.mem (by repeat (first | exact List.Mem.head _ | apply List.Mem.tail))) (.nil _)) ?_
            refine WPA.putS ?_
            refine WPA.takeP 7 rfl (q_move rfl) (by kernel_rfl) (by kernel_rfl) (by kernel_rfl) rfl rfl (.cons (Ent.mem (by repeat (first | exact List.Mem.head _ | apply List.Mem.tail))) (.nil _)) ?_
            refine WPA.putS ?_
            first | refine WPA.takeP 8 rfl (q_idxN sl_sl_int rfl rfl (by omega) (by assumption)) (by kernel_rfl) (by kernel_rfl) (by kernel_rfl) rfl rfl (.cons (Ent.mem (by repeat (first | exact List.Mem.head _ | apply List.Mem.tail))) (.nil _)) ?_ | refine WPA.takeP 8 rfl (q_idx sl_sl_int rfl rfl (by omega) (by omega) (by assumption)) (by kernel_rfl) (by kernel_rfl) (by kernel_rfl) rfl rfl (.cons (Ent.mem (by repeat (first | exact List.Mem.head _ | apply List.Mem.tail))) (.nil _)) ?_
            refine WPA.putS ?_
            refine WPA.takeL 9 rfl (Ent.mem (by repeat (first | exact List.Mem.head _ | apply List.Mem.tail))) (q_ldMap ld_int rfl (.head _) hx) (by kernel_rfl) (by kernel_rfl) (by kernel_rfl) rfl rfl (.cons (Ent.mem (by repeat (first | exact List.Mem.head _ | apply List.Mem.tail))) (.nil _)) ?_
            refine WPA.putS ?_
            refine WPA.takeP 10 rfl (q_move rfl) (by kernel_rfl) (by kernel_rfl) (by kernel_rfl) rfl rfl (.cons (Ent.mem (by repeat (first | exact List.Mem.head _ | apply List.Mem.tail))) (.cons (Ent.mem (by repeat (first | exact List.Mem.head _ | apply List.Mem.tail))) (.nil _))) ?_
            refine WPA.putS ?_
            refine WPA.takeP 11 rfl (q_move rfl) (by kernel_rfl) (by kernel_rfl) (by kernel_rfl) rfl rfl (.cons (Ent.mem (by repeat (first | exact List.Mem.head _ | apply List.Mem.tail))) (.cons (Ent.mem (by repeat (first | exact List.Mem.head _ | apply List.Mem.tail))) (.nil _))) ?_
            refine WPA.putS ?_
            first | refine WPA.takeP 12 rfl (q_nilP rfl) (by kernel_rfl) (by kernel_rfl) (by kernel_rfl) rfl rfl (.cons (Ent.mem (by repeat (first | exact List.Mem.head _ | apply List.Mem.tail))) (.cons (Ent.mem (by repeat (first | exact List.Mem.head _ | apply List.Mem.tail))) (.nil _))) ?_ | refine WPA.takeP 12 rfl (q_nilF rfl) (by kernel_rfl) (by kernel_rfl) (by kernel_rfl) rfl rfl (.cons (Ent.mem (by repeat (first | exact List.Mem.head _ | apply List.Mem.tail))) (.cons (Ent.mem (by repeat (first | exact List.Mem.head _ | apply List.Mem.tail))) (.nil _))) ?_
            refine WPA.putS ?_
            first | refine WPA.takeP 13 rfl (q_faK fa_pursuivantref11_Node_Log rfl) (by kernel_rfl) (by kernel_rfl) (by kernel_rfl) rfl rfl (.cons (Ent.mem (by repeat (first | exact List.Mem.head _ | apply List.Mem.tail))) (.cons (Ent.mem (by repeat (first | exact List.Mem.head _ | apply List.Mem.tail))) (.nil _))) ?_ | refine WPA.takeP 13 rfl (q_fa fa_pursuivantref11_Node_Log rfl) (by kernel_rfl) (by kernel_rfl) (by kernel_rfl) rfl rfl (.cons (Ent.mem (by repeat (first | exact List.Mem.head _ | apply List.Mem.tail))) (.cons (Ent.mem (by repeat (first | exact List.Mem.head _ | apply List.Mem.tail))) (.nil _))) ?_
            refine WPA.putS ?_
            first | refine WPA.takeL 14 rfl (Ent.mem (by repeat (first | exact List.Mem.head _ | apply List.Mem.tail))) (q_loadNz (us := [_, _, _]) ld_pursuivantref09_Log rfl (.head _) (by exact ⟨rfl, rfl⟩)) (by kernel_rfl) (by kernel_rfl) (by kernel_rfl) rfl rfl (.cons (Ent.mem (by repeat (first | exact List.Mem.head _ | apply List.Mem.tail))) (.cons (Ent.mem (by repeat (first | exact List.Mem.head _ | apply List.Mem.tail))) (.nil _))) ?_ | refine WPA.takeL 14 rfl (Ent.mem (by repeat (first | exact List.Mem.head _ | apply List.Mem.tail))) (q_loadNk (us := [_, _, _]) ld_pursuivantref09_Log rfl (.head _) (by exact ⟨rfl, rfl⟩)) (by kernel_rfl) (by kernel_rfl) (by kernel_rfl) rfl rfl (.cons (Ent.mem (by repeat (first | exact List.Mem.head _ | apply List.Mem.tail))) (.cons (Ent.mem (by repeat (first | exact List.Mem.head _ | apply List.Mem.tail))) (.nil _))) ?_
            refine WPA.putS ?_
            refine WPA.takeP 16 rfl (q_move rfl) (by kernel_rfl) (by kernel_rfl) (by kernel_rfl) rfl rfl (.cons (Ent.mem (by repeat (first | exact List.Mem.head _ | apply List.Mem.tail))) (.cons (Ent.mem (by repeat (first | exact List.Mem.head _ | apply List.Mem.tail))) (.cons (Ent.mem (by repeat (first | exact List.Mem.head _ | apply List.Mem.tail))) (.nil _)))) ?_
            refine WPA.putS ?_
            first | refine WPA.takeP 17 rfl (q_nilP rfl) (by kernel_rfl) (by kernel_rfl) (by kernel_rfl) rfl rfl (.cons (Ent.mem (by repeat (first | exact List.Mem.head _ | apply List.Mem.tail))) (.cons (Ent.mem (by repeat (first | exact List.Mem.head _ | apply List.Mem.tail))) (.cons (Ent.mem (by repeat (first | exact List.Mem.head _ | apply List.Mem.tail))) (.nil _)))) ?_ | refine WPA.takeP 17 rfl (q_nilF rfl) (by kernel_rfl) (by kernel_rfl) (by kernel_rfl) rfl rfl (.cons (Ent.mem (by repeat (first | exact List.Mem.head _ | apply List.Mem.tail))) (.cons (Ent.mem (by repeat (first | exact List.Mem.head _ | apply List.Mem.tail))) (.cons (Ent.mem (by repeat (first | exact List.Mem.head _ | apply List.Mem.tail))) (.nil _)))) ?_
            refine WPA.putS ?_
            first | refine WPA.takeP 18 rfl (q_faK fa_pursuivantref11_Node_Log rfl) (by kernel_rfl) (by kernel_rfl) (by kernel_rfl) rfl rfl (.cons (Ent.mem (by repeat (first | exact List.Mem.head _ | apply List.Mem.tail))) (.cons (Ent.mem (by repeat (first | exact List.Mem.head _ | apply List.Mem.tail))) (.cons (Ent.mem (by repeat (first | exact List.Mem.head _ | apply List.Mem.tail))) (.nil _)))) ?_ | refine WPA.takeP 18 rfl (q_fa fa_pursuivantref11_Node_Log rfl) (by kernel_rfl) (by kernel_rfl) (by kernel_rfl) rfl rfl (.cons (Ent.mem (by repeat (first | exact List.Mem.head _ | apply List.Mem.tail))) (.cons (Ent.mem (by repeat (first | exact List.Mem.head _ | apply List.Mem.tail))) (.cons (Ent.mem (by repeat (first | exact List.Mem.head _ | apply List.Mem.tail))) (.nil _)))) ?_
            refine WPA.putS ?_
            first | refine WPA.takeL 19 rfl (Ent.mem (by repeat (first | exact List.Mem.head _ | apply List.Mem.tail))) (q_loadNz (us := [_, _, _]) ld_pursuivantref09_Log rfl (.head _) (by exact ⟨rfl, rfl⟩)) (by kernel_rfl) (by kernel_rfl) (by kernel_rfl) rfl rfl (.cons (Ent.mem (by repeat (first | exact List.Mem.head _ | apply List.Mem.tail))) (.cons (Ent.mem (by repeat (first | exact List.Mem.head _ | apply List.Mem.tail))) (.cons (Ent.mem (by repeat (first | exact List.Mem.head _ | apply List.Mem.tail))) (.nil _)))) ?_ | refine WPA.takeL 19 rfl (Ent.mem (by repeat (first | exact List.Mem.head _ | apply List.Mem.tail))) (q_loadNk (us := [_, _, _]) ld_pursuivantref09_Log rfl (.head _) (by exact ⟨rfl, rfl⟩)) (by kernel_rfl) (by kernel_rfl) (by kernel_rfl) rfl rfl (.cons (Ent.mem (by repeat (first | exact List.Mem.head _ | apply List.Mem.tail))) (.cons (Ent.mem (by repeat (first | exact List.Mem.head _ | apply List.Mem.tail))) (.cons (Ent.mem (by repeat (first | exact List.Mem.head _ | apply List.Mem.tail))) (.nil _)))) ?_
            refine WPA.putS ?_
            refine WPA.oneE 15 [(19, [_]), (9, [_]), (5, [_])] (by kernel_rfl) rfl rfl (by repeat (first | exact .nil | refine .anc rfl ?_ | refine .keep (by repeat (first | exact List.Mem.head _ | apply List.Mem.tail)) ?_)) (C1.call (c_call Try.func37 rfl rfl rfl) (c_rLast hb hen) (by repeat (first | exact Pick.nil | apply Pick.keep (by repeat (first | exact List.Mem.head _ | apply List.Mem.tail)) (by first | exact Pers.cells _ _ _ | exact Pers.slv _ _ _) | apply Pick.cons (by repeat (first | exact Pick1.here | apply Pick1.there)))) rfl ?_)
            rintro _ _ ⟨rfl, rfl⟩
            refine ⟨(.cons (Ent.mem (by repeat (first | exact List.Mem.head _ | apply List.Mem.tail))) (.cons (Ent.mem (by repeat (first | exact List.Mem.head _ | apply List.Mem.tail))) (.cons (Ent.mem (by repeat (first | exact List.Mem.head _ | apply List.Mem.tail))) (.nil _)))), ?_⟩
            refine WPA.putS ?_
            refine WPA.oneE 20 [(9, [_]), (5, [_])] (by kernel_rfl) rfl rfl (by repeat (first | exact .nil | refine .anc rfl ?_ | refine .keep (by repeat (first | exact List.Mem.head _ | apply List.Mem.tail)) ?_)) (C1.call (c_call Try.func38 rfl rfl rfl) (c_rLastTerm he hen) (by repeat (first | exact Pick.nil | apply Pick.keep (by repeat (first | exact List.Mem.head _ | apply List.Mem.tail)) (by first | exact Pers.cells _ _ _ | exact Pers.slv _ _ _) | apply Pick.cons (by repeat (first | exact Pick1.here | apply Pick1.there)))) rfl ?_)
            rintro _ _ ⟨rfl, rfl⟩
            refine ⟨(.cons (Ent.mem (by repeat (first | exact List.Mem.head _ | apply List.Mem.tail))) (.cons (Ent.mem (by repeat (first | exact List.Mem.head _ | apply List.Mem.tail))) (.nil _))), ?_⟩
            refine WPA.putS ?_
            refine WPA.takeP 21 rfl (q_build (cs := [_, _, _, _, _, _, _, _, _, _]) pl_api_Msg rfl rfl) (by kernel_rfl) (by kernel_rfl) (by kernel_rfl) rfl rfl (.cons (Ent.mem (by repeat (first | exact List.Mem.head _ | apply List.Mem.tail))) (.cons (Ent.mem (by repeat (first | exact List.Mem.head _ | apply List.Mem.tail))) (.nil _))) ?_
            refine WPA.putS ?_
            refine WPA.oneE 22 [] (by kernel_rfl) rfl rfl (by repeat (first | exact .nil | refine .anc rfl ?_ | refine .keep (by repeat (first | exact List.Mem.head _ | apply List.Mem.tail)) ?_)) (E1.wpo (e_buildSlice mk_sl_api_Msg (by decide) rfl rfl rfl) rfl ?_)
            rintro _ _ ⟨bE, rfl, rfl⟩
            refine ⟨(.nil _), ?_⟩
            refine WPA.putS ?_
            refine WPA.oneE 23 [] (by kernel_rfl) rfl rfl (by repeat (first | exact .nil | refine .anc rfl ?_ | refine .keep (by repeat (first | exact List.Mem.head _ | apply List.Mem.tail)) ?_)) (E1.wpo (e_append (m := 1) (news := encM ((fun i => ({ (msg 3 0 0 (term + 1) (base + (en : Int)) (lgLastTerm bt es) false) with fr := (mn : Int), to := i } : RM)) i)) mk_sl_api_Msg (by decide) rfl rfl (by repeat (first | exact Pick1.here | apply Pick1.there)) (Rd.part (i := 0) (b := bE) (o := 0) (vs := encM ((fun i => ({ (msg 3 0 0 (term + 1) (base + (en : Int)) (lgLastTerm bt es) false) with fr := (mn : Int), to := i } : RM)) i)) (by repeat (first | exact List.Mem.head _ | apply List.Mem.tail)) rfl rfl rfl) (by simp [Value.oneCell']) (by omega) (by omega)) rfl ?_)
            rintro _ _ ⟨a3, c3, rfl, -, rfl⟩
            refine ⟨(.nil _), ?_⟩
            refine WPA.putS ?_
            refine WPA.takeP 24 rfl (q_assign rfl) (by kernel_rfl) (by kernel_rfl) (by kernel_rfl) rfl rfl (.nil _) ?_
            refine WPA.putS ?_
            refine WPA.done (by kernel_rfl) ?_
            refine blockQ_n ?_
            refine thenQ_n ?_
            refine WPC.region ?_
            refine L_s (q_move rfl) rfl ?_
            first | refine L_s (q_inc rfl rfl (by omega)) rfl ?_ | refine L_s (q_addI rfl rfl (by omega)) rfl ?_ | refine L_s (q_int rfl rfl rfl) rfl ?_
            refine L_s (q_assign rfl) rfl ?_
            refine WPL.nil ?_
            refine thenQ_n ?_
            exact ⟨rfl, _, _, _, by omega, ⟨k + 1, a3, c3, rfl, by omega, rfl, by rw [take_succ hx, List.map_append, List.map_singleton, flat_snoc]⟩, (by repeat (first | exact trivial | refine ⟨rfl, ?_⟩)), Imp.pick (by repeat (first | exact Pick.nil | apply Pick.keep (by repeat (first | exact List.Mem.head _ | apply List.Mem.tail)) (by first | exact Pers.cells _ _ _ | exact Pers.slv _ _ _) | apply Pick.cons (by repeat (first | exact Pick1.here | apply Pick1.there))))⟩
          · simp only [decide_eq_false_iff_not] at h4
            have hk' : (EN.others (⟨(mn : Int), vote, 1, -1, conf, [(mn : Int)], term, commit, base, bt, es, heard, next, mtch⟩ : EN)).length ≤ k := by omega
            refine WPC.exit ?_
            refine thenQ_e ?_
            refine thenQ_e ?_
            refine blockQ_here ?_
            refine thenQ_n ?_
            refine WPC.seqR ?_
            refine L_s (q_move rfl) rfl ?_
            refine L_s (q_assign rfl) rfl ?_
            refine WPL.nil ?_
            refine WPC.ret ?_
            have hk2 : k = (EN.others (⟨(mn : Int), vote, 1, -1, conf, [(mn : Int)], term, commit, base, bt, es, heard, next, mtch⟩ : EN)).length := Nat.le_antisymm hk hk'
            have e1 : EN.toAll (⟨(mn : Int), vote, 1, -1, conf, [(mn : Int)], term, commit, base, bt, es, heard, next, mtch⟩ : EN) (msg 3 0 0 (term + 1) (base + (en : Int)) (lgLastTerm bt es) false) = ((EN.others (⟨(mn : Int), vote, 1, -1, conf, [(mn : Int)], term, commit, base, bt, es, heard, next, mtch⟩ : EN)).take k).map (fun i => ({ (msg 3 0 0 (term + 1) (base + (en : Int)) (lgLastTerm bt es) false) with fr := (mn : Int), to := i } : RM)) := by rw [hk2, List.take_length]; rfl
            have e2 : (EN.toAll (⟨(mn : Int), vote, 1, -1, conf, [(mn : Int)], term, commit, base, bt, es, heard, next, mtch⟩ : EN) (msg 3 0 0 (term + 1) (base + (en : Int)) (lgLastTerm bt es) false)).length = k := by rw [EN.toAll, List.length_map, hk2]
            rw [ef]
            simp only [e2]
            rw [e1]
            exact endR_r rfl (.tmp rfl .nil) ((Imp.pick (by repeat (first | exact Pick.nil | apply Pick.keep (by repeat (first | exact List.Mem.head _ | apply List.Mem.tail)) (by first | exact Pers.cells _ _ _ | exact Pers.slv _ _ _) | apply Pick.cons (by repeat (first | exact Pick1.here | apply Pick1.there))))).trans (rnode_close3 (x := (⟨(mn : Int), vote, 1, -1, conf, [(mn : Int)], term, commit, base, bt, es, heard, next, mtch⟩ : EN)) (b := b) (o := o) (⟨ca, cn, cc, some ⟨bY, 0, none⟩, 1, 1, ea, en, ec⟩ : RL) ⟨hc, hcn, hy, by (show 1 < _; omega), he, hen, hnx, hmt⟩ (Γ := [buf 10 a2 k c2 ((((EN.others (⟨(mn : Int), vote, 1, -1, conf, [(mn : Int)], term, commit, base, bt, es, heard, next, mtch⟩ : EN)).take k).map (fun i => ({ (msg 3 0 0 (term + 1) (base + (en : Int)) (lgLastTerm bt es) false) with fr := (mn : Int), to := i } : RM))).flatMap encM)]))) ⟨a2, c2, rfl, rfl⟩

end Go.Sl
