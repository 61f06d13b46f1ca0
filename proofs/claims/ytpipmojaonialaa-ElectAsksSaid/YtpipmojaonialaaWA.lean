/- Walks: asking. -/
import Derived.Test.YtpipmojaonialaaWN
namespace Go.Sl
open Go Go.RowKit Go.Proofs
set_option linter.unusedSimpArgs false
set_option linter.unusedVariables false
attribute [local irreducible] faB szB ldB zB zL slB mkB arB plB intB cells objc star stars buf slv grp whole Sat WPC WPL WPA WPO Trip

theorem c_chosenL {b o : Nat} {x : EN} (hx : x.fits) (hr : x.role ≠ 1) : Trip Try.prog 32 #[.pointer (some ⟨b, o, none⟩)] [enode b o x] fun r Δ => ∃ (a : Option Addr) (c : Nat), r = .slice a 0 c ∧ Δ = [enode b o x.lead5, buf 10 a 0 c []] := by
  have hx' := hx
  obtain ⟨me, vote, role, lead, conf, yes, term, commit, base, bt, es, heard, next, mtch⟩ := x
  dsimp only at hr
  obtain ⟨hme, hterm, hbase, hes, hys⟩ := hx
  dsimp only at hme hterm hbase hes
  obtain ⟨mn, rfl⟩ : ∃ mn : Nat, me = (mn : Int) := ⟨me.toNat, by omega⟩
  refine enode_open fun L hL => ?_
  obtain ⟨ca, cn, cc, ya, yn, yc, ea, en, ec, na, ma⟩ := L
  obtain ⟨hc, hcn, he, hen, hnx, hmt⟩ := hL
  dsimp only at hc hcn he hen hnx hmt
  dsimp only [nodeC]
  have hel : es.length = en := by have := he.len; rw [flat_length encE_len] at this; omega
  refine Trip.start 12 [.tmp 2] [(0, .pointer (some ⟨b, o, none⟩))] Try.func32 rfl Try.ntmps32 rfl ⟨rfl, trivial⟩ rfl ?_
  refine WPC.seqR ?_
  refine L_s (q_assign rfl) rfl ?_
  refine WPL.nil ?_
  refine WPC.seq ?_
  refine WPC.seqR ?_
  refine L_s (q_move rfl) rfl ?_
  first | refine L_s (q_nilP rfl) rfl ?_ | refine L_s (q_nilF rfl) rfl ?_
  first | refine L_s (q_faK fa_elect_Node_Role rfl) rfl ?_ | refine L_s (q_fa fa_elect_Node_Role rfl) rfl ?_
  first | refine L_s (q_load1z ld_int rfl (by repeat (first | exact List.Mem.head _ | apply List.Mem.tail)) (by rfl)) rfl ?_ | refine L_s (q_load1 ld_int rfl (by repeat (first | exact List.Mem.head _ | apply List.Mem.tail)) rfl (by rfl)) rfl ?_
  refine L_s (q_int rfl rfl rfl) rfl ?_
  refine WPL.nil ?_
  refine WPC.cond rfl (fun h0 => ?_) (fun h0 => ?_)
  · try simp only [decide_eq_true_eq, decide_eq_false_iff_not, beq_iff_eq, bne_iff_ne, beq_eq_false_iff_ne, bne_eq_false_iff_eq, Bool.not_eq_true', Bool.not_eq_false', Bool.not_eq_eq_eq_not, Bool.not_true, Bool.not_false, ne_eq, Decidable.not_not, Int.not_lt, Int.not_le, gt_iff_lt, ge_iff_le] at h0
    exact absurd h0 hr
  · try simp only [decide_eq_true_eq, decide_eq_false_iff_not, beq_iff_eq, bne_iff_ne, beq_eq_false_iff_ne, bne_eq_false_iff_eq, Bool.not_eq_true', Bool.not_eq_false', Bool.not_eq_eq_eq_not, Bool.not_true, Bool.not_false, ne_eq, Decidable.not_not, Int.not_lt, Int.not_le, gt_iff_lt, ge_iff_le] at h0
    refine WPC.skip ?_
    refine thenQ_n ?_
    refine WPC.seqR ?_
    refine L_s (q_move rfl) rfl ?_
    refine WPL.imp ((Imp.pick (by repeat (first | exact Pick.nil | apply Pick.keep (by repeat (first | exact List.Mem.head _ | apply List.Mem.tail)) (by first | exact Pers.cells _ _ _ | exact Pers.slv _ _ _) | apply Pick.cons (by repeat (first | exact Pick1.here | apply Pick1.there))))).trans (enode_close (x := (⟨(mn : Int), vote, role, lead, conf, yes, term, commit, base, bt, es, heard, next, mtch⟩ : EN)) (b := b) (o := o) ⟨ca, cn, cc, ya, yn, yc, ea, en, ec, na, ma⟩ ⟨hc, hcn, he, hen, hnx, hmt⟩ (Γ := []))) ?_
    refine WPL.cons rfl (C1.call (c_call Try.func53 rfl rfl rfl) (c_lead hx') (by repeat (first | exact Pick.nil | apply Pick.keep (by repeat (first | exact List.Mem.head _ | apply List.Mem.tail)) (by first | exact Pers.cells _ _ _ | exact Pers.slv _ _ _) | apply Pick.cons (by repeat (first | exact Pick1.here | apply Pick1.there)))) rfl ?_)
    rintro _ _ ⟨rfl, rfl⟩
    refine WPL.putS ?_
    refine WPL.nil ?_
    refine WPC.seqR ?_
    refine L_s (q_assign rfl) rfl ?_
    refine WPL.nil ?_
    refine WPC.imp (Imp.bufNil (sz := 10)) ?_
    refine WPC.ret ?_
    exact endR_r rfl (.tmp rfl .nil) (Imp.pick (by repeat (first | exact Pick.nil | apply Pick.keep (by repeat (first | exact List.Mem.head _ | apply List.Mem.tail)) (by first | exact Pers.cells _ _ _ | exact Pers.slv _ _ _) | apply Pick.cons (by repeat (first | exact Pick1.here | apply Pick1.there))))) ⟨none, 0, rfl, rfl⟩

theorem c_AskR {b o : Nat} {x : EN} (hx : x.fits) (ht : x.term + 1 < 2305843009213693952) : Trip Try.prog 8 #[.pointer (some ⟨b, o, none⟩), .bool true] [enode b o x] fun r Δ => ∃ (a : Option Addr) (c : Nat), r = .slice a x.askR.2.length c ∧ Δ = [enode b o x.askR.1, buf 10 a x.askR.2.length c (x.askR.2.flatMap encM)] := by
  obtain ⟨me, vote, role, lead, conf, yes, term, commit, base, bt, es, heard, next, mtch⟩ := x
  obtain ⟨hme, hterm, hbase, hes, hys⟩ := hx
  dsimp only at ht hme hterm hbase hes
  obtain ⟨mn, rfl⟩ : ∃ mn : Nat, me = (mn : Int) := ⟨me.toNat, by omega⟩
  refine enode_open fun L hL => ?_
  obtain ⟨ca, cn, cc, ya, yn, yc, ea, en, ec, na, ma⟩ := L
  obtain ⟨hc, hcn, he, hen, hnx, hmt⟩ := hL
  dsimp only at hc hcn he hen hnx hmt
  dsimp only [nodeC]
  have hel : es.length = en := by have := he.len; rw [flat_length encE_len] at this; omega
  have hb : 0 ≤ base ∧ base ≤ 4611686018427387904 := by omega
  refine Trip.start 80 [.tmp 4] [(0, .pointer (some ⟨b, o, none⟩)), (1, .bool true)] Try.func8 rfl Try.ntmps8 rfl ⟨rfl, rfl, trivial⟩ rfl ?_
  refine WPC.seqR ?_
  refine L_s (q_assign rfl) rfl ?_
  refine WPL.nil ?_
  refine WPC.seq ?_
  refine WPC.seqD mixed ?_
  refine WPA.takeP 0 rfl (q_move rfl) (by kernel_rfl) (by kernel_rfl) (by kernel_rfl) rfl rfl (.nil _) ?_
  refine WPA.putS ?_
  first | refine WPA.takeP 1 rfl (q_nilP rfl) (by kernel_rfl) (by kernel_rfl) (by kernel_rfl) rfl rfl (.nil _) ?_ | refine WPA.takeP 1 rfl (q_nilF rfl) (by kernel_rfl) (by kernel_rfl) (by kernel_rfl) rfl rfl (.nil _) ?_
  refine WPA.putS ?_
  first | refine WPA.takeP 2 rfl (q_faK fa_elect_Node_Conf rfl) (by kernel_rfl) (by kernel_rfl) (by kernel_rfl) rfl rfl (.nil _) ?_ | refine WPA.takeP 2 rfl (q_fa fa_elect_Node_Conf rfl) (by kernel_rfl) (by kernel_rfl) (by kernel_rfl) rfl rfl (.nil _) ?_
  refine WPA.putS ?_
  first | refine WPA.takeL 3 rfl (Ent.mem (by repeat (first | exact List.Mem.head _ | apply List.Mem.tail))) (q_load1z ld_sl_int rfl (.head _) (by rfl)) (by kernel_rfl) (by kernel_rfl) (by kernel_rfl) rfl rfl (.nil _) ?_ | refine WPA.takeL 3 rfl (Ent.mem (by repeat (first | exact List.Mem.head _ | apply List.Mem.tail))) (q_load1 ld_sl_int rfl (.head _) rfl (by rfl)) (by kernel_rfl) (by kernel_rfl) (by kernel_rfl) rfl rfl (.nil _) ?_
  refine WPA.putS ?_
  refine WPA.takeP 4 rfl (q_move rfl) (by kernel_rfl) (by kernel_rfl) (by kernel_rfl) rfl rfl (.cons (Ent.mem (by repeat (first | exact List.Mem.head _ | apply List.Mem.tail))) (.nil _)) ?_
  refine WPA.putS ?_
  first | refine WPA.takeP 5 rfl (q_nilP rfl) (by kernel_rfl) (by kernel_rfl) (by kernel_rfl) rfl rfl (.cons (Ent.mem (by repeat (first | exact List.Mem.head _ | apply List.Mem.tail))) (.nil _)) ?_ | refine WPA.takeP 5 rfl (q_nilF rfl) (by kernel_rfl) (by kernel_rfl) (by kernel_rfl) rfl rfl (.cons (Ent.mem (by repeat (first | exact List.Mem.head _ | apply List.Mem.tail))) (.nil _)) ?_
  refine WPA.putS ?_
  first | refine WPA.takeP 6 rfl (q_faK fa_elect_Node_Me rfl) (by kernel_rfl) (by kernel_rfl) (by kernel_rfl) rfl rfl (.cons (Ent.mem (by repeat (first | exact List.Mem.head _ | apply List.Mem.tail))) (.nil _)) ?_ | refine WPA.takeP 6 rfl (q_fa fa_elect_Node_Me rfl) (by kernel_rfl) (by kernel_rfl) (by kernel_rfl) rfl rfl (.cons (Ent.mem (by repeat (first | exact List.Mem.head _ | apply List.Mem.tail))) (.nil _)) ?_
  refine WPA.putS ?_
  first | refine WPA.takeL 7 rfl (Ent.mem (by repeat (first | exact List.Mem.head _ | apply List.Mem.tail))) (q_load1z ld_int rfl (.head _) (by rfl)) (by kernel_rfl) (by kernel_rfl) (by kernel_rfl) rfl rfl (.cons (Ent.mem (by repeat (first | exact List.Mem.head _ | apply List.Mem.tail))) (.nil _)) ?_ | refine WPA.takeL 7 rfl (Ent.mem (by repeat (first | exact List.Mem.head _ | apply List.Mem.tail))) (q_load1 ld_int rfl (.head _) rfl (by rfl)) (by kernel_rfl) (by kernel_rfl) (by kernel_rfl) rfl rfl (.cons (Ent.mem (by repeat (first | exact List.Mem.head _ | apply List.Mem.tail))) (.nil _)) ?_
  refine WPA.putS ?_
  refine WPA.oneE 8 [] (by kernel_rfl) rfl rfl (by repeat (first | exact .nil | refine .anc rfl ?_ | refine .keep (by repeat (first | exact List.Mem.head _ | apply List.Mem.tail)) ?_)) (C1.call (c_call Try.func28 rfl rfl rfl) (c_Contains hc hcn mn) (by repeat (first | exact Pick.nil | apply Pick.keep (by repeat (first | exact List.Mem.head _ | apply List.Mem.tail)) (by first | exact Pers.cells _ _ _ | exact Pers.slv _ _ _) | apply Pick.cons (by repeat (first | exact Pick1.here | apply Pick1.there)))) rfl ?_)
  rintro _ _ ⟨rfl, rfl⟩
  refine ⟨(.nil _), ?_⟩
  refine WPA.putS ?_
  refine WPA.takeP 9 rfl (q_not rfl) (by kernel_rfl) (by kernel_rfl) (by kernel_rfl) rfl rfl (.nil _) ?_
  refine WPA.putS ?_
  refine WPA.done (by kernel_rfl) ?_
  refine WPC.cond rfl (fun h0 => ?_) (fun h0 => ?_)
  · simp only [Bool.not_eq_true', decide_eq_false_iff_not] at h0
    refine WPC.seqR ?_
    refine L_s (q_assign rfl) rfl ?_
    refine WPL.nil ?_
    refine WPC.ret ?_
    refine thenQ_r ?_
    rw [show EN.askR (⟨(mn : Int), vote, role, lead, conf, yes, term, commit, base, bt, es, heard, next, mtch⟩ : EN) = ((⟨(mn : Int), vote, role, lead, conf, yes, term, commit, base, bt, es, heard, next, mtch⟩ : EN), []) by simp [EN.askR, h0]]
    exact endR_r rfl (.tmp rfl .nil) ((Imp.bufNil (sz := 10)).trans ((Imp.pick (by repeat (first | exact Pick.nil | apply Pick.keep (by repeat (first | exact List.Mem.head _ | apply List.Mem.tail)) (by first | exact Pers.cells _ _ _ | exact Pers.slv _ _ _) | apply Pick.cons (by repeat (first | exact Pick1.here | apply Pick1.there))))).trans (enode_close ⟨ca, cn, cc, ya, yn, yc, ea, en, ec, na, ma⟩ ⟨hc, hcn, he, hen, hnx, hmt⟩ (Γ := [buf 10 none 0 0 []])))) ⟨none, 0, rfl, rfl⟩
  · simp only [Bool.not_eq_false', decide_eq_true_eq] at h0
    refine WPC.skip ?_
    refine thenQ_n ?_
    refine WPC.seqD mixed ?_
    refine WPA.takeP 0 rfl (q_move rfl) (by kernel_rfl) (by kernel_rfl) (by kernel_rfl) rfl rfl (.nil _) ?_
    refine WPA.putS ?_
    first | refine WPA.takeP 1 rfl (q_nilP rfl) (by kernel_rfl) (by kernel_rfl) (by kernel_rfl) rfl rfl (.nil _) ?_ | refine WPA.takeP 1 rfl (q_nilF rfl) (by kernel_rfl) (by kernel_rfl) (by kernel_rfl) rfl rfl (.nil _) ?_
    refine WPA.putS ?_
    first | refine WPA.takeP 2 rfl (q_faK fa_elect_Node_Term rfl) (by kernel_rfl) (by kernel_rfl) (by kernel_rfl) rfl rfl (.nil _) ?_ | refine WPA.takeP 2 rfl (q_fa fa_elect_Node_Term rfl) (by kernel_rfl) (by kernel_rfl) (by kernel_rfl) rfl rfl (.nil _) ?_
    refine WPA.putS ?_
    first | refine WPA.takeL 3 rfl (Ent.mem (by repeat (first | exact List.Mem.head _ | apply List.Mem.tail))) (q_load1z ld_uint64 rfl (.head _) (by rfl)) (by kernel_rfl) (by kernel_rfl) (by kernel_rfl) rfl rfl (.nil _) ?_ | refine WPA.takeL 3 rfl (Ent.mem (by repeat (first | exact List.Mem.head _ | apply List.Mem.tail))) (q_load1 ld_uint64 rfl (.head _) rfl (by rfl)) (by kernel_rfl) (by kernel_rfl) (by kernel_rfl) rfl rfl (.nil _) ?_
    refine WPA.putS ?_
    first | refine WPA.takeP 4 rfl (q_addU rfl rfl (by omega)) (by kernel_rfl) (by kernel_rfl) (by kernel_rfl) rfl rfl (.cons (Ent.mem (by repeat (first | exact List.Mem.head _ | apply List.Mem.tail))) (.nil _)) ?_ | refine WPA.takeP 4 rfl (q_int rfl rfl rfl) (by kernel_rfl) (by kernel_rfl) (by kernel_rfl) rfl rfl (.cons (Ent.mem (by repeat (first | exact List.Mem.head _ | apply List.Mem.tail))) (.nil _)) ?_
    refine WPA.putS ?_
    refine WPA.takeP 5 rfl (q_move rfl) (by kernel_rfl) (by kernel_rfl) (by kernel_rfl) rfl rfl (.cons (Ent.mem (by repeat (first | exact List.Mem.head _ | apply List.Mem.tail))) (.nil _)) ?_
    refine WPA.putS ?_
    first | refine WPA.takeP 6 rfl (q_nilP rfl) (by kernel_rfl) (by kernel_rfl) (by kernel_rfl) rfl rfl (.cons (Ent.mem (by repeat (first | exact List.Mem.head _ | apply List.Mem.tail))) (.nil _)) ?_ | refine WPA.takeP 6 rfl (q_nilF rfl) (by kernel_rfl) (by kernel_rfl) (by kernel_rfl) rfl rfl (.cons (Ent.mem (by repeat (first | exact List.Mem.head _ | apply List.Mem.tail))) (.nil _)) ?_
    refine WPA.putS ?_
    first | refine WPA.takeP 7 rfl (q_faK fa_elect_Node_Log rfl) (by kernel_rfl) (by kernel_rfl) (by kernel_rfl) rfl rfl (.cons (Ent.mem (by repeat (first | exact List.Mem.head _ | apply List.Mem.tail))) (.nil _)) ?_ | refine WPA.takeP 7 rfl (q_fa fa_elect_Node_Log rfl) (by kernel_rfl) (by kernel_rfl) (by kernel_rfl) rfl rfl (.cons (Ent.mem (by repeat (first | exact List.Mem.head _ | apply List.Mem.tail))) (.nil _)) ?_
    refine WPA.putS ?_
    first | refine WPA.takeL 8 rfl (Ent.mem (by repeat (first | exact List.Mem.head _ | apply List.Mem.tail))) (q_loadNz (us := [_, _, _]) ld_terms_Log rfl (.head _) (by exact ⟨rfl, rfl⟩)) (by kernel_rfl) (by kernel_rfl) (by kernel_rfl) rfl rfl (.cons (Ent.mem (by repeat (first | exact List.Mem.head _ | apply List.Mem.tail))) (.nil _)) ?_ | refine WPA.takeL 8 rfl (Ent.mem (by repeat (first | exact List.Mem.head _ | apply List.Mem.tail))) (q_loadNk (us := [_, _, _]) ld_terms_Log rfl (.head _) (by exact ⟨rfl, rfl⟩)) (by kernel_rfl) (by kernel_rfl) (by kernel_rfl) rfl rfl (.cons (Ent.mem (by repeat (first | exact List.Mem.head _ | apply List.Mem.tail))) (.nil _)) ?_
    refine WPA.putS ?_
    refine WPA.takeP 10 rfl (q_move rfl) (by kernel_rfl) (by kernel_rfl) (by kernel_rfl) rfl rfl (.cons (Ent.mem (by repeat (first | exact List.Mem.head _ | apply List.Mem.tail))) (.cons (Ent.mem (by repeat (first | exact List.Mem.head _ | apply List.Mem.tail))) (.nil _))) ?_
    refine WPA.putS ?_
    first | refine WPA.takeP 11 rfl (q_nilP rfl) (by kernel_rfl) (by kernel_rfl) (by kernel_rfl) rfl rfl (.cons (Ent.mem (by repeat (first | exact List.Mem.head _ | apply List.Mem.tail))) (.cons (Ent.mem (by repeat (first | exact List.Mem.head _ | apply List.Mem.tail))) (.nil _))) ?_ | refine WPA.takeP 11 rfl (q_nilF rfl) (by kernel_rfl) (by kernel_rfl) (by kernel_rfl) rfl rfl (.cons (Ent.mem (by repeat (first | exact List.Mem.head _ | apply List.Mem.tail))) (.cons (Ent.mem (by repeat (first | exact List.Mem.head _ | apply List.Mem.tail))) (.nil _))) ?_
    refine WPA.putS ?_
    first | refine WPA.takeP 12 rfl (q_faK fa_elect_Node_Log rfl) (by kernel_rfl) (by kernel_rfl) (by kernel_rfl) rfl rfl (.cons (Ent.mem (by repeat (first | exact List.Mem.head _ | apply List.Mem.tail))) (.cons (Ent.mem (by repeat (first | exact List.Mem.head _ | apply List.Mem.tail))) (.nil _))) ?_ | refine WPA.takeP 12 rfl (q_fa fa_elect_Node_Log rfl) (by kernel_rfl) (by kernel_rfl) (by kernel_rfl) rfl rfl (.cons (Ent.mem (by repeat (first | exact List.Mem.head _ | apply List.Mem.tail))) (.cons (Ent.mem (by repeat (first | exact List.Mem.head _ | apply List.Mem.tail))) (.nil _))) ?_
    refine WPA.putS ?_
    first | refine WPA.takeL 13 rfl (Ent.mem (by repeat (first | exact List.Mem.head _ | apply List.Mem.tail))) (q_loadNz (us := [_, _, _]) ld_terms_Log rfl (.head _) (by exact ⟨rfl, rfl⟩)) (by kernel_rfl) (by kernel_rfl) (by kernel_rfl) rfl rfl (.cons (Ent.mem (by repeat (first | exact List.Mem.head _ | apply List.Mem.tail))) (.cons (Ent.mem (by repeat (first | exact List.Mem.head _ | apply List.Mem.tail))) (.nil _))) ?_ | refine WPA.takeL 13 rfl (Ent.mem (by repeat (first | exact List.Mem.head _ | apply List.Mem.tail))) (q_loadNk (us := [_, _, _]) ld_terms_Log rfl (.head _) (by exact ⟨rfl, rfl⟩)) (by kernel_rfl) (by kernel_rfl) (by kernel_rfl) rfl rfl (.cons (Ent.mem (by repeat (first | exact List.Mem.head _ | apply List.Mem.tail))) (.cons (Ent.mem (by repeat (first | exact List.Mem.head _ | apply List.Mem.tail))) (.nil _))) ?_
    refine WPA.putS ?_
    refine WPA.two 9 16 (by kernel_rfl) ?_ ?_
    · refine Eff.mk 9 [(13, [_]), (3, [_])] rfl rfl (by repeat (first | exact .nil | refine .anc rfl ?_ | refine .keep (by repeat (first | exact List.Mem.head _ | apply List.Mem.tail)) ?_)) (C1.call (c_call Try.func29 rfl rfl rfl) (c_Last hb hen) (by repeat (first | exact Pick.nil | apply Pick.keep (by repeat (first | exact List.Mem.head _ | apply List.Mem.tail)) (by first | exact Pers.cells _ _ _ | exact Pers.slv _ _ _) | apply Pick.cons (by repeat (first | exact Pick1.here | apply Pick1.there)))) rfl ?_)
      rintro _ _ ⟨rfl, rfl⟩
      refine ⟨(.cons (Ent.mem (by repeat (first | exact List.Mem.head _ | apply List.Mem.tail))) (.cons (Ent.mem (by repeat (first | exact List.Mem.head _ | apply List.Mem.tail))) (.nil _))), ?_⟩
      refine WPA.putS ?_
      refine WPA.two 14 16 (by kernel_rfl) ?_ ?_
      · refine Eff.mk 14 [(3, [_])] rfl rfl (by repeat (first | exact .nil | refine .anc rfl ?_ | refine .keep (by repeat (first | exact List.Mem.head _ | apply List.Mem.tail)) ?_)) (C1.call (c_call Try.func30 rfl rfl rfl) (c_LastTerm he hb hen) (by repeat (first | exact Pick.nil | apply Pick.keep (by repeat (first | exact List.Mem.head _ | apply List.Mem.tail)) (by first | exact Pers.cells _ _ _ | exact Pers.slv _ _ _) | apply Pick.cons (by repeat (first | exact Pick1.here | apply Pick1.there)))) rfl ?_)
        rintro _ _ ⟨rfl, rfl⟩
        refine ⟨(.cons (Ent.mem (by repeat (first | exact List.Mem.head _ | apply List.Mem.tail))) (.nil _)), ?_⟩
        refine WPA.putS ?_
        refine WPA.takeP 15 rfl (q_build (cs := [_, _, _, _, _, _, _, _, _, _]) pl_api_Msg rfl rfl) (by kernel_rfl) (by kernel_rfl) (by kernel_rfl) rfl rfl (.cons (Ent.mem (by repeat (first | exact List.Mem.head _ | apply List.Mem.tail))) (.nil _)) ?_
        refine WPA.putS ?_
        refine WPA.oneE 16 [(3, [_])] (by kernel_rfl) rfl rfl (by repeat (first | exact .nil | refine .anc rfl ?_ | refine .keep (by repeat (first | exact List.Mem.head _ | apply List.Mem.tail)) ?_)) (E1.wpo (e_allocL zl_api_Msg) rfl ?_)
        rintro _ _ ⟨bm, rfl, rfl⟩
        refine ⟨(.cons (Ent.mem (by repeat (first | exact List.Mem.head _ | apply List.Mem.tail))) (.nil _)), ?_⟩
        refine WPA.putS ?_
        refine WPA.oneE 17 [] (by kernel_rfl) rfl rfl (by repeat (first | exact .nil | refine .anc rfl ?_ | refine .keep (by repeat (first | exact List.Mem.head _ | apply List.Mem.tail)) ?_)) (S1.wpo (s_storeNz sz_api_Msg rfl rfl (by simp [Value.oneCell']) rfl (by repeat (first | exact Upd.here | apply Upd.there)) (by repeat constructor)) rfl ?_)
        refine ⟨(.nil _), ?_⟩
        refine WPA.putN ?_
        refine WPA.done (by kernel_rfl) ?_
        refine WPC.seqR ?_
        refine L_s (q_move rfl) rfl ?_
        first | refine L_s (q_nilP rfl) rfl ?_ | refine L_s (q_nilF rfl) rfl ?_
        first | refine L_s (q_faK fa_elect_Node_Role rfl) rfl ?_ | refine L_s (q_fa fa_elect_Node_Role rfl) rfl ?_
        refine WPL.cons rfl (S1.wpo (s_store1k sz_int rfl rfl rfl rfl (by repeat (first | exact Upd.here | apply Upd.there)) (by repeat constructor)) rfl ?_)
        refine WPL.putN ?_
        refine WPL.nil ?_
        refine WPC.prune [(0, _), (1, _), (4, _), (5, _)] (by repeat (first | exact trivial | refine ⟨rfl, ?_⟩)) ?_
        refine WPC.seq ?_
        refine WPC.seqR ?_
        refine L_s (q_move rfl) rfl ?_
        refine WPL.nil ?_
        refine WPC.cond rfl (fun h1 => ?_) (fun h1 => ?_)
        · try simp only [decide_eq_true_eq, decide_eq_false_iff_not, beq_iff_eq, bne_iff_ne, beq_eq_false_iff_ne, bne_eq_false_iff_eq, Bool.not_eq_true', Bool.not_eq_false', Bool.not_eq_eq_eq_not, Bool.not_true, Bool.not_false, ne_eq, Decidable.not_not, Int.not_lt, Int.not_le, gt_iff_lt, ge_iff_le] at h1
          refine WPC.seqD mixed ?_
          refine WPA.takeP 0 rfl (q_move rfl) (by kernel_rfl) (by kernel_rfl) (by kernel_rfl) rfl rfl (.nil _) ?_
          refine WPA.putS ?_
          refine WPA.takeP 1 rfl (q_move rfl) (by kernel_rfl) (by kernel_rfl) (by kernel_rfl) rfl rfl (.nil _) ?_
          refine WPA.putS ?_
          refine WPA.takeP 2 rfl (q_move rfl) (by kernel_rfl) (by kernel_rfl) (by kernel_rfl) rfl rfl (.nil _) ?_
          refine WPA.putS ?_
          refine WPA.takeP 3 rfl (q_move rfl) (by kernel_rfl) (by kernel_rfl) (by kernel_rfl) rfl rfl (.nil _) ?_
          refine WPA.putS ?_
          first | refine WPA.takeP 4 rfl (q_nilP rfl) (by kernel_rfl) (by kernel_rfl) (by kernel_rfl) rfl rfl (.nil _) ?_ | refine WPA.takeP 4 rfl (q_nilF rfl) (by kernel_rfl) (by kernel_rfl) (by kernel_rfl) rfl rfl (.nil _) ?_
          refine WPA.putS ?_
          first | refine WPA.takeP 5 rfl (q_faK fa_elect_Node_Term rfl) (by kernel_rfl) (by kernel_rfl) (by kernel_rfl) rfl rfl (.nil _) ?_ | refine WPA.takeP 5 rfl (q_fa fa_elect_Node_Term rfl) (by kernel_rfl) (by kernel_rfl) (by kernel_rfl) rfl rfl (.nil _) ?_
          refine WPA.putS ?_
          first | refine WPA.takeL 6 rfl (Ent.mem (by repeat (first | exact List.Mem.head _ | apply List.Mem.tail))) (q_load1z ld_uint64 rfl (.head _) (by rfl)) (by kernel_rfl) (by kernel_rfl) (by kernel_rfl) rfl rfl (.nil _) ?_ | refine WPA.takeL 6 rfl (Ent.mem (by repeat (first | exact List.Mem.head _ | apply List.Mem.tail))) (q_load1 ld_uint64 rfl (.head _) rfl (by rfl)) (by kernel_rfl) (by kernel_rfl) (by kernel_rfl) rfl rfl (.nil _) ?_
          refine WPA.putS ?_
          first | refine WPA.takeP 7 rfl (q_addU rfl rfl (by omega)) (by kernel_rfl) (by kernel_rfl) (by kernel_rfl) rfl rfl (.cons (Ent.mem (by repeat (first | exact List.Mem.head _ | apply List.Mem.tail))) (.nil _)) ?_ | refine WPA.takeP 7 rfl (q_int rfl rfl rfl) (by kernel_rfl) (by kernel_rfl) (by kernel_rfl) rfl rfl (.cons (Ent.mem (by repeat (first | exact List.Mem.head _ | apply List.Mem.tail))) (.nil _)) ?_
          refine WPA.putS ?_
          refine WPA.takeP 8 rfl (q_move rfl) (by kernel_rfl) (by kernel_rfl) (by kernel_rfl) rfl rfl (.cons (Ent.mem (by repeat (first | exact List.Mem.head _ | apply List.Mem.tail))) (.nil _)) ?_
          refine WPA.putS ?_
          first | refine WPA.takeP 9 rfl (q_nilP rfl) (by kernel_rfl) (by kernel_rfl) (by kernel_rfl) rfl rfl (.cons (Ent.mem (by repeat (first | exact List.Mem.head _ | apply List.Mem.tail))) (.nil _)) ?_ | refine WPA.takeP 9 rfl (q_nilF rfl) (by kernel_rfl) (by kernel_rfl) (by kernel_rfl) rfl rfl (.cons (Ent.mem (by repeat (first | exact List.Mem.head _ | apply List.Mem.tail))) (.nil _)) ?_
          refine WPA.putS ?_
          first | refine WPA.takeP 10 rfl (q_faK fa_elect_Node_Me rfl) (by kernel_rfl) (by kernel_rfl) (by kernel_rfl) rfl rfl (.cons (Ent.mem (by repeat (first | exact List.Mem.head _ | apply List.Mem.tail))) (.nil _)) ?_ | refine WPA.takeP 10 rfl (q_fa fa_elect_Node_Me rfl) (by kernel_rfl) (by kernel_rfl) (by kernel_rfl) rfl rfl (.cons (Ent.mem (by repeat (first | exact List.Mem.head _ | apply List.Mem.tail))) (.nil _)) ?_
          refine WPA.putS ?_
          first | refine WPA.takeL 11 rfl (Ent.mem (by repeat (first | exact List.Mem.head _ | apply List.Mem.tail))) (q_load1z ld_int rfl (.head _) (by rfl)) (by kernel_rfl) (by kernel_rfl) (by kernel_rfl) rfl rfl (.cons (Ent.mem (by repeat (first | exact List.Mem.head _ | apply List.Mem.tail))) (.nil _)) ?_ | refine WPA.takeL 11 rfl (Ent.mem (by repeat (first | exact List.Mem.head _ | apply List.Mem.tail))) (q_load1 ld_int rfl (.head _) rfl (by rfl)) (by kernel_rfl) (by kernel_rfl) (by kernel_rfl) rfl rfl (.cons (Ent.mem (by repeat (first | exact List.Mem.head _ | apply List.Mem.tail))) (.nil _)) ?_
          refine WPA.putS ?_
          first | refine WPA.takeP 12 rfl (q_nilP rfl) (by kernel_rfl) (by kernel_rfl) (by kernel_rfl) rfl rfl (.cons (Ent.mem (by repeat (first | exact List.Mem.head _ | apply List.Mem.tail))) (.cons (Ent.mem (by repeat (first | exact List.Mem.head _ | apply List.Mem.tail))) (.nil _))) ?_ | refine WPA.takeP 12 rfl (q_nilF rfl) (by kernel_rfl) (by kernel_rfl) (by kernel_rfl) rfl rfl (.cons (Ent.mem (by repeat (first | exact List.Mem.head _ | apply List.Mem.tail))) (.cons (Ent.mem (by repeat (first | exact List.Mem.head _ | apply List.Mem.tail))) (.nil _))) ?_
          refine WPA.putS ?_
          first | refine WPA.takeP 13 rfl (q_faK fa_elect_Node_Term rfl) (by kernel_rfl) (by kernel_rfl) (by kernel_rfl) rfl rfl (.cons (Ent.mem (by repeat (first | exact List.Mem.head _ | apply List.Mem.tail))) (.cons (Ent.mem (by repeat (first | exact List.Mem.head _ | apply List.Mem.tail))) (.nil _))) ?_ | refine WPA.takeP 13 rfl (q_fa fa_elect_Node_Term rfl) (by kernel_rfl) (by kernel_rfl) (by kernel_rfl) rfl rfl (.cons (Ent.mem (by repeat (first | exact List.Mem.head _ | apply List.Mem.tail))) (.cons (Ent.mem (by repeat (first | exact List.Mem.head _ | apply List.Mem.tail))) (.nil _))) ?_
          refine WPA.putS ?_
          refine WPA.oneE 14 [] (by kernel_rfl) rfl rfl (by repeat (first | exact .nil | refine .anc rfl ?_ | refine .keep (by repeat (first | exact List.Mem.head _ | apply List.Mem.tail)) ?_)) (S1.wpo (s_store1k sz_uint64 rfl rfl rfl rfl (by repeat (first | exact Upd.here | apply Upd.there)) (by repeat constructor)) rfl ?_)
          refine ⟨(.nil _), ?_⟩
          refine WPA.putN ?_
          first | refine WPA.takeP 15 rfl (q_nilP rfl) (by kernel_rfl) (by kernel_rfl) (by kernel_rfl) rfl rfl (.nil _) ?_ | refine WPA.takeP 15 rfl (q_nilF rfl) (by kernel_rfl) (by kernel_rfl) (by kernel_rfl) rfl rfl (.nil _) ?_
          refine WPA.putS ?_
          first | refine WPA.takeP 16 rfl (q_faK fa_elect_Node_Vote rfl) (by kernel_rfl) (by kernel_rfl) (by kernel_rfl) rfl rfl (.nil _) ?_ | refine WPA.takeP 16 rfl (q_fa fa_elect_Node_Vote rfl) (by kernel_rfl) (by kernel_rfl) (by kernel_rfl) rfl rfl (.nil _) ?_
          refine WPA.putS ?_
          refine WPA.oneE 17 [] (by kernel_rfl) rfl rfl (by repeat (first | exact .nil | refine .anc rfl ?_ | refine .keep (by repeat (first | exact List.Mem.head _ | apply List.Mem.tail)) ?_)) (S1.wpo (s_store1k sz_int rfl rfl rfl rfl (by repeat (first | exact Upd.here | apply Upd.there)) (by repeat constructor)) rfl ?_)
          refine ⟨(.nil _), ?_⟩
          refine WPA.putN ?_
          first | refine WPA.takeP 18 rfl (q_nilP rfl) (by kernel_rfl) (by kernel_rfl) (by kernel_rfl) rfl rfl (.nil _) ?_ | refine WPA.takeP 18 rfl (q_nilF rfl) (by kernel_rfl) (by kernel_rfl) (by kernel_rfl) rfl rfl (.nil _) ?_
          refine WPA.putS ?_
          first | refine WPA.takeP 19 rfl (q_faK fa_elect_Node_Role rfl) (by kernel_rfl) (by kernel_rfl) (by kernel_rfl) rfl rfl (.nil _) ?_ | refine WPA.takeP 19 rfl (q_fa fa_elect_Node_Role rfl) (by kernel_rfl) (by kernel_rfl) (by kernel_rfl) rfl rfl (.nil _) ?_
          refine WPA.putS ?_
          refine WPA.oneE 20 [] (by kernel_rfl) rfl rfl (by repeat (first | exact .nil | refine .anc rfl ?_ | refine .keep (by repeat (first | exact List.Mem.head _ | apply List.Mem.tail)) ?_)) (S1.wpo (s_store1k sz_int rfl rfl rfl rfl (by repeat (first | exact Upd.here | apply Upd.there)) (by repeat constructor)) rfl ?_)
          refine ⟨(.nil _), ?_⟩
          refine WPA.putN ?_
          refine WPA.done (by kernel_rfl) ?_
          refine WPC.region ?_
          first | refine L_s (q_faK fa_api_Msg_Kind rfl) rfl ?_ | refine L_s (q_fa fa_api_Msg_Kind rfl) rfl ?_
          refine WPL.cons rfl (S1.wpo (s_store1z sz_int rfl rfl rfl rfl (by repeat (first | exact Upd.here | apply Upd.there)) (by repeat constructor)) rfl ?_)
          refine WPL.putN ?_
          refine WPL.nil ?_
          refine thenQ_n ?_
          refine WPC.seqR ?_
          refine L_s (q_move rfl) rfl ?_
          refine L_s (q_move rfl) rfl ?_
          refine L_s (q_move rfl) rfl ?_
          first | refine L_s (q_nilP rfl) rfl ?_ | refine L_s (q_nilF rfl) rfl ?_
          first | refine L_s (q_faK fa_elect_Node_Me rfl) rfl ?_ | refine L_s (q_fa fa_elect_Node_Me rfl) rfl ?_
          first | refine L_s (q_load1z ld_int rfl (by repeat (first | exact List.Mem.head _ | apply List.Mem.tail)) (by rfl)) rfl ?_ | refine L_s (q_load1 ld_int rfl (by repeat (first | exact List.Mem.head _ | apply List.Mem.tail)) rfl (by rfl)) rfl ?_
          refine WPL.cons rfl (E1.wpo (e_buildSlice mk_sl_int (by decide) rfl rfl rfl) rfl ?_)
          rintro _ _ ⟨bY, rfl, rfl⟩
          refine WPL.putS ?_
          first | refine L_s (q_nilP rfl) rfl ?_ | refine L_s (q_nilF rfl) rfl ?_
          first | refine L_s (q_faK fa_elect_Node_Lead rfl) rfl ?_ | refine L_s (q_fa fa_elect_Node_Lead rfl) rfl ?_
          refine WPL.cons rfl (S1.wpo (s_store1k sz_int rfl rfl rfl rfl (by repeat (first | exact Upd.here | apply Upd.there)) (by repeat constructor)) rfl ?_)
          refine WPL.putN ?_
          first | refine L_s (q_nilP rfl) rfl ?_ | refine L_s (q_nilF rfl) rfl ?_
          first | refine L_s (q_faK fa_elect_Node_Yes rfl) rfl ?_ | refine L_s (q_fa fa_elect_Node_Yes rfl) rfl ?_
          refine WPL.cons rfl (S1.wpo (s_store1k sz_sl_int rfl rfl rfl rfl (by repeat (first | exact Upd.here | apply Upd.there)) (by repeat constructor)) rfl ?_)
          refine WPL.putN ?_
          refine WPL.nil ?_
          have hy : Sok 1 (some ⟨bY, 0, none⟩) 1 1 ([(mn : Int)].map (.int .i64)) := ⟨rfl, Nat.le_refl _, .inr (Pl.mk _ _)⟩
          refine WPC.prune [(0, _), (4, _), (5, _)] (by repeat (first | exact trivial | refine ⟨rfl, ?_⟩)) ?_
          refine WPC.seq ?_
          refine WPC.seqD mixed ?_
          refine WPA.takeP 0 rfl (q_move rfl) (by kernel_rfl) (by kernel_rfl) (by kernel_rfl) rfl rfl (.nil _) ?_
          refine WPA.putS ?_
          first | refine WPA.takeP 1 rfl (q_nilP rfl) (by kernel_rfl) (by kernel_rfl) (by kernel_rfl) rfl rfl (.nil _) ?_ | refine WPA.takeP 1 rfl (q_nilF rfl) (by kernel_rfl) (by kernel_rfl) (by kernel_rfl) rfl rfl (.nil _) ?_
          refine WPA.putS ?_
          first | refine WPA.takeP 2 rfl (q_faK fa_elect_Node_Conf rfl) (by kernel_rfl) (by kernel_rfl) (by kernel_rfl) rfl rfl (.nil _) ?_ | refine WPA.takeP 2 rfl (q_fa fa_elect_Node_Conf rfl) (by kernel_rfl) (by kernel_rfl) (by kernel_rfl) rfl rfl (.nil _) ?_
          refine WPA.putS ?_
          first | refine WPA.takeL 3 rfl (Ent.mem (by repeat (first | exact List.Mem.head _ | apply List.Mem.tail))) (q_load1z ld_sl_int rfl (.head _) (by rfl)) (by kernel_rfl) (by kernel_rfl) (by kernel_rfl) rfl rfl (.nil _) ?_ | refine WPA.takeL 3 rfl (Ent.mem (by repeat (first | exact List.Mem.head _ | apply List.Mem.tail))) (q_load1 ld_sl_int rfl (.head _) rfl (by rfl)) (by kernel_rfl) (by kernel_rfl) (by kernel_rfl) rfl rfl (.nil _) ?_
          refine WPA.putS ?_
          refine WPA.takeP 4 rfl (q_move rfl) (by kernel_rfl) (by kernel_rfl) (by kernel_rfl) rfl rfl (.cons (Ent.mem (by repeat (first | exact List.Mem.head _ | apply List.Mem.tail))) (.nil _)) ?_
          refine WPA.putS ?_
          first | refine WPA.takeP 5 rfl (q_nilP rfl) (by kernel_rfl) (by kernel_rfl) (by kernel_rfl) rfl rfl (.cons (Ent.mem (by repeat (first | exact List.Mem.head _ | apply List.Mem.tail))) (.nil _)) ?_ | refine WPA.takeP 5 rfl (q_nilF rfl) (by kernel_rfl) (by kernel_rfl) (by kernel_rfl) rfl rfl (.cons (Ent.mem (by repeat (first | exact List.Mem.head _ | apply List.Mem.tail))) (.nil _)) ?_
          refine WPA.putS ?_
          first | refine WPA.takeP 6 rfl (q_faK fa_elect_Node_Yes rfl) (by kernel_rfl) (by kernel_rfl) (by kernel_rfl) rfl rfl (.cons (Ent.mem (by repeat (first | exact List.Mem.head _ | apply List.Mem.tail))) (.nil _)) ?_ | refine WPA.takeP 6 rfl (q_fa fa_elect_Node_Yes rfl) (by kernel_rfl) (by kernel_rfl) (by kernel_rfl) rfl rfl (.cons (Ent.mem (by repeat (first | exact List.Mem.head _ | apply List.Mem.tail))) (.nil _)) ?_
          refine WPA.putS ?_
          first | refine WPA.takeL 7 rfl (Ent.mem (by repeat (first | exact List.Mem.head _ | apply List.Mem.tail))) (q_load1z ld_sl_int rfl (.head _) (by rfl)) (by kernel_rfl) (by kernel_rfl) (by kernel_rfl) rfl rfl (.cons (Ent.mem (by repeat (first | exact List.Mem.head _ | apply List.Mem.tail))) (.nil _)) ?_ | refine WPA.takeL 7 rfl (Ent.mem (by repeat (first | exact List.Mem.head _ | apply List.Mem.tail))) (q_load1 ld_sl_int rfl (.head _) rfl (by rfl)) (by kernel_rfl) (by kernel_rfl) (by kernel_rfl) rfl rfl (.cons (Ent.mem (by repeat (first | exact List.Mem.head _ | apply List.Mem.tail))) (.nil _)) ?_
          refine WPA.putS ?_
          refine WPA.oneE 8 [] (by kernel_rfl) rfl rfl (by repeat (first | exact .nil | refine .anc rfl ?_ | refine .keep (by repeat (first | exact List.Mem.head _ | apply List.Mem.tail)) ?_)) (C1.call (c_call Try.func31 rfl rfl rfl) (c_Agrees (ys := [(mn : Int)]) hc hy hcn (by omega)) (by repeat (first | exact Pick.nil | apply Pick.keep (by repeat (first | exact List.Mem.head _ | apply List.Mem.tail)) (by first | exact Pers.cells _ _ _ | exact Pers.slv _ _ _) | apply Pick.cons (by repeat (first | exact Pick1.here | apply Pick1.there)))) rfl ?_)
          rintro _ _ ⟨rfl, rfl⟩
          refine ⟨(.nil _), ?_⟩
          refine WPA.putS ?_
          refine WPA.done (by kernel_rfl) ?_
          refine WPC.cond rfl (fun h2 => ?_) (fun h2 => ?_)
          · have ef : EN.askR (⟨(mn : Int), vote, role, lead, conf, yes, term, commit, base, bt, es, heard, next, mtch⟩ : EN) = ((⟨(mn : Int), (mn : Int), 2, -1, conf, [(mn : Int)], term + 1, commit, base, bt, es, heard, next, mtch⟩ : EN).lead5, []) := by simp [EN.askR, h0, h2]
            refine WPC.seqR ?_
            refine L_s (q_move rfl) rfl ?_
            refine WPL.imp ((Imp.pick (Δ := cells true bY 0 [.int .i64 (mn : Int)] :: cells true b o (nodeC (⟨(mn : Int), (mn : Int), 2, -1, conf, [(mn : Int)], term + 1, commit, base, bt, es, heard, next, mtch⟩ : EN) (⟨ca, cn, cc, some ⟨bY, 0, none⟩, 1, 1, ea, en, ec, na, ma⟩ : NL)) :: sl false ca (conf.map (.int .i64)) :: sl false ea (es.flatMap encE) :: cells true na 0 (next.map (.int .u64)) :: cells true ma 0 (mtch.map (.int .u64)) :: []) (by repeat (first | exact Pick.nil | apply Pick.keep (by repeat (first | exact List.Mem.head _ | apply List.Mem.tail)) (by first | exact Pers.cells _ _ _ | exact Pers.slv _ _ _) | apply Pick.cons (by repeat (first | exact Pick1.here | apply Pick1.there))))).trans ((Imp.bufNew (sz := 1) (n := 1) rfl).trans ((Imp.pick (by repeat (first | exact Pick.nil | apply Pick.keep (by repeat (first | exact List.Mem.head _ | apply List.Mem.tail)) (by first | exact Pers.cells _ _ _ | exact Pers.slv _ _ _) | apply Pick.cons (by repeat (first | exact Pick1.here | apply Pick1.there))))).trans (enode_close (x := (⟨(mn : Int), (mn : Int), 2, -1, conf, [(mn : Int)], term + 1, commit, base, bt, es, heard, next, mtch⟩ : EN)) (b := b) (o := o) (⟨ca, cn, cc, some ⟨bY, 0, none⟩, 1, 1, ea, en, ec, na, ma⟩ : NL) ⟨hc, hcn, he, hen, hnx, hmt⟩ (Γ := []))))) ?_
            refine WPL.cons rfl (C1.call (c_call Try.func32 rfl rfl rfl) (c_chosenL (x := (⟨(mn : Int), (mn : Int), 2, -1, conf, [(mn : Int)], term + 1, commit, base, bt, es, heard, next, mtch⟩ : EN)) ⟨hme, by dsimp only; omega, hbase, hes, by simp⟩ (by dsimp only; omega)) (by repeat (first | exact Pick.nil | apply Pick.keep (by repeat (first | exact List.Mem.head _ | apply List.Mem.tail)) (by first | exact Pers.cells _ _ _ | exact Pers.slv _ _ _) | apply Pick.cons (by repeat (first | exact Pick1.here | apply Pick1.there)))) rfl ?_)
            rintro _ _ ⟨a, c, rfl, rfl⟩
            refine WPL.putS ?_
            refine L_s (q_assign rfl) rfl ?_
            refine WPL.nil ?_
            refine WPC.ret ?_
            refine thenQ_r ?_
            rw [ef]
            exact endR_r rfl (.tmp rfl .nil) (Imp.pick (by repeat (first | exact Pick.nil | apply Pick.keep (by repeat (first | exact List.Mem.head _ | apply List.Mem.tail)) (by first | exact Pers.cells _ _ _ | exact Pers.slv _ _ _) | apply Pick.cons (by repeat (first | exact Pick1.here | apply Pick1.there))))) ⟨a, c, rfl, rfl⟩
          · have ef : EN.askR (⟨(mn : Int), vote, role, lead, conf, yes, term, commit, base, bt, es, heard, next, mtch⟩ : EN) = ((⟨(mn : Int), (mn : Int), 2, -1, conf, [(mn : Int)], term + 1, commit, base, bt, es, heard, next, mtch⟩ : EN), EN.toAll (⟨(mn : Int), (mn : Int), 2, -1, conf, [(mn : Int)], term + 1, commit, base, bt, es, heard, next, mtch⟩ : EN) (msg 1 0 0 (term + 1) (base + (en : Int)) (lgLastTerm bt es) false)) := by simp [EN.askR, h0, h2, EN.last, hel]
            refine WPC.skip ?_
            refine thenQ_n ?_
            refine WPC.seqR ?_
            refine L_s (q_move rfl) rfl ?_
            first | refine L_s (q_loadNz (us := [_, _, _, _, _, _, _, _, _, _]) ld_api_Msg rfl (by repeat (first | exact List.Mem.head _ | apply List.Mem.tail)) (by exact ⟨rfl, rfl⟩)) rfl ?_ | refine L_s (q_loadNk (us := [_, _, _, _, _, _, _, _, _, _]) ld_api_Msg rfl (by repeat (first | exact List.Mem.head _ | apply List.Mem.tail)) (by exact ⟨rfl, rfl⟩)) rfl ?_
            refine WPL.cons rfl (C1.call (c_call Try.func33 rfl rfl rfl) (c_toAll (x := (⟨(mn : Int), (mn : Int), 2, -1, conf, [(mn : Int)], term + 1, commit, base, bt, es, heard, next, mtch⟩ : EN)) (L := (⟨ca, cn, cc, some ⟨bY, 0, none⟩, 1, 1, ea, en, ec, na, ma⟩ : NL)) hc hcn (msg 1 0 0 (term + 1) (base + (en : Int)) (lgLastTerm bt es) false)) (by repeat (first | exact Pick.nil | apply Pick.keep (by repeat (first | exact List.Mem.head _ | apply List.Mem.tail)) (by first | exact Pers.cells _ _ _ | exact Pers.slv _ _ _) | apply Pick.cons (by repeat (first | exact Pick1.here | apply Pick1.there)))) rfl ?_)
            rintro _ _ ⟨a, c, rfl, rfl⟩
            refine WPL.putS ?_
            refine L_s (q_assign rfl) rfl ?_
            refine WPL.nil ?_
            refine WPC.ret ?_
            rw [ef]
            exact endR_r rfl (.tmp rfl .nil) (((Imp.pick (Δ := cells true bY 0 [.int .i64 (mn : Int)] :: cells true b o (nodeC (⟨(mn : Int), (mn : Int), 2, -1, conf, [(mn : Int)], term + 1, commit, base, bt, es, heard, next, mtch⟩ : EN) (⟨ca, cn, cc, some ⟨bY, 0, none⟩, 1, 1, ea, en, ec, na, ma⟩ : NL)) :: sl false ca (conf.map (.int .i64)) :: sl false ea (es.flatMap encE) :: cells true na 0 (next.map (.int .u64)) :: cells true ma 0 (mtch.map (.int .u64)) :: [buf 10 a (EN.toAll (⟨(mn : Int), (mn : Int), 2, -1, conf, [(mn : Int)], term + 1, commit, base, bt, es, heard, next, mtch⟩ : EN) (msg 1 0 0 (term + 1) (base + (en : Int)) (lgLastTerm bt es) false)).length c ((EN.toAll (⟨(mn : Int), (mn : Int), 2, -1, conf, [(mn : Int)], term + 1, commit, base, bt, es, heard, next, mtch⟩ : EN) (msg 1 0 0 (term + 1) (base + (en : Int)) (lgLastTerm bt es) false)).flatMap encM)]) (by repeat (first | exact Pick.nil | apply Pick.keep (by repeat (first | exact List.Mem.head _ | apply List.Mem.tail)) (by first | exact Pers.cells _ _ _ | exact Pers.slv _ _ _) | apply Pick.cons (by repeat (first | exact Pick1.here | apply Pick1.there))))).trans ((Imp.bufNew (sz := 1) (n := 1) rfl).trans ((Imp.pick (by repeat (first | exact Pick.nil | apply Pick.keep (by repeat (first | exact List.Mem.head _ | apply List.Mem.tail)) (by first | exact Pers.cells _ _ _ | exact Pers.slv _ _ _) | apply Pick.cons (by repeat (first | exact Pick1.here | apply Pick1.there))))).trans (enode_close (x := (⟨(mn : Int), (mn : Int), 2, -1, conf, [(mn : Int)], term + 1, commit, base, bt, es, heard, next, mtch⟩ : EN)) (b := b) (o := o) (⟨ca, cn, cc, some ⟨bY, 0, none⟩, 1, 1, ea, en, ec, na, ma⟩ : NL) ⟨hc, hcn, he, hen, hnx, hmt⟩ (Γ := [buf 10 a (EN.toAll (⟨(mn : Int), (mn : Int), 2, -1, conf, [(mn : Int)], term + 1, commit, base, bt, es, heard, next, mtch⟩ : EN) (msg 1 0 0 (term + 1) (base + (en : Int)) (lgLastTerm bt es) false)).length c ((EN.toAll (⟨(mn : Int), (mn : Int), 2, -1, conf, [(mn : Int)], term + 1, commit, base, bt, es, heard, next, mtch⟩ : EN) (msg 1 0 0 (term + 1) (base + (en : Int)) (lgLastTerm bt es) false)).flatMap encM)])))))) ⟨a, c, rfl, rfl⟩
        · try simp only [decide_eq_true_eq, decide_eq_false_iff_not, beq_iff_eq, bne_iff_ne, beq_eq_false_iff_ne, bne_eq_false_iff_eq, Bool.not_eq_true', Bool.not_eq_false', Bool.not_eq_eq_eq_not, Bool.not_true, Bool.not_false, ne_eq, Decidable.not_not, Int.not_lt, Int.not_le, gt_iff_lt, ge_iff_le] at h1
          exact absurd h1 (by decide)
      · refine Eff.mk 16 [(13, [_]), (3, [_])] rfl rfl (by repeat (first | exact .nil | refine .anc rfl ?_ | refine .keep (by repeat (first | exact List.Mem.head _ | apply List.Mem.tail)) ?_)) (E1.wpo (e_allocL zl_api_Msg) rfl ?_)
        rintro _ _ ⟨bm, rfl, rfl⟩
        refine ⟨(.cons (Ent.mem (by repeat (first | exact List.Mem.head _ | apply List.Mem.tail))) (.cons (Ent.mem (by repeat (first | exact List.Mem.head _ | apply List.Mem.tail))) (.nil _))), ?_⟩
        refine WPA.putS ?_
        refine WPA.oneE 14 [(3, [_])] (by kernel_rfl) rfl rfl (by repeat (first | exact .nil | refine .anc rfl ?_ | refine .keep (by repeat (first | exact List.Mem.head _ | apply List.Mem.tail)) ?_)) (C1.call (c_call Try.func30 rfl rfl rfl) (c_LastTerm he hb hen) (by repeat (first | exact Pick.nil | apply Pick.keep (by repeat (first | exact List.Mem.head _ | apply List.Mem.tail)) (by first | exact Pers.cells _ _ _ | exact Pers.slv _ _ _) | apply Pick.cons (by repeat (first | exact Pick1.here | apply Pick1.there)))) rfl ?_)
        rintro _ _ ⟨rfl, rfl⟩
        refine ⟨(.cons (Ent.mem (by repeat (first | exact List.Mem.head _ | apply List.Mem.tail))) (.nil _)), ?_⟩
        refine WPA.putS ?_
        refine WPA.takeP 15 rfl (q_build (cs := [_, _, _, _, _, _, _, _, _, _]) pl_api_Msg rfl rfl) (by kernel_rfl) (by kernel_rfl) (by kernel_rfl) rfl rfl (.cons (Ent.mem (by repeat (first | exact List.Mem.head _ | apply List.Mem.tail))) (.nil _)) ?_
        refine WPA.putS ?_
        refine WPA.oneE 17 [] (by kernel_rfl) rfl rfl (by repeat (first | exact .nil | refine .anc rfl ?_ | refine .keep (by repeat (first | exact List.Mem.head _ | apply List.Mem.tail)) ?_)) (S1.wpo (s_storeNz sz_api_Msg rfl rfl (by simp [Value.oneCell']) rfl (by repeat (first | exact Upd.here | apply Upd.there)) (by repeat constructor)) rfl ?_)
        refine ⟨(.nil _), ?_⟩
        refine WPA.putN ?_
        refine WPA.done (by kernel_rfl) ?_
        refine WPC.seqR ?_
        refine L_s (q_move rfl) rfl ?_
        first | refine L_s (q_nilP rfl) rfl ?_ | refine L_s (q_nilF rfl) rfl ?_
        first | refine L_s (q_faK fa_elect_Node_Role rfl) rfl ?_ | refine L_s (q_fa fa_elect_Node_Role rfl) rfl ?_
        refine WPL.cons rfl (S1.wpo (s_store1k sz_int rfl rfl rfl rfl (by repeat (first | exact Upd.here | apply Upd.there)) (by repeat constructor)) rfl ?_)
        refine WPL.putN ?_
        refine WPL.nil ?_
        refine WPC.prune [(0, _), (1, _), (4, _), (5, _)] (by repeat (first | exact trivial | refine ⟨rfl, ?_⟩)) ?_
        refine WPC.seq ?_
        refine WPC.seqR ?_
        refine L_s (q_move rfl) rfl ?_
        refine WPL.nil ?_
        refine WPC.cond rfl (fun h1 => ?_) (fun h1 => ?_)
        · try simp only [decide_eq_true_eq, decide_eq_false_iff_not, beq_iff_eq, bne_iff_ne, beq_eq_false_iff_ne, bne_eq_false_iff_eq, Bool.not_eq_true', Bool.not_eq_false', Bool.not_eq_eq_eq_not, Bool.not_true, Bool.not_false, ne_eq, Decidable.not_not, Int.not_lt, Int.not_le, gt_iff_lt, ge_iff_le] at h1
          refine WPC.seqD mixed ?_
          refine WPA.takeP 0 rfl (q_move rfl) (by kernel_rfl) (by kernel_rfl) (by kernel_rfl) rfl rfl (.nil _) ?_
          refine WPA.putS ?_
          refine WPA.takeP 1 rfl (q_move rfl) (by kernel_rfl) (by kernel_rfl) (by kernel_rfl) rfl rfl (.nil _) ?_
          refine WPA.putS ?_
          refine WPA.takeP 2 rfl (q_move rfl) (by kernel_rfl) (by kernel_rfl) (by kernel_rfl) rfl rfl (.nil _) ?_
          refine WPA.putS ?_
          refine WPA.takeP 3 rfl (q_move rfl) (by kernel_rfl) (by kernel_rfl) (by kernel_rfl) rfl rfl (.nil _) ?_
          refine WPA.putS ?_
          first | refine WPA.takeP 4 rfl (q_nilP rfl) (by kernel_rfl) (by kernel_rfl) (by kernel_rfl) rfl rfl (.nil _) ?_ | refine WPA.takeP 4 rfl (q_nilF rfl) (by kernel_rfl) (by kernel_rfl) (by kernel_rfl) rfl rfl (.nil _) ?_
          refine WPA.putS ?_
          first | refine WPA.takeP 5 rfl (q_faK fa_elect_Node_Term rfl) (by kernel_rfl) (by kernel_rfl) (by kernel_rfl) rfl rfl (.nil _) ?_ | refine WPA.takeP 5 rfl (q_fa fa_elect_Node_Term rfl) (by kernel_rfl) (by kernel_rfl) (by kernel_rfl) rfl rfl (.nil _) ?_
          refine WPA.putS ?_
          first | refine WPA.takeL 6 rfl (Ent.mem (by repeat (first | exact List.Mem.head _ | apply List.Mem.tail))) (q_load1z ld_uint64 rfl (.head _) (by rfl)) (by kernel_rfl) (by kernel_rfl) (by kernel_rfl) rfl rfl (.nil _) ?_ | refine WPA.takeL 6 rfl (Ent.mem (by repeat (first | exact List.Mem.head _ | apply List.Mem.tail))) (q_load1 ld_uint64 rfl (.head _) rfl (by rfl)) (by kernel_rfl) (by kernel_rfl) (by kernel_rfl) rfl rfl (.nil _) ?_
          refine WPA.putS ?_
          first | refine WPA.takeP 7 rfl (q_addU rfl rfl (by omega)) (by kernel_rfl) (by kernel_rfl) (by kernel_rfl) rfl rfl (.cons (Ent.mem (by repeat (first | exact List.Mem.head _ | apply List.Mem.tail))) (.nil _)) ?_ | refine WPA.takeP 7 rfl (q_int rfl rfl rfl) (by kernel_rfl) (by kernel_rfl) (by kernel_rfl) rfl rfl (.cons (Ent.mem (by repeat (first | exact List.Mem.head _ | apply List.Mem.tail))) (.nil _)) ?_
          refine WPA.putS ?_
          refine WPA.takeP 8 rfl (q_move rfl) (by kernel_rfl) (by kernel_rfl) (by kernel_rfl) rfl rfl (.cons (Ent.mem (by repeat (first | exact List.Mem.head _ | apply List.Mem.tail))) (.nil _)) ?_
          refine WPA.putS ?_
          first | refine WPA.takeP 9 rfl (q_nilP rfl) (by kernel_rfl) (by kernel_rfl) (by kernel_rfl) rfl rfl (.cons (Ent.mem (by repeat (first | exact List.Mem.head _ | apply List.Mem.tail))) (.nil _)) ?_ | refine WPA.takeP 9 rfl (q_nilF rfl) (by kernel_rfl) (by kernel_rfl) (by kernel_rfl) rfl rfl (.cons (Ent.mem (by repeat (first | exact List.Mem.head _ | apply List.Mem.tail))) (.nil _)) ?_
          refine WPA.putS ?_
          first | refine WPA.takeP 10 rfl (q_faK fa_elect_Node_Me rfl) (by kernel_rfl) (by kernel_rfl) (by kernel_rfl) rfl rfl (.cons (Ent.mem (by repeat (first | exact List.Mem.head _ | apply List.Mem.tail))) (.nil _)) ?_ | refine WPA.takeP 10 rfl (q_fa fa_elect_Node_Me rfl) (by kernel_rfl) (by kernel_rfl) (by kernel_rfl) rfl rfl (.cons (Ent.mem (by repeat (first | exact List.Mem.head _ | apply List.Mem.tail))) (.nil _)) ?_
          refine WPA.putS ?_
          first | refine WPA.takeL 11 rfl (Ent.mem (by repeat (first | exact List.Mem.head _ | apply List.Mem.tail))) (q_load1z ld_int rfl (.head _) (by rfl)) (by kernel_rfl) (by kernel_rfl) (by kernel_rfl) rfl rfl (.cons (Ent.mem (by repeat (first | exact List.Mem.head _ | apply List.Mem.tail))) (.nil _)) ?_ | refine WPA.takeL 11 rfl (Ent.mem (by repeat (first | exact List.Mem.head _ | apply List.Mem.tail))) (q_load1 ld_int rfl (.head _) rfl (by rfl)) (by kernel_rfl) (by kernel_rfl) (by kernel_rfl) rfl rfl (.cons (Ent.mem (by repeat (first | exact List.Mem.head _ | apply List.Mem.tail))) (.nil _)) ?_
          refine WPA.putS ?_
          first | refine WPA.takeP 12 rfl (q_nilP rfl) (by kernel_rfl) (by kernel_rfl) (by kernel_rfl) rfl rfl (.cons (Ent.mem (by repeat (first | exact List.Mem.head _ | apply List.Mem.tail))) (.cons (Ent.mem (by repeat (first | exact List.Mem.head _ | apply List.Mem.tail))) (.nil _))) ?_ | refine WPA.takeP 12 rfl (q_nilF rfl) (by kernel_rfl) (by kernel_rfl) (by kernel_rfl) rfl rfl (.cons (Ent.mem (by repeat (first | exact List.Mem.head _ | apply List.Mem.tail))) (.cons (Ent.mem (by repeat (first | exact List.Mem.head _ | apply List.Mem.tail))) (.nil _))) ?_
          refine WPA.putS ?_
          first | refine WPA.takeP 13 rfl (q_faK fa_elect_Node_Term rfl) (by kernel_rfl) (by kernel_rfl) (by kernel_rfl) rfl rfl (.cons (Ent.mem (by repeat (first | exact List.Mem.head _ | apply List.Mem.tail))) (.cons (Ent.mem (by repeat (first | exact List.Mem.head _ | apply List.Mem.tail))) (.nil _))) ?_ | refine WPA.takeP 13 rfl (q_fa fa_elect_Node_Term rfl) (by kernel_rfl) (by kernel_rfl) (by kernel_rfl) rfl rfl (.cons (Ent.mem (by repeat (first | exact List.Mem.head _ | apply List.Mem.tail))) (.cons (Ent.mem (by repeat (first | exact List.Mem.head _ | apply List.Mem.tail))) (.nil _))) ?_
          refine WPA.putS ?_
          refine WPA.oneE 14 [] (by kernel_rfl) rfl rfl (by repeat (first | exact .nil | refine .anc rfl ?_ | refine .keep (by repeat (first | exact List.Mem.head _ | apply List.Mem.tail)) ?_)) (S1.wpo (s_store1k sz_uint64 rfl rfl rfl rfl (by repeat (first | exact Upd.here | apply Upd.there)) (by repeat constructor)) rfl ?_)
          refine ⟨(.nil _), ?_⟩
          refine WPA.putN ?_
          first | refine WPA.takeP 15 rfl (q_nilP rfl) (by kernel_rfl) (by kernel_rfl) (by kernel_rfl) rfl rfl (.nil _) ?_ | refine WPA.takeP 15 rfl (q_nilF rfl) (by kernel_rfl) (by kernel_rfl) (by kernel_rfl) rfl rfl (.nil _) ?_
          refine WPA.putS ?_
          first | refine WPA.takeP 16 rfl (q_faK fa_elect_Node_Vote rfl) (by kernel_rfl) (by kernel_rfl) (by kernel_rfl) rfl rfl (.nil _) ?_ | refine WPA.takeP 16 rfl (q_fa fa_elect_Node_Vote rfl) (by kernel_rfl) (by kernel_rfl) (by kernel_rfl) rfl rfl (.nil _) ?_
          refine WPA.putS ?_
          refine WPA.oneE 17 [] (by kernel_rfl) rfl rfl (by repeat (first | exact .nil | refine .anc rfl ?_ | refine .keep (by repeat (first | exact List.Mem.head _ | apply List.Mem.tail)) ?_)) (S1.wpo (s_store1k sz_int rfl rfl rfl rfl (by repeat (first | exact Upd.here | apply Upd.there)) (by repeat constructor)) rfl ?_)
          refine ⟨(.nil _), ?_⟩
          refine WPA.putN ?_
          first | refine WPA.takeP 18 rfl (q_nilP rfl) (by kernel_rfl) (by kernel_rfl) (by kernel_rfl) rfl rfl (.nil _) ?_ | refine WPA.takeP 18 rfl (q_nilF rfl) (by kernel_rfl) (by kernel_rfl) (by kernel_rfl) rfl rfl (.nil _) ?_
          refine WPA.putS ?_
          first | refine WPA.takeP 19 rfl (q_faK fa_elect_Node_Role rfl) (by kernel_rfl) (by kernel_rfl) (by kernel_rfl) rfl rfl (.nil _) ?_ | refine WPA.takeP 19 rfl (q_fa fa_elect_Node_Role rfl) (by kernel_rfl) (by kernel_rfl) (by kernel_rfl) rfl rfl (.nil _) ?_
          refine WPA.putS ?_
          refine WPA.oneE 20 [] (by kernel_rfl) rfl rfl (by repeat (first | exact .nil | refine .anc rfl ?_ | refine .keep (by repeat (first | exact List.Mem.head _ | apply List.Mem.tail)) ?_)) (S1.wpo (s_store1k sz_int rfl rfl rfl rfl (by repeat (first | exact Upd.here | apply Upd.there)) (by repeat constructor)) rfl ?_)
          refine ⟨(.nil _), ?_⟩
          refine WPA.putN ?_
          refine WPA.done (by kernel_rfl) ?_
          refine WPC.region ?_
          first | refine L_s (q_faK fa_api_Msg_Kind rfl) rfl ?_ | refine L_s (q_fa fa_api_Msg_Kind rfl) rfl ?_
          refine WPL.cons rfl (S1.wpo (s_store1z sz_int rfl rfl rfl rfl (by repeat (first | exact Upd.here | apply Upd.there)) (by repeat constructor)) rfl ?_)
          refine WPL.putN ?_
          refine WPL.nil ?_
          refine thenQ_n ?_
          refine WPC.seqR ?_
          refine L_s (q_move rfl) rfl ?_
          refine L_s (q_move rfl) rfl ?_
          refine L_s (q_move rfl) rfl ?_
          first | refine L_s (q_nilP rfl) rfl ?_ | refine L_s (q_nilF rfl) rfl ?_
          first | refine L_s (q_faK fa_elect_Node_Me rfl) rfl ?_ | refine L_s (q_fa fa_elect_Node_Me rfl) rfl ?_
          first | refine L_s (q_load1z ld_int rfl (by repeat (first | exact List.Mem.head _ | apply List.Mem.tail)) (by rfl)) rfl ?_ | refine L_s (q_load1 ld_int rfl (by repeat (first | exact List.Mem.head _ | apply List.Mem.tail)) rfl (by rfl)) rfl ?_
          refine WPL.cons rfl (E1.wpo (e_buildSlice mk_sl_int (by decide) rfl rfl rfl) rfl ?_)
          rintro _ _ ⟨bY, rfl, rfl⟩
          refine WPL.putS ?_
          first | refine L_s (q_nilP rfl) rfl ?_ | refine L_s (q_nilF rfl) rfl ?_
          first | refine L_s (q_faK fa_elect_Node_Lead rfl) rfl ?_ | refine L_s (q_fa fa_elect_Node_Lead rfl) rfl ?_
          refine WPL.cons rfl (S1.wpo (s_store1k sz_int rfl rfl rfl rfl (by repeat (first | exact Upd.here | apply Upd.there)) (by repeat constructor)) rfl ?_)
          refine WPL.putN ?_
          first | refine L_s (q_nilP rfl) rfl ?_ | refine L_s (q_nilF rfl) rfl ?_
          first | refine L_s (q_faK fa_elect_Node_Yes rfl) rfl ?_ | refine L_s (q_fa fa_elect_Node_Yes rfl) rfl ?_
          refine WPL.cons rfl (S1.wpo (s_store1k sz_sl_int rfl rfl rfl rfl (by repeat (first | exact Upd.here | apply Upd.there)) (by repeat constructor)) rfl ?_)
          refine WPL.putN ?_
          refine WPL.nil ?_
          have hy : Sok 1 (some ⟨bY, 0, none⟩) 1 1 ([(mn : Int)].map (.int .i64)) := ⟨rfl, Nat.le_refl _, .inr (Pl.mk _ _)⟩
          refine WPC.prune [(0, _), (4, _), (5, _)] (by repeat (first | exact trivial | refine ⟨rfl, ?_⟩)) ?_
          refine WPC.seq ?_
          refine WPC.seqD mixed ?_
          refine WPA.takeP 0 rfl (q_move rfl) (by kernel_rfl) (by kernel_rfl) (by kernel_rfl) rfl rfl (.nil _) ?_
          refine WPA.putS ?_
          first | refine WPA.takeP 1 rfl (q_nilP rfl) (by kernel_rfl) (by kernel_rfl) (by kernel_rfl) rfl rfl (.nil _) ?_ | refine WPA.takeP 1 rfl (q_nilF rfl) (by kernel_rfl) (by kernel_rfl) (by kernel_rfl) rfl rfl (.nil _) ?_
          refine WPA.putS ?_
          first | refine WPA.takeP 2 rfl (q_faK fa_elect_Node_Conf rfl) (by kernel_rfl) (by kernel_rfl) (by kernel_rfl) rfl rfl (.nil _) ?_ | refine WPA.takeP 2 rfl (q_fa fa_elect_Node_Conf rfl) (by kernel_rfl) (by kernel_rfl) (by kernel_rfl) rfl rfl (.nil _) ?_
          refine WPA.putS ?_
          first | refine WPA.takeL 3 rfl (Ent.mem (by repeat (first | exact List.Mem.head _ | apply List.Mem.tail))) (q_load1z ld_sl_int rfl (.head _) (by rfl)) (by kernel_rfl) (by kernel_rfl) (by kernel_rfl) rfl rfl (.nil _) ?_ | refine WPA.takeL 3 rfl (Ent.mem (by repeat (first | exact List.Mem.head _ | apply List.Mem.tail))) (q_load1 ld_sl_int rfl (.head _) rfl (by rfl)) (by kernel_rfl) (by kernel_rfl) (by kernel_rfl) rfl rfl (.nil _) ?_
          refine WPA.putS ?_
          refine WPA.takeP 4 rfl (q_move rfl) (by kernel_rfl) (by kernel_rfl) (by kernel_rfl) rfl rfl (.cons (Ent.mem (by repeat (first | exact List.Mem.head _ | apply List.Mem.tail))) (.nil _)) ?_
          refine WPA.putS ?_
          first | refine WPA.takeP 5 rfl (q_nilP rfl) (by kernel_rfl) (by kernel_rfl) (by kernel_rfl) rfl rfl (.cons (Ent.mem (by repeat (first | exact List.Mem.head _ | apply List.Mem.tail))) (.nil _)) ?_ | refine WPA.takeP 5 rfl (q_nilF rfl) (by kernel_rfl) (by kernel_rfl) (by kernel_rfl) rfl rfl (.cons (Ent.mem (by repeat (first | exact List.Mem.head _ | apply List.Mem.tail))) (.nil _)) ?_
          refine WPA.putS ?_
          first | refine WPA.takeP 6 rfl (q_faK fa_elect_Node_Yes rfl) (by kernel_rfl) (by kernel_rfl) (by kernel_rfl) rfl rfl (.cons (Ent.mem (by repeat (first | exact List.Mem.head _ | apply List.Mem.tail))) (.nil _)) ?_ | refine WPA.takeP 6 rfl (q_fa fa_elect_Node_Yes rfl) (by kernel_rfl) (by kernel_rfl) (by kernel_rfl) rfl rfl (.cons (Ent.mem (by repeat (first | exact List.Mem.head _ | apply List.Mem.tail))) (.nil _)) ?_
          refine WPA.putS ?_
          first | refine WPA.takeL 7 rfl (Ent.mem (by repeat (first | exact List.Mem.head _ | apply List.Mem.tail))) (q_load1z ld_sl_int rfl (.head _) (by rfl)) (by kernel_rfl) (by kernel_rfl) (by kernel_rfl) rfl rfl (.cons (Ent.mem (by repeat (first | exact List.Mem.head _ | apply List.Mem.tail))) (.nil _)) ?_ | refine WPA.takeL 7 rfl (Ent.mem (by repeat (first | exact List.Mem.head _ | apply List.Mem.tail))) (q_load1 ld_sl_int rfl (.head _) rfl (by rfl)) (by kernel_rfl) (by kernel_rfl) (by kernel_rfl) rfl rfl (.cons (Ent.mem (by repeat (first | exact List.Mem.head _ | apply List.Mem.tail))) (.nil _)) ?_
          refine WPA.putS ?_
          refine WPA.oneE 8 [] (by kernel_rfl) rfl rfl (by repeat (first | exact .nil | refine .anc rfl ?_ | refine .keep (by repeat (first | exact List.Mem.head _ | apply List.Mem.tail)) ?_)) (C1.call (c_call Try.func31 rfl rfl rfl) (c_Agrees (ys := [(mn : Int)]) hc hy hcn (by omega)) (by repeat (first | exact Pick.nil | apply Pick.keep (by repeat (first | exact List.Mem.head _ | apply List.Mem.tail)) (by first | exact Pers.cells _ _ _ | exact Pers.slv _ _ _) | apply Pick.cons (by repeat (first | exact Pick1.here | apply Pick1.there)))) rfl ?_)
          rintro _ _ ⟨rfl, rfl⟩
          refine ⟨(.nil _), ?_⟩
          refine WPA.putS ?_
          refine WPA.done (by kernel_rfl) ?_
          refine WPC.cond rfl (fun h2 => ?_) (fun h2 => ?_)
          · have ef : EN.askR (⟨(mn : Int), vote, role, lead, conf, yes, term, commit, base, bt, es, heard, next, mtch⟩ : EN) = ((⟨(mn : Int), (mn : Int), 2, -1, conf, [(mn : Int)], term + 1, commit, base, bt, es, heard, next, mtch⟩ : EN).lead5, []) := by simp [EN.askR, h0, h2]
            refine WPC.seqR ?_
            refine L_s (q_move rfl) rfl ?_
            refine WPL.imp ((Imp.pick (Δ := cells true bY 0 [.int .i64 (mn : Int)] :: cells true b o (nodeC (⟨(mn : Int), (mn : Int), 2, -1, conf, [(mn : Int)], term + 1, commit, base, bt, es, heard, next, mtch⟩ : EN) (⟨ca, cn, cc, some ⟨bY, 0, none⟩, 1, 1, ea, en, ec, na, ma⟩ : NL)) :: sl false ca (conf.map (.int .i64)) :: sl false ea (es.flatMap encE) :: cells true na 0 (next.map (.int .u64)) :: cells true ma 0 (mtch.map (.int .u64)) :: []) (by repeat (first | exact Pick.nil | apply Pick.keep (by repeat (first | exact List.Mem.head _ | apply List.Mem.tail)) (by first | exact Pers.cells _ _ _ | exact Pers.slv _ _ _) | apply Pick.cons (by repeat (first | exact Pick1.here | apply Pick1.there))))).trans ((Imp.bufNew (sz := 1) (n := 1) rfl).trans ((Imp.pick (by repeat (first | exact Pick.nil | apply Pick.keep (by repeat (first | exact List.Mem.head _ | apply List.Mem.tail)) (by first | exact Pers.cells _ _ _ | exact Pers.slv _ _ _) | apply Pick.cons (by repeat (first | exact Pick1.here | apply Pick1.there))))).trans (enode_close (x := (⟨(mn : Int), (mn : Int), 2, -1, conf, [(mn : Int)], term + 1, commit, base, bt, es, heard, next, mtch⟩ : EN)) (b := b) (o := o) (⟨ca, cn, cc, some ⟨bY, 0, none⟩, 1, 1, ea, en, ec, na, ma⟩ : NL) ⟨hc, hcn, he, hen, hnx, hmt⟩ (Γ := []))))) ?_
            refine WPL.cons rfl (C1.call (c_call Try.func32 rfl rfl rfl) (c_chosenL (x := (⟨(mn : Int), (mn : Int), 2, -1, conf, [(mn : Int)], term + 1, commit, base, bt, es, heard, next, mtch⟩ : EN)) ⟨hme, by dsimp only; omega, hbase, hes, by simp⟩ (by dsimp only; omega)) (by repeat (first | exact Pick.nil | apply Pick.keep (by repeat (first | exact List.Mem.head _ | apply List.Mem.tail)) (by first | exact Pers.cells _ _ _ | exact Pers.slv _ _ _) | apply Pick.cons (by repeat (first | exact Pick1.here | apply Pick1.there)))) rfl ?_)
            rintro _ _ ⟨a, c, rfl, rfl⟩
            refine WPL.putS ?_
            refine L_s (q_assign rfl) rfl ?_
            refine WPL.nil ?_
            refine WPC.ret ?_
            refine thenQ_r ?_
            rw [ef]
            exact endR_r rfl (.tmp rfl .nil) (Imp.pick (by repeat (first | exact Pick.nil | apply Pick.keep (by repeat (first | exact List.Mem.head _ | apply List.Mem.tail)) (by first | exact Pers.cells _ _ _ | exact Pers.slv _ _ _) | apply Pick.cons (by repeat (first | exact Pick1.here | apply Pick1.there))))) ⟨a, c, rfl, rfl⟩
          · have ef : EN.askR (⟨(mn : Int), vote, role, lead, conf, yes, term, commit, base, bt, es, heard, next, mtch⟩ : EN) = ((⟨(mn : Int), (mn : Int), 2, -1, conf, [(mn : Int)], term + 1, commit, base, bt, es, heard, next, mtch⟩ : EN), EN.toAll (⟨(mn : Int), (mn : Int), 2, -1, conf, [(mn : Int)], term + 1, commit, base, bt, es, heard, next, mtch⟩ : EN) (msg 1 0 0 (term + 1) (base + (en : Int)) (lgLastTerm bt es) false)) := by simp [EN.askR, h0, h2, EN.last, hel]
            refine WPC.skip ?_
            refine thenQ_n ?_
            refine WPC.seqR ?_
            refine L_s (q_move rfl) rfl ?_
            first | refine L_s (q_loadNz (us := [_, _, _, _, _, _, _, _, _, _]) ld_api_Msg rfl (by repeat (first | exact List.Mem.head _ | apply List.Mem.tail)) (by exact ⟨rfl, rfl⟩)) rfl ?_ | refine L_s (q_loadNk (us := [_, _, _, _, _, _, _, _, _, _]) ld_api_Msg rfl (by repeat (first | exact List.Mem.head _ | apply List.Mem.tail)) (by exact ⟨rfl, rfl⟩)) rfl ?_
            refine WPL.cons rfl (C1.call (c_call Try.func33 rfl rfl rfl) (c_toAll (x := (⟨(mn : Int), (mn : Int), 2, -1, conf, [(mn : Int)], term + 1, commit, base, bt, es, heard, next, mtch⟩ : EN)) (L := (⟨ca, cn, cc, some ⟨bY, 0, none⟩, 1, 1, ea, en, ec, na, ma⟩ : NL)) hc hcn (msg 1 0 0 (term + 1) (base + (en : Int)) (lgLastTerm bt es) false)) (by repeat (first | exact Pick.nil | apply Pick.keep (by repeat (first | exact List.Mem.head _ | apply List.Mem.tail)) (by first | exact Pers.cells _ _ _ | exact Pers.slv _ _ _) | apply Pick.cons (by repeat (first | exact Pick1.here | apply Pick1.there)))) rfl ?_)
            rintro _ _ ⟨a, c, rfl, rfl⟩
            refine WPL.putS ?_
            refine L_s (q_assign rfl) rfl ?_
            refine WPL.nil ?_
            refine WPC.ret ?_
            rw [ef]
            exact endR_r rfl (.tmp rfl .nil) (((Imp.pick (Δ := cells true bY 0 [.int .i64 (mn : Int)] :: cells true b o (nodeC (⟨(mn : Int), (mn : Int), 2, -1, conf, [(mn : Int)], term + 1, commit, base, bt, es, heard, next, mtch⟩ : EN) (⟨ca, cn, cc, some ⟨bY, 0, none⟩, 1, 1, ea, en, ec, na, ma⟩ : NL)) :: sl false ca (conf.map (.int .i64)) :: sl false ea (es.flatMap encE) :: cells true na 0 (next.map (.int .u64)) :: cells true ma 0 (mtch.map (.int .u64)) :: [buf 10 a (EN.toAll (⟨(mn : Int), (mn : Int), 2, -1, conf, [(mn : Int)], term + 1, commit, base, bt, es, heard, next, mtch⟩ : EN) (msg 1 0 0 (term + 1) (base + (en : Int)) (lgLastTerm bt es) false)).length c ((EN.toAll (⟨(mn : Int), (mn : Int), 2, -1, conf, [(mn : Int)], term + 1, commit, base, bt, es, heard, next, mtch⟩ : EN) (msg 1 0 0 (term + 1) (base + (en : Int)) (lgLastTerm bt es) false)).flatMap encM)]) (by repeat (first | exact Pick.nil | apply Pick.keep (by repeat (first | exact List.Mem.head _ | apply List.Mem.tail)) (by first | exact Pers.cells _ _ _ | exact Pers.slv _ _ _) | apply Pick.cons (by repeat (first | exact Pick1.here | apply Pick1.there))))).trans ((Imp.bufNew (sz := 1) (n := 1) rfl).trans ((Imp.pick (by repeat (first | exact Pick.nil | apply Pick.keep (by repeat (first | exact List.Mem.head _ | apply List.Mem.tail)) (by first | exact Pers.cells _ _ _ | exact Pers.slv _ _ _) | apply Pick.cons (by repeat (first | exact Pick1.here | apply Pick1.there))))).trans (enode_close (x := (⟨(mn : Int), (mn : Int), 2, -1, conf, [(mn : Int)], term + 1, commit, base, bt, es, heard, next, mtch⟩ : EN)) (b := b) (o := o) (⟨ca, cn, cc, some ⟨bY, 0, none⟩, 1, 1, ea, en, ec, na, ma⟩ : NL) ⟨hc, hcn, he, hen, hnx, hmt⟩ (Γ := [buf 10 a (EN.toAll (⟨(mn : Int), (mn : Int), 2, -1, conf, [(mn : Int)], term + 1, commit, base, bt, es, heard, next, mtch⟩ : EN) (msg 1 0 0 (term + 1) (base + (en : Int)) (lgLastTerm bt es) false)).length c ((EN.toAll (⟨(mn : Int), (mn : Int), 2, -1, conf, [(mn : Int)], term + 1, commit, base, bt, es, heard, next, mtch⟩ : EN) (msg 1 0 0 (term + 1) (base + (en : Int)) (lgLastTerm bt es) false)).flatMap encM)])))))) ⟨a, c, rfl, rfl⟩
        · try simp only [decide_eq_true_eq, decide_eq_false_iff_not, beq_iff_eq, bne_iff_ne, beq_eq_false_iff_ne, bne_eq_false_iff_eq, Bool.not_eq_true', Bool.not_eq_false', Bool.not_eq_eq_eq_not, Bool.not_true, Bool.not_false, ne_eq, Decidable.not_not, Int.not_lt, Int.not_le, gt_iff_lt, ge_iff_le] at h1
          exact absurd h1 (by decide)
    · refine Eff.mk 16 [(13, [_]), (8, [_]), (3, [_])] rfl rfl (by repeat (first | exact .nil | refine .anc rfl ?_ | refine .keep (by repeat (first | exact List.Mem.head _ | apply List.Mem.tail)) ?_)) (E1.wpo (e_allocL zl_api_Msg) rfl ?_)
      rintro _ _ ⟨bm, rfl, rfl⟩
      refine ⟨(.cons (Ent.mem (by repeat (first | exact List.Mem.head _ | apply List.Mem.tail))) (.cons (Ent.mem (by repeat (first | exact List.Mem.head _ | apply List.Mem.tail))) (.cons (Ent.mem (by repeat (first | exact List.Mem.head _ | apply List.Mem.tail))) (.nil _)))), ?_⟩
      refine WPA.putS ?_
      refine WPA.oneE 9 [(13, [_]), (3, [_])] (by kernel_rfl) rfl rfl (by repeat (first | exact .nil | refine .anc rfl ?_ | refine .keep (by repeat (first | exact List.Mem.head _ | apply List.Mem.tail)) ?_)) (C1.call (c_call Try.func29 rfl rfl rfl) (c_Last hb hen) (by repeat (first | exact Pick.nil | apply Pick.keep (by repeat (first | exact List.Mem.head _ | apply List.Mem.tail)) (by first | exact Pers.cells _ _ _ | exact Pers.slv _ _ _) | apply Pick.cons (by repeat (first | exact Pick1.here | apply Pick1.there)))) rfl ?_)
      rintro _ _ ⟨rfl, rfl⟩
      refine ⟨(.cons (Ent.mem (by repeat (first | exact List.Mem.head _ | apply List.Mem.tail))) (.cons (Ent.mem (by repeat (first | exact List.Mem.head _ | apply List.Mem.tail))) (.nil _))), ?_⟩
      refine WPA.putS ?_
      refine WPA.oneE 14 [(3, [_])] (by kernel_rfl) rfl rfl (by repeat (first | exact .nil | refine .anc rfl ?_ | refine .keep (by repeat (first | exact List.Mem.head _ | apply List.Mem.tail)) ?_)) (C1.call (c_call Try.func30 rfl rfl rfl) (c_LastTerm he hb hen) (by repeat (first | exact Pick.nil | apply Pick.keep (by repeat (first | exact List.Mem.head _ | apply List.Mem.tail)) (by first | exact Pers.cells _ _ _ | exact Pers.slv _ _ _) | apply Pick.cons (by repeat (first | exact Pick1.here | apply Pick1.there)))) rfl ?_)
      rintro _ _ ⟨rfl, rfl⟩
      refine ⟨(.cons (Ent.mem (by repeat (first | exact List.Mem.head _ | apply List.Mem.tail))) (.nil _)), ?_⟩
      refine WPA.putS ?_
      refine WPA.takeP 15 rfl (q_build (cs := [_, _, _, _, _, _, _, _, _, _]) pl_api_Msg rfl rfl) (by kernel_rfl) (by kernel_rfl) (by kernel_rfl) rfl rfl (.cons (Ent.mem (by repeat (first | exact List.Mem.head _ | apply List.Mem.tail))) (.nil _)) ?_
      refine WPA.putS ?_
      refine WPA.oneE 17 [] (by kernel_rfl) rfl rfl (by repeat (first | exact .nil | refine .anc rfl ?_ | refine .keep (by repeat (first | exact List.Mem.head _ | apply List.Mem.tail)) ?_)) (S1.wpo (s_storeNz sz_api_Msg rfl rfl (by simp [Value.oneCell']) rfl (by repeat (first | exact Upd.here | apply Upd.there)) (by repeat constructor)) rfl ?_)
      refine ⟨(.nil _), ?_⟩
      refine WPA.putN ?_
      refine WPA.done (by kernel_rfl) ?_
      refine WPC.seqR ?_
      refine L_s (q_move rfl) rfl ?_
      first | refine L_s (q_nilP rfl) rfl ?_ | refine L_s (q_nilF rfl) rfl ?_
      first | refine L_s (q_faK fa_elect_Node_Role rfl) rfl ?_ | refine L_s (q_fa fa_elect_Node_Role rfl) rfl ?_
      refine WPL.cons rfl (S1.wpo (s_store1k sz_int rfl rfl rfl rfl (by repeat (first | exact Upd.here | apply Upd.there)) (by repeat constructor)) rfl ?_)
      refine WPL.putN ?_
      refine WPL.nil ?_
      refine WPC.prune [(0, _), (1, _), (4, _), (5, _)] (by repeat (first | exact trivial | refine ⟨rfl, ?_⟩)) ?_
      refine WPC.seq ?_
      refine WPC.seqR ?_
      refine L_s (q_move rfl) rfl ?_
      refine WPL.nil ?_
      refine WPC.cond rfl (fun h1 => ?_) (fun h1 => ?_)
      · try simp only [decide_eq_true_eq, decide_eq_false_iff_not, beq_iff_eq, bne_iff_ne, beq_eq_false_iff_ne, bne_eq_false_iff_eq, Bool.not_eq_true', Bool.not_eq_false', Bool.not_eq_eq_eq_not, Bool.not_true, Bool.not_false, ne_eq, Decidable.not_not, Int.not_lt, Int.not_le, gt_iff_lt, ge_iff_le] at h1
        refine WPC.seqD mixed ?_
        refine WPA.takeP 0 rfl (q_move rfl) (by kernel_rfl) (by kernel_rfl) (by kernel_rfl) rfl rfl (.nil _) ?_
        refine WPA.putS ?_
        refine WPA.takeP 1 rfl (q_move rfl) (by kernel_rfl) (by kernel_rfl) (by kernel_rfl) rfl rfl (.nil _) ?_
        refine WPA.putS ?_
        refine WPA.takeP 2 rfl (q_move rfl) (by kernel_rfl) (by kernel_rfl) (by kernel_rfl) rfl rfl (.nil _) ?_
        refine WPA.putS ?_
        refine WPA.takeP 3 rfl (q_move rfl) (by kernel_rfl) (by kernel_rfl) (by kernel_rfl) rfl rfl (.nil _) ?_
        refine WPA.putS ?_
        first | refine WPA.takeP 4 rfl (q_nilP rfl) (by kernel_rfl) (by kernel_rfl) (by kernel_rfl) rfl rfl (.nil _) ?_ | refine WPA.takeP 4 rfl (q_nilF rfl) (by kernel_rfl) (by kernel_rfl) (by kernel_rfl) rfl rfl (.nil _) ?_
        refine WPA.putS ?_
        first | refine WPA.takeP 5 rfl (q_faK fa_elect_Node_Term rfl) (by kernel_rfl) (by kernel_rfl) (by kernel_rfl) rfl rfl (.nil _) ?_ | refine WPA.takeP 5 rfl (q_fa fa_elect_Node_Term rfl) (by kernel_rfl) (by kernel_rfl) (by kernel_rfl) rfl rfl (.nil _) ?_
        refine WPA.putS ?_
        first | refine WPA.takeL 6 rfl (Ent.mem (by repeat (first | exact List.Mem.head _ | apply List.Mem.tail))) (q_load1z ld_uint64 rfl (.head _) (by rfl)) (by kernel_rfl) (by kernel_rfl) (by kernel_rfl) rfl rfl (.nil _) ?_ | refine WPA.takeL 6 rfl (Ent.mem (by repeat (first | exact List.Mem.head _ | apply List.Mem.tail))) (q_load1 ld_uint64 rfl (.head _) rfl (by rfl)) (by kernel_rfl) (by kernel_rfl) (by kernel_rfl) rfl rfl (.nil _) ?_
        refine WPA.putS ?_
        first | refine WPA.takeP 7 rfl (q_addU rfl rfl (by omega)) (by kernel_rfl) (by kernel_rfl) (by kernel_rfl) rfl rfl (.cons (Ent.mem (by repeat (first | exact List.Mem.head _ | apply List.Mem.tail))) (.nil _)) ?_ | refine WPA.takeP 7 rfl (q_int rfl rfl rfl) (by kernel_rfl) (by kernel_rfl) (by kernel_rfl) rfl rfl (.cons (Ent.mem (by repeat (first | exact List.Mem.head _ | apply List.Mem.tail))) (.nil _)) ?_
        refine WPA.putS ?_
        refine WPA.takeP 8 rfl (q_move rfl) (by kernel_rfl) (by kernel_rfl) (by kernel_rfl) rfl rfl (.cons (Ent.mem (by repeat (first | exact List.Mem.head _ | apply List.Mem.tail))) (.nil _)) ?_
        refine WPA.putS ?_
        first | refine WPA.takeP 9 rfl (q_nilP rfl) (by kernel_rfl) (by kernel_rfl) (by kernel_rfl) rfl rfl (.cons (Ent.mem (by repeat (first | exact List.Mem.head _ | apply List.Mem.tail))) (.nil _)) ?_ | refine WPA.takeP 9 rfl (q_nilF rfl) (by kernel_rfl) (by kernel_rfl) (by kernel_rfl) rfl rfl (.cons (Ent.mem (by repeat (first | exact List.Mem.head _ | apply List.Mem.tail))) (.nil _)) ?_
        refine WPA.putS ?_
        first | refine WPA.takeP 10 rfl (q_faK fa_elect_Node_Me rfl) (by kernel_rfl) (by kernel_rfl) (by kernel_rfl) rfl rfl (.cons (Ent.mem (by repeat (first | exact List.Mem.head _ | apply List.Mem.tail))) (.nil _)) ?_ | refine WPA.takeP 10 rfl (q_fa fa_elect_Node_Me rfl) (by kernel_rfl) (by kernel_rfl) (by kernel_rfl) rfl rfl (.cons (Ent.mem (by repeat (first | exact List.Mem.head _ | apply List.Mem.tail))) (.nil _)) ?_
        refine WPA.putS ?_
        first | refine WPA.takeL 11 rfl (Ent.mem (by repeat (first | exact List.Mem.head _ | apply List.Mem.tail))) (q_load1z ld_int rfl (.head _) (by rfl)) (by kernel_rfl) (by kernel_rfl) (by kernel_rfl) rfl rfl (.cons (Ent.mem (by repeat (first | exact List.Mem.head _ | apply List.Mem.tail))) (.nil _)) ?_ | refine WPA.takeL 11 rfl (Ent.mem (by repeat (first | exact List.Mem.head _ | apply List.Mem.tail))) (q_load1 ld_int rfl (.head _) rfl (by rfl)) (by kernel_rfl) (by kernel_rfl) (by kernel_rfl) rfl rfl (.cons (Ent.mem (by repeat (first | exact List.Mem.head _ | apply List.Mem.tail))) (.nil _)) ?_
        refine WPA.putS ?_
        first | refine WPA.takeP 12 rfl (q_nilP rfl) (by kernel_rfl) (by kernel_rfl) (by kernel_rfl) rfl rfl (.cons (Ent.mem (by repeat (first | exact List.Mem.head _ | apply List.Mem.tail))) (.cons (Ent.mem (by repeat (first | exact List.Mem.head _ | apply List.Mem.tail))) (.nil _))) ?_ | refine WPA.takeP 12 rfl (q_nilF rfl) (by kernel_rfl) (by kernel_rfl) (by kernel_rfl) rfl rfl (.cons (Ent.mem (by repeat (first | exact List.Mem.head _ | apply List.Mem.tail))) (.cons (Ent.mem (by repeat (first | exact List.Mem.head _ | apply List.Mem.tail))) (.nil _))) ?_
        refine WPA.putS ?_
        first | refine WPA.takeP 13 rfl (q_faK fa_elect_Node_Term rfl) (by kernel_rfl) (by kernel_rfl) (by kernel_rfl) rfl rfl (.cons (Ent.mem (by repeat (first | exact List.Mem.head _ | apply List.Mem.tail))) (.cons (Ent.mem (by repeat (first | exact List.Mem.head _ | apply List.Mem.tail))) (.nil _))) ?_ | refine WPA.takeP 13 rfl (q_fa fa_elect_Node_Term rfl) (by kernel_rfl) (by kernel_rfl) (by kernel_rfl) rfl rfl (.cons (Ent.mem (by repeat (first | exact List.Mem.head _ | apply List.Mem.tail))) (.cons (Ent.mem (by repeat (first | exact List.Mem.head _ | apply List.Mem.tail))) (.nil _))) ?_
        refine WPA.putS ?_
        refine WPA.oneE 14 [] (by kernel_rfl) rfl rfl (by repeat (first | exact .nil | refine .anc rfl ?_ | refine .keep (by repeat (first | exact List.Mem.head _ | apply List.Mem.tail)) ?_)) (S1.wpo (s_store1k sz_uint64 rfl rfl rfl rfl (by repeat (first | exact Upd.here | apply Upd.there)) (by repeat constructor)) rfl ?_)
        refine ⟨(.nil _), ?_⟩
        refine WPA.putN ?_
        first | refine WPA.takeP 15 rfl (q_nilP rfl) (by kernel_rfl) (by kernel_rfl) (by kernel_rfl) rfl rfl (.nil _) ?_ | refine WPA.takeP 15 rfl (q_nilF rfl) (by kernel_rfl) (by kernel_rfl) (by kernel_rfl) rfl rfl (.nil _) ?_
        refine WPA.putS ?_
        first | refine WPA.takeP 16 rfl (q_faK fa_elect_Node_Vote rfl) (by kernel_rfl) (by kernel_rfl) (by kernel_rfl) rfl rfl (.nil _) ?_ | refine WPA.takeP 16 rfl (q_fa fa_elect_Node_Vote rfl) (by kernel_rfl) (by kernel_rfl) (by kernel_rfl) rfl rfl (.nil _) ?_
        refine WPA.putS ?_
        refine WPA.oneE 17 [] (by kernel_rfl) rfl rfl (by repeat (first | exact .nil | refine .anc rfl ?_ | refine .keep (by repeat (first | exact List.Mem.head _ | apply List.Mem.tail)) ?_)) (S1.wpo (s_store1k sz_int rfl rfl rfl rfl (by repeat (first | exact Upd.here | apply Upd.there)) (by repeat constructor)) rfl ?_)
        refine ⟨(.nil _), ?_⟩
        refine WPA.putN ?_
        first | refine WPA.takeP 18 rfl (q_nilP rfl) (by kernel_rfl) (by kernel_rfl) (by kernel_rfl) rfl rfl (.nil _) ?_ | refine WPA.takeP 18 rfl (q_nilF rfl) (by kernel_rfl) (by kernel_rfl) (by kernel_rfl) rfl rfl (.nil _) ?_
        refine WPA.putS ?_
        first | refine WPA.takeP 19 rfl (q_faK fa_elect_Node_Role rfl) (by kernel_rfl) (by kernel_rfl) (by kernel_rfl) rfl rfl (.nil _) ?_ | refine WPA.takeP 19 rfl (q_fa fa_elect_Node_Role rfl) (by kernel_rfl) (by kernel_rfl) (by kernel_rfl) rfl rfl (.nil _) ?_
        refine WPA.putS ?_
        refine WPA.oneE 20 [] (by kernel_rfl) rfl rfl (by repeat (first | exact .nil | refine .anc rfl ?_ | refine .keep (by repeat (first | exact List.Mem.head _ | apply List.Mem.tail)) ?_)) (S1.wpo (s_store1k sz_int rfl rfl rfl rfl (by repeat (first | exact Upd.here | apply Upd.there)) (by repeat constructor)) rfl ?_)
        refine ⟨(.nil _), ?_⟩
        refine WPA.putN ?_
        refine WPA.done (by kernel_rfl) ?_
        refine WPC.region ?_
        first | refine L_s (q_faK fa_api_Msg_Kind rfl) rfl ?_ | refine L_s (q_fa fa_api_Msg_Kind rfl) rfl ?_
        refine WPL.cons rfl (S1.wpo (s_store1z sz_int rfl rfl rfl rfl (by repeat (first | exact Upd.here | apply Upd.there)) (by repeat constructor)) rfl ?_)
        refine WPL.putN ?_
        refine WPL.nil ?_
        refine thenQ_n ?_
        refine WPC.seqR ?_
        refine L_s (q_move rfl) rfl ?_
        refine L_s (q_move rfl) rfl ?_
        refine L_s (q_move rfl) rfl ?_
        first | refine L_s (q_nilP rfl) rfl ?_ | refine L_s (q_nilF rfl) rfl ?_
        first | refine L_s (q_faK fa_elect_Node_Me rfl) rfl ?_ | refine L_s (q_fa fa_elect_Node_Me rfl) rfl ?_
        first | refine L_s (q_load1z ld_int rfl (by repeat (first | exact List.Mem.head _ | apply List.Mem.tail)) (by rfl)) rfl ?_ | refine L_s (q_load1 ld_int rfl (by repeat (first | exact List.Mem.head _ | apply List.Mem.tail)) rfl (by rfl)) rfl ?_
        refine WPL.cons rfl (E1.wpo (e_buildSlice mk_sl_int (by decide) rfl rfl rfl) rfl ?_)
        rintro _ _ ⟨bY, rfl, rfl⟩
        refine WPL.putS ?_
        first | refine L_s (q_nilP rfl) rfl ?_ | refine L_s (q_nilF rfl) rfl ?_
        first | refine L_s (q_faK fa_elect_Node_Lead rfl) rfl ?_ | refine L_s (q_fa fa_elect_Node_Lead rfl) rfl ?_
        refine WPL.cons rfl (S1.wpo (s_store1k sz_int rfl rfl rfl rfl (by repeat (first | exact Upd.here | apply Upd.there)) (by repeat constructor)) rfl ?_)
        refine WPL.putN ?_
        first | refine L_s (q_nilP rfl) rfl ?_ | refine L_s (q_nilF rfl) rfl ?_
        first | refine L_s (q_faK fa_elect_Node_Yes rfl) rfl ?_ | refine L_s (q_fa fa_elect_Node_Yes rfl) rfl ?_
        refine WPL.cons rfl (S1.wpo (s_store1k sz_sl_int rfl rfl rfl rfl (by repeat (first | exact Upd.here | apply Upd.there)) (by repeat constructor)) rfl ?_)
        refine WPL.putN ?_
        refine WPL.nil ?_
        have hy : Sok 1 (some ⟨bY, 0, none⟩) 1 1 ([(mn : Int)].map (.int .i64)) := ⟨rfl, Nat.le_refl _, .inr (Pl.mk _ _)⟩
        refine WPC.prune [(0, _), (4, _), (5, _)] (by repeat (first | exact trivial | refine ⟨rfl, ?_⟩)) ?_
        refine WPC.seq ?_
        refine WPC.seqD mixed ?_
        refine WPA.takeP 0 rfl (q_move rfl) (by kernel_rfl) (by kernel_rfl) (by kernel_rfl) rfl rfl (.nil _) ?_
        refine WPA.putS ?_
        first | refine WPA.takeP 1 rfl (q_nilP rfl) (by kernel_rfl) (by kernel_rfl) (by kernel_rfl) rfl rfl (.nil _) ?_ | refine WPA.takeP 1 rfl (q_nilF rfl) (by kernel_rfl) (by kernel_rfl) (by kernel_rfl) rfl rfl (.nil _) ?_
        refine WPA.putS ?_
        first | refine WPA.takeP 2 rfl (q_faK fa_elect_Node_Conf rfl) (by kernel_rfl) (by kernel_rfl) (by kernel_rfl) rfl rfl (.nil _) ?_ | refine WPA.takeP 2 rfl (q_fa fa_elect_Node_Conf rfl) (by kernel_rfl) (by kernel_rfl) (by kernel_rfl) rfl rfl (.nil _) ?_
        refine WPA.putS ?_
        first | refine WPA.takeL 3 rfl (Ent.mem (by repeat (first | exact List.Mem.head _ | apply List.Mem.tail))) (q_load1z ld_sl_int rfl (.head _) (by rfl)) (by kernel_rfl) (by kernel_rfl) (by kernel_rfl) rfl rfl (.nil _) ?_ | refine WPA.takeL 3 rfl (Ent.mem (by repeat (first | exact List.Mem.head _ | apply List.Mem.tail))) (q_load1 ld_sl_int rfl (.head _) rfl (by rfl)) (by kernel_rfl) (by kernel_rfl) (by kernel_rfl) rfl rfl (.nil _) ?_
        refine WPA.putS ?_
        refine WPA.takeP 4 rfl (q_move rfl) (by kernel_rfl) (by kernel_rfl) (by kernel_rfl) rfl rfl (.cons (Ent.mem (by repeat (first | exact List.Mem.head _ | apply List.Mem.tail))) (.nil _)) ?_
        refine WPA.putS ?_
        first | refine WPA.takeP 5 rfl (q_nilP rfl) (by kernel_rfl) (by kernel_rfl) (by kernel_rfl) rfl rfl (.cons (Ent.mem (by repeat (first | exact List.Mem.head _ | apply List.Mem.tail))) (.nil _)) ?_ | refine WPA.takeP 5 rfl (q_nilF rfl) (by kernel_rfl) (by kernel_rfl) (by kernel_rfl) rfl rfl (.cons (Ent.mem (by repeat (first | exact List.Mem.head _ | apply List.Mem.tail))) (.nil _)) ?_
        refine WPA.putS ?_
        first | refine WPA.takeP 6 rfl (q_faK fa_elect_Node_Yes rfl) (by kernel_rfl) (by kernel_rfl) (by kernel_rfl) rfl rfl (.cons (Ent.mem (by repeat (first | exact List.Mem.head _ | apply List.Mem.tail))) (.nil _)) ?_ | refine WPA.takeP 6 rfl (q_fa fa_elect_Node_Yes rfl) (by kernel_rfl) (by kernel_rfl) (by kernel_rfl) rfl rfl (.cons (Ent.mem (by repeat (first | exact List.Mem.head _ | apply List.Mem.tail))) (.nil _)) ?_
        refine WPA.putS ?_
        first | refine WPA.takeL 7 rfl (Ent.mem (by repeat (first | exact List.Mem.head _ | apply List.Mem.tail))) (q_load1z ld_sl_int rfl (.head _) (by rfl)) (by kernel_rfl) (by kernel_rfl) (by kernel_rfl) rfl rfl (.cons (Ent.mem (by repeat (first | exact List.Mem.head _ | apply List.Mem.tail))) (.nil _)) ?_ | refine WPA.takeL 7 rfl (Ent.mem (by repeat (first | exact List.Mem.head _ | apply List.Mem.tail))) (q_load1 ld_sl_int rfl (.head _) rfl (by rfl)) (by kernel_rfl) (by kernel_rfl) (by kernel_rfl) rfl rfl (.cons (Ent.mem (by repeat (first | exact List.Mem.head _ | apply List.Mem.tail))) (.nil _)) ?_
        refine WPA.putS ?_
        refine WPA.oneE 8 [] (by kernel_rfl) rfl rfl (by repeat (first | exact .nil | refine .anc rfl ?_ | refine .keep (by repeat (first | exact List.Mem.head _ | apply List.Mem.tail)) ?_)) (C1.call (c_call Try.func31 rfl rfl rfl) (c_Agrees (ys := [(mn : Int)]) hc hy hcn (by omega)) (by repeat (first | exact Pick.nil | apply Pick.keep (by repeat (first | exact List.Mem.head _ | apply List.Mem.tail)) (by first | exact Pers.cells _ _ _ | exact Pers.slv _ _ _) | apply Pick.cons (by repeat (first | exact Pick1.here | apply Pick1.there)))) rfl ?_)
        rintro _ _ ⟨rfl, rfl⟩
        refine ⟨(.nil _), ?_⟩
        refine WPA.putS ?_
        refine WPA.done (by kernel_rfl) ?_
        refine WPC.cond rfl (fun h2 => ?_) (fun h2 => ?_)
        · have ef : EN.askR (⟨(mn : Int), vote, role, lead, conf, yes, term, commit, base, bt, es, heard, next, mtch⟩ : EN) = ((⟨(mn : Int), (mn : Int), 2, -1, conf, [(mn : Int)], term + 1, commit, base, bt, es, heard, next, mtch⟩ : EN).lead5, []) := by simp [EN.askR, h0, h2]
          refine WPC.seqR ?_
          refine L_s (q_move rfl) rfl ?_
          refine WPL.imp ((Imp.pick (Δ := cells true bY 0 [.int .i64 (mn : Int)] :: cells true b o (nodeC (⟨(mn : Int), (mn : Int), 2, -1, conf, [(mn : Int)], term + 1, commit, base, bt, es, heard, next, mtch⟩ : EN) (⟨ca, cn, cc, some ⟨bY, 0, none⟩, 1, 1, ea, en, ec, na, ma⟩ : NL)) :: sl false ca (conf.map (.int .i64)) :: sl false ea (es.flatMap encE) :: cells true na 0 (next.map (.int .u64)) :: cells true ma 0 (mtch.map (.int .u64)) :: []) (by repeat (first | exact Pick.nil | apply Pick.keep (by repeat (first | exact List.Mem.head _ | apply List.Mem.tail)) (by first | exact Pers.cells _ _ _ | exact Pers.slv _ _ _) | apply Pick.cons (by repeat (first | exact Pick1.here | apply Pick1.there))))).trans ((Imp.bufNew (sz := 1) (n := 1) rfl).trans ((Imp.pick (by repeat (first | exact Pick.nil | apply Pick.keep (by repeat (first | exact List.Mem.head _ | apply List.Mem.tail)) (by first | exact Pers.cells _ _ _ | exact Pers.slv _ _ _) | apply Pick.cons (by repeat (first | exact Pick1.here | apply Pick1.there))))).trans (enode_close (x := (⟨(mn : Int), (mn : Int), 2, -1, conf, [(mn : Int)], term + 1, commit, base, bt, es, heard, next, mtch⟩ : EN)) (b := b) (o := o) (⟨ca, cn, cc, some ⟨bY, 0, none⟩, 1, 1, ea, en, ec, na, ma⟩ : NL) ⟨hc, hcn, he, hen, hnx, hmt⟩ (Γ := []))))) ?_
          refine WPL.cons rfl (C1.call (c_call Try.func32 rfl rfl rfl) (c_chosenL (x := (⟨(mn : Int), (mn : Int), 2, -1, conf, [(mn : Int)], term + 1, commit, base, bt, es, heard, next, mtch⟩ : EN)) ⟨hme, by dsimp only; omega, hbase, hes, by simp⟩ (by dsimp only; omega)) (by repeat (first | exact Pick.nil | apply Pick.keep (by repeat (first | exact List.Mem.head _ | apply List.Mem.tail)) (by first | exact Pers.cells _ _ _ | exact Pers.slv _ _ _) | apply Pick.cons (by repeat (first | exact Pick1.here | apply Pick1.there)))) rfl ?_)
          rintro _ _ ⟨a, c, rfl, rfl⟩
          refine WPL.putS ?_
          refine L_s (q_assign rfl) rfl ?_
          refine WPL.nil ?_
          refine WPC.ret ?_
          refine thenQ_r ?_
          rw [ef]
          exact endR_r rfl (.tmp rfl .nil) (Imp.pick (by repeat (first | exact Pick.nil | apply Pick.keep (by repeat (first | exact List.Mem.head _ | apply List.Mem.tail)) (by first | exact Pers.cells _ _ _ | exact Pers.slv _ _ _) | apply Pick.cons (by repeat (first | exact Pick1.here | apply Pick1.there))))) ⟨a, c, rfl, rfl⟩
        · have ef : EN.askR (⟨(mn : Int), vote, role, lead, conf, yes, term, commit, base, bt, es, heard, next, mtch⟩ : EN) = ((⟨(mn : Int), (mn : Int), 2, -1, conf, [(mn : Int)], term + 1, commit, base, bt, es, heard, next, mtch⟩ : EN), EN.toAll (⟨(mn : Int), (mn : Int), 2, -1, conf, [(mn : Int)], term + 1, commit, base, bt, es, heard, next, mtch⟩ : EN) (msg 1 0 0 (term + 1) (base + (en : Int)) (lgLastTerm bt es) false)) := by simp [EN.askR, h0, h2, EN.last, hel]
          refine WPC.skip ?_
          refine thenQ_n ?_
          refine WPC.seqR ?_
          refine L_s (q_move rfl) rfl ?_
          first | refine L_s (q_loadNz (us := [_, _, _, _, _, _, _, _, _, _]) ld_api_Msg rfl (by repeat (first | exact List.Mem.head _ | apply List.Mem.tail)) (by exact ⟨rfl, rfl⟩)) rfl ?_ | refine L_s (q_loadNk (us := [_, _, _, _, _, _, _, _, _, _]) ld_api_Msg rfl (by repeat (first | exact List.Mem.head _ | apply List.Mem.tail)) (by exact ⟨rfl, rfl⟩)) rfl ?_
          refine WPL.cons rfl (C1.call (c_call Try.func33 rfl rfl rfl) (c_toAll (x := (⟨(mn : Int), (mn : Int), 2, -1, conf, [(mn : Int)], term + 1, commit, base, bt, es, heard, next, mtch⟩ : EN)) (L := (⟨ca, cn, cc, some ⟨bY, 0, none⟩, 1, 1, ea, en, ec, na, ma⟩ : NL)) hc hcn (msg 1 0 0 (term + 1) (base + (en : Int)) (lgLastTerm bt es) false)) (by repeat (first | exact Pick.nil | apply Pick.keep (by repeat (first | exact List.Mem.head _ | apply List.Mem.tail)) (by first | exact Pers.cells _ _ _ | exact Pers.slv _ _ _) | apply Pick.cons (by repeat (first | exact Pick1.here | apply Pick1.there)))) rfl ?_)
          rintro _ _ ⟨a, c, rfl, rfl⟩
          refine WPL.putS ?_
          refine L_s (q_assign rfl) rfl ?_
          refine WPL.nil ?_
          refine WPC.ret ?_
          rw [ef]
          exact endR_r rfl (.tmp rfl .nil) (((Imp.pick (Δ := cells true bY 0 [.int .i64 (mn : Int)] :: cells true b o (nodeC (⟨(mn : Int), (mn : Int), 2, -1, conf, [(mn : Int)], term + 1, commit, base, bt, es, heard, next, mtch⟩ : EN) (⟨ca, cn, cc, some ⟨bY, 0, none⟩, 1, 1, ea, en, ec, na, ma⟩ : NL)) :: sl false ca (conf.map (.int .i64)) :: sl false ea (es.flatMap encE) :: cells true na 0 (next.map (.int .u64)) :: cells true ma 0 (mtch.map (.int .u64)) :: [buf 10 a (EN.toAll (⟨(mn : Int), (mn : Int), 2, -1, conf, [(mn : Int)], term + 1, commit, base, bt, es, heard, next, mtch⟩ : EN) (msg 1 0 0 (term + 1) (base + (en : Int)) (lgLastTerm bt es) false)).length c ((EN.toAll (⟨(mn : Int), (mn : Int), 2, -1, conf, [(mn : Int)], term + 1, commit, base, bt, es, heard, next, mtch⟩ : EN) (msg 1 0 0 (term + 1) (base + (en : Int)) (lgLastTerm bt es) false)).flatMap encM)]) (by repeat (first | exact Pick.nil | apply Pick.keep (by repeat (first | exact List.Mem.head _ | apply List.Mem.tail)) (by first | exact Pers.cells _ _ _ | exact Pers.slv _ _ _) | apply Pick.cons (by repeat (first | exact Pick1.here | apply Pick1.there))))).trans ((Imp.bufNew (sz := 1) (n := 1) rfl).trans ((Imp.pick (by repeat (first | exact Pick.nil | apply Pick.keep (by repeat (first | exact List.Mem.head _ | apply List.Mem.tail)) (by first | exact Pers.cells _ _ _ | exact Pers.slv _ _ _) | apply Pick.cons (by repeat (first | exact Pick1.here | apply Pick1.there))))).trans (enode_close (x := (⟨(mn : Int), (mn : Int), 2, -1, conf, [(mn : Int)], term + 1, commit, base, bt, es, heard, next, mtch⟩ : EN)) (b := b) (o := o) (⟨ca, cn, cc, some ⟨bY, 0, none⟩, 1, 1, ea, en, ec, na, ma⟩ : NL) ⟨hc, hcn, he, hen, hnx, hmt⟩ (Γ := [buf 10 a (EN.toAll (⟨(mn : Int), (mn : Int), 2, -1, conf, [(mn : Int)], term + 1, commit, base, bt, es, heard, next, mtch⟩ : EN) (msg 1 0 0 (term + 1) (base + (en : Int)) (lgLastTerm bt es) false)).length c ((EN.toAll (⟨(mn : Int), (mn : Int), 2, -1, conf, [(mn : Int)], term + 1, commit, base, bt, es, heard, next, mtch⟩ : EN) (msg 1 0 0 (term + 1) (base + (en : Int)) (lgLastTerm bt es) false)).flatMap encM)])))))) ⟨a, c, rfl, rfl⟩
      · try simp only [decide_eq_true_eq, decide_eq_false_iff_not, beq_iff_eq, bne_iff_ne, beq_eq_false_iff_ne, bne_eq_false_iff_eq, Bool.not_eq_true', Bool.not_eq_false', Bool.not_eq_eq_eq_not, Bool.not_true, Bool.not_false, ne_eq, Decidable.not_not, Int.not_lt, Int.not_le, gt_iff_lt, ge_iff_le] at h1
        exact absurd h1 (by decide)

theorem c_chosenA {b o : Nat} {x : EN} (hx : x.fits) (hr : x.role = 1) (ht : x.term + 1 < 2305843009213693952) : Trip Try.prog 32 #[.pointer (some ⟨b, o, none⟩)] [enode b o x] fun r Δ => ∃ (a : Option Addr) (c : Nat), r = .slice a x.askR.2.length c ∧ Δ = [enode b o x.askR.1, buf 10 a x.askR.2.length c (x.askR.2.flatMap encM)] := by
  have hx' := hx
  have ht' := ht
  obtain ⟨me, vote, role, lead, conf, yes, term, commit, base, bt, es, heard, next, mtch⟩ := x
  dsimp only at hr ht
  obtain ⟨hme, hterm, hbase, hes, hys⟩ := hx
  dsimp only at hme hterm hbase hes
  obtain ⟨mn, rfl⟩ : ∃ mn : Nat, me = (mn : Int) := ⟨me.toNat, by omega⟩
  refine enode_open fun L hL => ?_
  obtain ⟨ca, cn, cc, ya, yn, yc, ea, en, ec, na, ma⟩ := L
  obtain ⟨hc, hcn, he, hen, hnx, hmt⟩ := hL
  dsimp only at hc hcn he hen hnx hmt
  dsimp only [nodeC]
  have hel : es.length = en := by have := he.len; rw [flat_length encE_len] at this; omega
  refine Trip.start 12 [.tmp 2] [(0, .pointer (some ⟨b, o, none⟩))] Try.func32 rfl Try.ntmps32 rfl ⟨rfl, trivial⟩ rfl ?_
  refine WPC.seqR ?_
  refine L_s (q_assign rfl) rfl ?_
  refine WPL.nil ?_
  refine WPC.seq ?_
  refine WPC.seqR ?_
  refine L_s (q_move rfl) rfl ?_
  first | refine L_s (q_nilP rfl) rfl ?_ | refine L_s (q_nilF rfl) rfl ?_
  first | refine L_s (q_faK fa_elect_Node_Role rfl) rfl ?_ | refine L_s (q_fa fa_elect_Node_Role rfl) rfl ?_
  first | refine L_s (q_load1z ld_int rfl (by repeat (first | exact List.Mem.head _ | apply List.Mem.tail)) (by rfl)) rfl ?_ | refine L_s (q_load1 ld_int rfl (by repeat (first | exact List.Mem.head _ | apply List.Mem.tail)) rfl (by rfl)) rfl ?_
  refine L_s (q_int rfl rfl rfl) rfl ?_
  refine WPL.nil ?_
  refine WPC.cond rfl (fun h0 => ?_) (fun h0 => ?_)
  · try simp only [decide_eq_true_eq, decide_eq_false_iff_not, beq_iff_eq, bne_iff_ne, beq_eq_false_iff_ne, bne_eq_false_iff_eq, Bool.not_eq_true', Bool.not_eq_false', Bool.not_eq_eq_eq_not, Bool.not_true, Bool.not_false, ne_eq, Decidable.not_not, Int.not_lt, Int.not_le, gt_iff_lt, ge_iff_le] at h0
    refine WPC.seqR ?_
    refine L_s (q_move rfl) rfl ?_
    refine WPL.imp ((Imp.pick (by repeat (first | exact Pick.nil | apply Pick.keep (by repeat (first | exact List.Mem.head _ | apply List.Mem.tail)) (by first | exact Pers.cells _ _ _ | exact Pers.slv _ _ _) | apply Pick.cons (by repeat (first | exact Pick1.here | apply Pick1.there))))).trans (enode_close (x := (⟨(mn : Int), vote, role, lead, conf, yes, term, commit, base, bt, es, heard, next, mtch⟩ : EN)) (b := b) (o := o) ⟨ca, cn, cc, ya, yn, yc, ea, en, ec, na, ma⟩ ⟨hc, hcn, he, hen, hnx, hmt⟩ (Γ := []))) ?_
    refine WPL.cons rfl (C1.call (c_call Try.func8 rfl rfl rfl) (c_AskR hx' ht') (by repeat (first | exact Pick.nil | apply Pick.keep (by repeat (first | exact List.Mem.head _ | apply List.Mem.tail)) (by first | exact Pers.cells _ _ _ | exact Pers.slv _ _ _) | apply Pick.cons (by repeat (first | exact Pick1.here | apply Pick1.there)))) rfl ?_)
    rintro _ _ ⟨a, c, rfl, rfl⟩
    refine WPL.putS ?_
    refine L_s (q_assign rfl) rfl ?_
    refine WPL.nil ?_
    refine WPC.ret ?_
    refine thenQ_r ?_
    exact endR_r rfl (.tmp rfl .nil) (Imp.pick (by repeat (first | exact Pick.nil | apply Pick.keep (by repeat (first | exact List.Mem.head _ | apply List.Mem.tail)) (by first | exact Pers.cells _ _ _ | exact Pers.slv _ _ _) | apply Pick.cons (by repeat (first | exact Pick1.here | apply Pick1.there))))) ⟨a, c, rfl, rfl⟩
  · try simp only [decide_eq_true_eq, decide_eq_false_iff_not, beq_iff_eq, bne_iff_ne, beq_eq_false_iff_ne, bne_eq_false_iff_eq, Bool.not_eq_true', Bool.not_eq_false', Bool.not_eq_eq_eq_not, Bool.not_true, Bool.not_false, ne_eq, Decidable.not_not, Int.not_lt, Int.not_le, gt_iff_lt, ge_iff_le] at h0
    exact absurd hr h0

theorem c_AskP {b o : Nat} {x : EN} (hx : x.fits) (ht : x.term + 1 < 2305843009213693952) : Trip Try.prog 8 #[.pointer (some ⟨b, o, none⟩), .bool false] [enode b o x] fun r Δ => ∃ (a : Option Addr) (c : Nat), r = .slice a x.askP.2.length c ∧ Δ = [enode b o x.askP.1, buf 10 a x.askP.2.length c (x.askP.2.flatMap encM)] := by
  obtain ⟨me, vote, role, lead, conf, yes, term, commit, base, bt, es, heard, next, mtch⟩ := x
  obtain ⟨hme, hterm, hbase, hes, hys⟩ := hx
  dsimp only at ht hme hterm hbase hes
  obtain ⟨mn, rfl⟩ : ∃ mn : Nat, me = (mn : Int) := ⟨me.toNat, by omega⟩
  refine enode_open fun L hL => ?_
  obtain ⟨ca, cn, cc, ya, yn, yc, ea, en, ec, na, ma⟩ := L
  obtain ⟨hc, hcn, he, hen, hnx, hmt⟩ := hL
  dsimp only at hc hcn he hen hnx hmt
  dsimp only [nodeC]
  have hel : es.length = en := by have := he.len; rw [flat_length encE_len] at this; omega
  have hb : 0 ≤ base ∧ base ≤ 4611686018427387904 := by omega
  refine Trip.start 80 [.tmp 4] [(0, .pointer (some ⟨b, o, none⟩)), (1, .bool false)] Try.func8 rfl Try.ntmps8 rfl ⟨rfl, rfl, trivial⟩ rfl ?_
  refine WPC.seqR ?_
  refine L_s (q_assign rfl) rfl ?_
  refine WPL.nil ?_
  refine WPC.seq ?_
  refine WPC.seqD mixed ?_
  refine WPA.takeP 0 rfl (q_move rfl) (by kernel_rfl) (by kernel_rfl) (by kernel_rfl) rfl rfl (.nil _) ?_
  refine WPA.putS ?_
  first | refine WPA.takeP 1 rfl (q_nilP rfl) (by kernel_rfl) (by kernel_rfl) (by kernel_rfl) rfl rfl (.nil _) ?_ | refine WPA.takeP 1 rfl (q_nilF rfl) (by kernel_rfl) (by kernel_rfl) (by kernel_rfl) rfl rfl (.nil _) ?_
  refine WPA.putS ?_
  first | refine WPA.takeP 2 rfl (q_faK fa_elect_Node_Conf rfl) (by kernel_rfl) (by kernel_rfl) (by kernel_rfl) rfl rfl (.nil _) ?_ | refine WPA.takeP 2 rfl (q_fa fa_elect_Node_Conf rfl) (by kernel_rfl) (by kernel_rfl) (by kernel_rfl) rfl rfl (.nil _) ?_
  refine WPA.putS ?_
  first | refine WPA.takeL 3 rfl (Ent.mem (by repeat (first | exact List.Mem.head _ | apply List.Mem.tail))) (q_load1z ld_sl_int rfl (.head _) (by rfl)) (by kernel_rfl) (by kernel_rfl) (by kernel_rfl) rfl rfl (.nil _) ?_ | refine WPA.takeL 3 rfl (Ent.mem (by repeat (first | exact List.Mem.head _ | apply List.Mem.tail))) (q_load1 ld_sl_int rfl (.head _) rfl (by rfl)) (by kernel_rfl) (by kernel_rfl) (by kernel_rfl) rfl rfl (.nil _) ?_
  refine WPA.putS ?_
  refine WPA.takeP 4 rfl (q_move rfl) (by kernel_rfl) (by kernel_rfl) (by kernel_rfl) rfl rfl (.cons (Ent.mem (by repeat (first | exact List.Mem.head _ | apply List.Mem.tail))) (.nil _)) ?_
  refine WPA.putS ?_
  first | refine WPA.takeP 5 rfl (q_nilP rfl) (by kernel_rfl) (by kernel_rfl) (by kernel_rfl) rfl rfl (.cons (Ent.mem (by repeat (first | exact List.Mem.head _ | apply List.Mem.tail))) (.nil _)) ?_ | refine WPA.takeP 5 rfl (q_nilF rfl) (by kernel_rfl) (by kernel_rfl) (by kernel_rfl) rfl rfl (.cons (Ent.mem (by repeat (first | exact List.Mem.head _ | apply List.Mem.tail))) (.nil _)) ?_
  refine WPA.putS ?_
  first | refine WPA.takeP 6 rfl (q_faK fa_elect_Node_Me rfl) (by kernel_rfl) (by kernel_rfl) (by kernel_rfl) rfl rfl (.cons (Ent.mem (by repeat (first | exact List.Mem.head _ | apply List.Mem.tail))) (.nil _)) ?_ | refine WPA.takeP 6 rfl (q_fa fa_elect_Node_Me rfl) (by kernel_rfl) (by kernel_rfl) (by kernel_rfl) rfl rfl (.cons (Ent.mem (by repeat (first | exact List.Mem.head _ | apply List.Mem.tail))) (.nil _)) ?_
  refine WPA.putS ?_
  first | refine WPA.takeL 7 rfl (Ent.mem (by repeat (first | exact List.Mem.head _ | apply List.Mem.tail))) (q_load1z ld_int rfl (.head _) (by rfl)) (by kernel_rfl) (by kernel_rfl) (by kernel_rfl) rfl rfl (.cons (Ent.mem (by repeat (first | exact List.Mem.head _ | apply List.Mem.tail))) (.nil _)) ?_ | refine WPA.takeL 7 rfl (Ent.mem (by repeat (first | exact List.Mem.head _ | apply List.Mem.tail))) (q_load1 ld_int rfl (.head _) rfl (by rfl)) (by kernel_rfl) (by kernel_rfl) (by kernel_rfl) rfl rfl (.cons (Ent.mem (by repeat (first | exact List.Mem.head _ | apply List.Mem.tail))) (.nil _)) ?_
  refine WPA.putS ?_
  refine WPA.oneE 8 [] (by kernel_rfl) rfl rfl (by repeat (first | exact .nil | refine .anc rfl ?_ | refine .keep (by repeat (first | exact List.Mem.head _ | apply List.Mem.tail)) ?_)) (C1.call (c_call Try.func28 rfl rfl rfl) (c_Contains hc hcn mn) (by repeat (first | exact Pick.nil | apply Pick.keep (by repeat (first | exact List.Mem.head _ | apply List.Mem.tail)) (by first | exact Pers.cells _ _ _ | exact Pers.slv _ _ _) | apply Pick.cons (by repeat (first | exact Pick1.here | apply Pick1.there)))) rfl ?_)
  rintro _ _ ⟨rfl, rfl⟩
  refine ⟨(.nil _), ?_⟩
  refine WPA.putS ?_
  refine WPA.takeP 9 rfl (q_not rfl) (by kernel_rfl) (by kernel_rfl) (by kernel_rfl) rfl rfl (.nil _) ?_
  refine WPA.putS ?_
  refine WPA.done (by kernel_rfl) ?_
  refine WPC.cond rfl (fun h0 => ?_) (fun h0 => ?_)
  · simp only [Bool.not_eq_true', decide_eq_false_iff_not] at h0
    refine WPC.seqR ?_
    refine L_s (q_assign rfl) rfl ?_
    refine WPL.nil ?_
    refine WPC.ret ?_
    refine thenQ_r ?_
    rw [show EN.askP (⟨(mn : Int), vote, role, lead, conf, yes, term, commit, base, bt, es, heard, next, mtch⟩ : EN) = ((⟨(mn : Int), vote, role, lead, conf, yes, term, commit, base, bt, es, heard, next, mtch⟩ : EN), []) by simp [EN.askP, h0]]
    exact endR_r rfl (.tmp rfl .nil) ((Imp.bufNil (sz := 10)).trans ((Imp.pick (by repeat (first | exact Pick.nil | apply Pick.keep (by repeat (first | exact List.Mem.head _ | apply List.Mem.tail)) (by first | exact Pers.cells _ _ _ | exact Pers.slv _ _ _) | apply Pick.cons (by repeat (first | exact Pick1.here | apply Pick1.there))))).trans (enode_close ⟨ca, cn, cc, ya, yn, yc, ea, en, ec, na, ma⟩ ⟨hc, hcn, he, hen, hnx, hmt⟩ (Γ := [buf 10 none 0 0 []])))) ⟨none, 0, rfl, rfl⟩
  · simp only [Bool.not_eq_false', decide_eq_true_eq] at h0
    refine WPC.skip ?_
    refine thenQ_n ?_
    refine WPC.seqD mixed ?_
    refine WPA.takeP 0 rfl (q_move rfl) (by kernel_rfl) (by kernel_rfl) (by kernel_rfl) rfl rfl (.nil _) ?_
    refine WPA.putS ?_
    first | refine WPA.takeP 1 rfl (q_nilP rfl) (by kernel_rfl) (by kernel_rfl) (by kernel_rfl) rfl rfl (.nil _) ?_ | refine WPA.takeP 1 rfl (q_nilF rfl) (by kernel_rfl) (by kernel_rfl) (by kernel_rfl) rfl rfl (.nil _) ?_
    refine WPA.putS ?_
    first | refine WPA.takeP 2 rfl (q_faK fa_elect_Node_Term rfl) (by kernel_rfl) (by kernel_rfl) (by kernel_rfl) rfl rfl (.nil _) ?_ | refine WPA.takeP 2 rfl (q_fa fa_elect_Node_Term rfl) (by kernel_rfl) (by kernel_rfl) (by kernel_rfl) rfl rfl (.nil _) ?_
    refine WPA.putS ?_
    first | refine WPA.takeL 3 rfl (Ent.mem (by repeat (first | exact List.Mem.head _ | apply List.Mem.tail))) (q_load1z ld_uint64 rfl (.head _) (by rfl)) (by kernel_rfl) (by kernel_rfl) (by kernel_rfl) rfl rfl (.nil _) ?_ | refine WPA.takeL 3 rfl (Ent.mem (by repeat (first | exact List.Mem.head _ | apply List.Mem.tail))) (q_load1 ld_uint64 rfl (.head _) rfl (by rfl)) (by kernel_rfl) (by kernel_rfl) (by kernel_rfl) rfl rfl (.nil _) ?_
    refine WPA.putS ?_
    first | refine WPA.takeP 4 rfl (q_addU rfl rfl (by omega)) (by kernel_rfl) (by kernel_rfl) (by kernel_rfl) rfl rfl (.cons (Ent.mem (by repeat (first | exact List.Mem.head _ | apply List.Mem.tail))) (.nil _)) ?_ | refine WPA.takeP 4 rfl (q_int rfl rfl rfl) (by kernel_rfl) (by kernel_rfl) (by kernel_rfl) rfl rfl (.cons (Ent.mem (by repeat (first | exact List.Mem.head _ | apply List.Mem.tail))) (.nil _)) ?_
    refine WPA.putS ?_
    refine WPA.takeP 5 rfl (q_move rfl) (by kernel_rfl) (by kernel_rfl) (by kernel_rfl) rfl rfl (.cons (Ent.mem (by repeat (first | exact List.Mem.head _ | apply List.Mem.tail))) (.nil _)) ?_
    refine WPA.putS ?_
    first | refine WPA.takeP 6 rfl (q_nilP rfl) (by kernel_rfl) (by kernel_rfl) (by kernel_rfl) rfl rfl (.cons (Ent.mem (by repeat (first | exact List.Mem.head _ | apply List.Mem.tail))) (.nil _)) ?_ | refine WPA.takeP 6 rfl (q_nilF rfl) (by kernel_rfl) (by kernel_rfl) (by kernel_rfl) rfl rfl (.cons (Ent.mem (by repeat (first | exact List.Mem.head _ | apply List.Mem.tail))) (.nil _)) ?_
    refine WPA.putS ?_
    first | refine WPA.takeP 7 rfl (q_faK fa_elect_Node_Log rfl) (by kernel_rfl) (by kernel_rfl) (by kernel_rfl) rfl rfl (.cons (Ent.mem (by repeat (first | exact List.Mem.head _ | apply List.Mem.tail))) (.nil _)) ?_ | refine WPA.takeP 7 rfl (q_fa fa_elect_Node_Log rfl) (by kernel_rfl) (by kernel_rfl) (by kernel_rfl) rfl rfl (.cons (Ent.mem (by repeat (first | exact List.Mem.head _ | apply List.Mem.tail))) (.nil _)) ?_
    refine WPA.putS ?_
    first | refine WPA.takeL 8 rfl (Ent.mem (by repeat (first | exact List.Mem.head _ | apply List.Mem.tail))) (q_loadNz (us := [_, _, _]) ld_terms_Log rfl (.head _) (by exact ⟨rfl, rfl⟩)) (by kernel_rfl) (by kernel_rfl) (by kernel_rfl) rfl rfl (.cons (Ent.mem (by repeat (first | exact List.Mem.head _ | apply List.Mem.tail))) (.nil _)) ?_ | refine WPA.takeL 8 rfl (Ent.mem (by repeat (first | exact List.Mem.head _ | apply List.Mem.tail))) (q_loadNk (us := [_, _, _]) ld_terms_Log rfl (.head _) (by exact ⟨rfl, rfl⟩)) (by kernel_rfl) (by kernel_rfl) (by kernel_rfl) rfl rfl (.cons (Ent.mem (by repeat (first | exact List.Mem.head _ | apply List.Mem.tail))) (.nil _)) ?_
    refine WPA.putS ?_
    refine WPA.takeP 10 rfl (q_move rfl) (by kernel_rfl) (by kernel_rfl) (by kernel_rfl) rfl rfl (.cons (Ent.mem (by repeat (first | exact List.Mem.head _ | apply List.Mem.tail))) (.cons (Ent.mem (by repeat (first | exact List.Mem.head _ | apply List.Mem.tail))) (.nil _))) ?_
    refine WPA.putS ?_
    first | refine WPA.takeP 11 rfl (q_nilP rfl) (by kernel_rfl) (by kernel_rfl) (by kernel_rfl) rfl rfl (.cons (Ent.mem (by repeat (first | exact List.Mem.head _ | apply List.Mem.tail))) (.cons (Ent.mem (by repeat (first | exact List.Mem.head _ | apply List.Mem.tail))) (.nil _))) ?_ | refine WPA.takeP 11 rfl (q_nilF rfl) (by kernel_rfl) (by kernel_rfl) (by kernel_rfl) rfl rfl (.cons (Ent.mem (by repeat (first | exact List.Mem.head _ | apply List.Mem.tail))) (.cons (Ent.mem (by repeat (first | exact List.Mem.head _ | apply List.Mem.tail))) (.nil _))) ?_
    refine WPA.putS ?_
    first | refine WPA.takeP 12 rfl (q_faK fa_elect_Node_Log rfl) (by kernel_rfl) (by kernel_rfl) (by kernel_rfl) rfl rfl (.cons (Ent.mem (by repeat (first | exact List.Mem.head _ | apply List.Mem.tail))) (.cons (Ent.mem (by repeat (first | exact List.Mem.head _ | apply List.Mem.tail))) (.nil _))) ?_ | refine WPA.takeP 12 rfl (q_fa fa_elect_Node_Log rfl) (by kernel_rfl) (by kernel_rfl) (by kernel_rfl) rfl rfl (.cons (Ent.mem (by repeat (first | exact List.Mem.head _ | apply List.Mem.tail))) (.cons (Ent.mem (by repeat (first | exact List.Mem.head _ | apply List.Mem.tail))) (.nil _))) ?_
    refine WPA.putS ?_
    first | refine WPA.takeL 13 rfl (Ent.mem (by repeat (first | exact List.Mem.head _ | apply List.Mem.tail))) (q_loadNz (us := [_, _, _]) ld_terms_Log rfl (.head _) (by exact ⟨rfl, rfl⟩)) (by kernel_rfl) (by kernel_rfl) (by kernel_rfl) rfl rfl (.cons (Ent.mem (by repeat (first | exact List.Mem.head _ | apply List.Mem.tail))) (.cons (Ent.mem (by repeat (first | exact List.Mem.head _ | apply List.Mem.tail))) (.nil _))) ?_ | refine WPA.takeL 13 rfl (Ent.mem (by repeat (first | exact List.Mem.head _ | apply List.Mem.tail))) (q_loadNk (us := [_, _, _]) ld_terms_Log rfl (.head _) (by exact ⟨rfl, rfl⟩)) (by kernel_rfl) (by kernel_rfl) (by kernel_rfl) rfl rfl (.cons (Ent.mem (by repeat (first | exact List.Mem.head _ | apply List.Mem.tail))) (.cons (Ent.mem (by repeat (first | exact List.Mem.head _ | apply List.Mem.tail))) (.nil _))) ?_
    refine WPA.putS ?_
    refine WPA.two 9 16 (by kernel_rfl) ?_ ?_
    · refine Eff.mk 9 [(13, [_]), (3, [_])] rfl rfl (by repeat (first | exact .nil | refine .anc rfl ?_ | refine .keep (by repeat (first | exact List.Mem.head _ | apply List.Mem.tail)) ?_)) (C1.call (c_call Try.func29 rfl rfl rfl) (c_Last hb hen) (by repeat (first | exact Pick.nil | apply Pick.keep (by repeat (first | exact List.Mem.head _ | apply List.Mem.tail)) (by first | exact Pers.cells _ _ _ | exact Pers.slv _ _ _) | apply Pick.cons (by repeat (first | exact Pick1.here | apply Pick1.there)))) rfl ?_)
      rintro _ _ ⟨rfl, rfl⟩
      refine ⟨(.cons (Ent.mem (by repeat (first | exact List.Mem.head _ | apply List.Mem.tail))) (.cons (Ent.mem (by repeat (first | exact List.Mem.head _ | apply List.Mem.tail))) (.nil _))), ?_⟩
      refine WPA.putS ?_
      refine WPA.two 14 16 (by kernel_rfl) ?_ ?_
      · refine Eff.mk 14 [(3, [_])] rfl rfl (by repeat (first | exact .nil | refine .anc rfl ?_ | refine .keep (by repeat (first | exact List.Mem.head _ | apply List.Mem.tail)) ?_)) (C1.call (c_call Try.func30 rfl rfl rfl) (c_LastTerm he hb hen) (by repeat (first | exact Pick.nil | apply Pick.keep (by repeat (first | exact List.Mem.head _ | apply List.Mem.tail)) (by first | exact Pers.cells _ _ _ | exact Pers.slv _ _ _) | apply Pick.cons (by repeat (first | exact Pick1.here | apply Pick1.there)))) rfl ?_)
        rintro _ _ ⟨rfl, rfl⟩
        refine ⟨(.cons (Ent.mem (by repeat (first | exact List.Mem.head _ | apply List.Mem.tail))) (.nil _)), ?_⟩
        refine WPA.putS ?_
        refine WPA.takeP 15 rfl (q_build (cs := [_, _, _, _, _, _, _, _, _, _]) pl_api_Msg rfl rfl) (by kernel_rfl) (by kernel_rfl) (by kernel_rfl) rfl rfl (.cons (Ent.mem (by repeat (first | exact List.Mem.head _ | apply List.Mem.tail))) (.nil _)) ?_
        refine WPA.putS ?_
        refine WPA.oneE 16 [(3, [_])] (by kernel_rfl) rfl rfl (by repeat (first | exact .nil | refine .anc rfl ?_ | refine .keep (by repeat (first | exact List.Mem.head _ | apply List.Mem.tail)) ?_)) (E1.wpo (e_allocL zl_api_Msg) rfl ?_)
        rintro _ _ ⟨bm, rfl, rfl⟩
        refine ⟨(.cons (Ent.mem (by repeat (first | exact List.Mem.head _ | apply List.Mem.tail))) (.nil _)), ?_⟩
        refine WPA.putS ?_
        refine WPA.oneE 17 [] (by kernel_rfl) rfl rfl (by repeat (first | exact .nil | refine .anc rfl ?_ | refine .keep (by repeat (first | exact List.Mem.head _ | apply List.Mem.tail)) ?_)) (S1.wpo (s_storeNz sz_api_Msg rfl rfl (by simp [Value.oneCell']) rfl (by repeat (first | exact Upd.here | apply Upd.there)) (by repeat constructor)) rfl ?_)
        refine ⟨(.nil _), ?_⟩
        refine WPA.putN ?_
        refine WPA.done (by kernel_rfl) ?_
        refine WPC.seqR ?_
        refine L_s (q_move rfl) rfl ?_
        first | refine L_s (q_nilP rfl) rfl ?_ | refine L_s (q_nilF rfl) rfl ?_
        first | refine L_s (q_faK fa_elect_Node_Role rfl) rfl ?_ | refine L_s (q_fa fa_elect_Node_Role rfl) rfl ?_
        refine WPL.cons rfl (S1.wpo (s_store1k sz_int rfl rfl rfl rfl (by repeat (first | exact Upd.here | apply Upd.there)) (by repeat constructor)) rfl ?_)
        refine WPL.putN ?_
        refine WPL.nil ?_
        refine WPC.prune [(0, _), (1, _), (4, _), (5, _)] (by repeat (first | exact trivial | refine ⟨rfl, ?_⟩)) ?_
        refine WPC.seq ?_
        refine WPC.seqR ?_
        refine L_s (q_move rfl) rfl ?_
        refine WPL.nil ?_
        refine WPC.cond rfl (fun h1 => ?_) (fun h1 => ?_)
        · try simp only [decide_eq_true_eq, decide_eq_false_iff_not, beq_iff_eq, bne_iff_ne, beq_eq_false_iff_ne, bne_eq_false_iff_eq, Bool.not_eq_true', Bool.not_eq_false', Bool.not_eq_eq_eq_not, Bool.not_true, Bool.not_false, ne_eq, Decidable.not_not, Int.not_lt, Int.not_le, gt_iff_lt, ge_iff_le] at h1
          exact absurd h1 (by decide)
        · try simp only [decide_eq_true_eq, decide_eq_false_iff_not, beq_iff_eq, bne_iff_ne, beq_eq_false_iff_ne, bne_eq_false_iff_eq, Bool.not_eq_true', Bool.not_eq_false', Bool.not_eq_eq_eq_not, Bool.not_true, Bool.not_false, ne_eq, Decidable.not_not, Int.not_lt, Int.not_le, gt_iff_lt, ge_iff_le] at h1
          refine WPC.skip ?_
          refine thenQ_n ?_
          refine WPC.seqR ?_
          refine L_s (q_move rfl) rfl ?_
          refine L_s (q_move rfl) rfl ?_
          refine L_s (q_move rfl) rfl ?_
          first | refine L_s (q_nilP rfl) rfl ?_ | refine L_s (q_nilF rfl) rfl ?_
          first | refine L_s (q_faK fa_elect_Node_Me rfl) rfl ?_ | refine L_s (q_fa fa_elect_Node_Me rfl) rfl ?_
          first | refine L_s (q_load1z ld_int rfl (by repeat (first | exact List.Mem.head _ | apply List.Mem.tail)) (by rfl)) rfl ?_ | refine L_s (q_load1 ld_int rfl (by repeat (first | exact List.Mem.head _ | apply List.Mem.tail)) rfl (by rfl)) rfl ?_
          refine WPL.cons rfl (E1.wpo (e_buildSlice mk_sl_int (by decide) rfl rfl rfl) rfl ?_)
          rintro _ _ ⟨bY, rfl, rfl⟩
          refine WPL.putS ?_
          first | refine L_s (q_nilP rfl) rfl ?_ | refine L_s (q_nilF rfl) rfl ?_
          first | refine L_s (q_faK fa_elect_Node_Lead rfl) rfl ?_ | refine L_s (q_fa fa_elect_Node_Lead rfl) rfl ?_
          refine WPL.cons rfl (S1.wpo (s_store1k sz_int rfl rfl rfl rfl (by repeat (first | exact Upd.here | apply Upd.there)) (by repeat constructor)) rfl ?_)
          refine WPL.putN ?_
          first | refine L_s (q_nilP rfl) rfl ?_ | refine L_s (q_nilF rfl) rfl ?_
          first | refine L_s (q_faK fa_elect_Node_Yes rfl) rfl ?_ | refine L_s (q_fa fa_elect_Node_Yes rfl) rfl ?_
          refine WPL.cons rfl (S1.wpo (s_store1k sz_sl_int rfl rfl rfl rfl (by repeat (first | exact Upd.here | apply Upd.there)) (by repeat constructor)) rfl ?_)
          refine WPL.putN ?_
          refine WPL.nil ?_
          have hy : Sok 1 (some ⟨bY, 0, none⟩) 1 1 ([(mn : Int)].map (.int .i64)) := ⟨rfl, Nat.le_refl _, .inr (Pl.mk _ _)⟩
          refine WPC.seq ?_
          refine WPC.seqD mixed ?_
          refine WPA.takeP 0 rfl (q_move rfl) (by kernel_rfl) (by kernel_rfl) (by kernel_rfl) rfl rfl (.nil _) ?_
          refine WPA.putS ?_
          first | refine WPA.takeP 1 rfl (q_nilP rfl) (by kernel_rfl) (by kernel_rfl) (by kernel_rfl) rfl rfl (.nil _) ?_ | refine WPA.takeP 1 rfl (q_nilF rfl) (by kernel_rfl) (by kernel_rfl) (by kernel_rfl) rfl rfl (.nil _) ?_
          refine WPA.putS ?_
          first | refine WPA.takeP 2 rfl (q_faK fa_elect_Node_Conf rfl) (by kernel_rfl) (by kernel_rfl) (by kernel_rfl) rfl rfl (.nil _) ?_ | refine WPA.takeP 2 rfl (q_fa fa_elect_Node_Conf rfl) (by kernel_rfl) (by kernel_rfl) (by kernel_rfl) rfl rfl (.nil _) ?_
          refine WPA.putS ?_
          first | refine WPA.takeL 3 rfl (Ent.mem (by repeat (first | exact List.Mem.head _ | apply List.Mem.tail))) (q_load1z ld_sl_int rfl (.head _) (by rfl)) (by kernel_rfl) (by kernel_rfl) (by kernel_rfl) rfl rfl (.nil _) ?_ | refine WPA.takeL 3 rfl (Ent.mem (by repeat (first | exact List.Mem.head _ | apply List.Mem.tail))) (q_load1 ld_sl_int rfl (.head _) rfl (by rfl)) (by kernel_rfl) (by kernel_rfl) (by kernel_rfl) rfl rfl (.nil _) ?_
          refine WPA.putS ?_
          refine WPA.takeP 4 rfl (q_move rfl) (by kernel_rfl) (by kernel_rfl) (by kernel_rfl) rfl rfl (.cons (Ent.mem (by repeat (first | exact List.Mem.head _ | apply List.Mem.tail))) (.nil _)) ?_
          refine WPA.putS ?_
          first | refine WPA.takeP 5 rfl (q_nilP rfl) (by kernel_rfl) (by kernel_rfl) (by kernel_rfl) rfl rfl (.cons (Ent.mem (by repeat (first | exact List.Mem.head _ | apply List.Mem.tail))) (.nil _)) ?_ | refine WPA.takeP 5 rfl (q_nilF rfl) (by kernel_rfl) (by kernel_rfl) (by kernel_rfl) rfl rfl (.cons (Ent.mem (by repeat (first | exact List.Mem.head _ | apply List.Mem.tail))) (.nil _)) ?_
          refine WPA.putS ?_
          first | refine WPA.takeP 6 rfl (q_faK fa_elect_Node_Yes rfl) (by kernel_rfl) (by kernel_rfl) (by kernel_rfl) rfl rfl (.cons (Ent.mem (by repeat (first | exact List.Mem.head _ | apply List.Mem.tail))) (.nil _)) ?_ | refine WPA.takeP 6 rfl (q_fa fa_elect_Node_Yes rfl) (by kernel_rfl) (by kernel_rfl) (by kernel_rfl) rfl rfl (.cons (Ent.mem (by repeat (first | exact List.Mem.head _ | apply List.Mem.tail))) (.nil _)) ?_
          refine WPA.putS ?_
          first | refine WPA.takeL 7 rfl (Ent.mem (by repeat (first | exact List.Mem.head _ | apply List.Mem.tail))) (q_load1z ld_sl_int rfl (.head _) (by rfl)) (by kernel_rfl) (by kernel_rfl) (by kernel_rfl) rfl rfl (.cons (Ent.mem (by repeat (first | exact List.Mem.head _ | apply List.Mem.tail))) (.nil _)) ?_ | refine WPA.takeL 7 rfl (Ent.mem (by repeat (first | exact List.Mem.head _ | apply List.Mem.tail))) (q_load1 ld_sl_int rfl (.head _) rfl (by rfl)) (by kernel_rfl) (by kernel_rfl) (by kernel_rfl) rfl rfl (.cons (Ent.mem (by repeat (first | exact List.Mem.head _ | apply List.Mem.tail))) (.nil _)) ?_
          refine WPA.putS ?_
          refine WPA.oneE 8 [] (by kernel_rfl) rfl rfl (by repeat (first | exact .nil | refine .anc rfl ?_ | refine .keep (by repeat (first | exact List.Mem.head _ | apply List.Mem.tail)) ?_)) (C1.call (c_call Try.func31 rfl rfl rfl) (c_Agrees (ys := [(mn : Int)]) hc hy hcn (by omega)) (by repeat (first | exact Pick.nil | apply Pick.keep (by repeat (first | exact List.Mem.head _ | apply List.Mem.tail)) (by first | exact Pers.cells _ _ _ | exact Pers.slv _ _ _) | apply Pick.cons (by repeat (first | exact Pick1.here | apply Pick1.there)))) rfl ?_)
          rintro _ _ ⟨rfl, rfl⟩
          refine ⟨(.nil _), ?_⟩
          refine WPA.putS ?_
          refine WPA.done (by kernel_rfl) ?_
          refine WPC.cond rfl (fun h2 => ?_) (fun h2 => ?_)
          · have ef : EN.askP (⟨(mn : Int), vote, role, lead, conf, yes, term, commit, base, bt, es, heard, next, mtch⟩ : EN) = ((⟨(mn : Int), vote, 1, -1, conf, [(mn : Int)], term, commit, base, bt, es, heard, next, mtch⟩ : EN).askR.1, (⟨(mn : Int), vote, 1, -1, conf, [(mn : Int)], term, commit, base, bt, es, heard, next, mtch⟩ : EN).askR.2) := by simp [EN.askP, h0, h2]
            refine WPC.seqR ?_
            refine L_s (q_move rfl) rfl ?_
            refine WPL.imp ((Imp.pick (Δ := cells true bY 0 [.int .i64 (mn : Int)] :: cells true b o (nodeC (⟨(mn : Int), vote, 1, -1, conf, [(mn : Int)], term, commit, base, bt, es, heard, next, mtch⟩ : EN) (⟨ca, cn, cc, some ⟨bY, 0, none⟩, 1, 1, ea, en, ec, na, ma⟩ : NL)) :: sl false ca (conf.map (.int .i64)) :: sl false ea (es.flatMap encE) :: cells true na 0 (next.map (.int .u64)) :: cells true ma 0 (mtch.map (.int .u64)) :: []) (by repeat (first | exact Pick.nil | apply Pick.keep (by repeat (first | exact List.Mem.head _ | apply List.Mem.tail)) (by first | exact Pers.cells _ _ _ | exact Pers.slv _ _ _) | apply Pick.cons (by repeat (first | exact Pick1.here | apply Pick1.there))))).trans ((Imp.bufNew (sz := 1) (n := 1) rfl).trans ((Imp.pick (by repeat (first | exact Pick.nil | apply Pick.keep (by repeat (first | exact List.Mem.head _ | apply List.Mem.tail)) (by first | exact Pers.cells _ _ _ | exact Pers.slv _ _ _) | apply Pick.cons (by repeat (first | exact Pick1.here | apply Pick1.there))))).trans (enode_close (x := (⟨(mn : Int), vote, 1, -1, conf, [(mn : Int)], term, commit, base, bt, es, heard, next, mtch⟩ : EN)) (b := b) (o := o) (⟨ca, cn, cc, some ⟨bY, 0, none⟩, 1, 1, ea, en, ec, na, ma⟩ : NL) ⟨hc, hcn, he, hen, hnx, hmt⟩ (Γ := []))))) ?_
            refine WPL.cons rfl (C1.call (c_call Try.func32 rfl rfl rfl) (c_chosenA (x := (⟨(mn : Int), vote, 1, -1, conf, [(mn : Int)], term, commit, base, bt, es, heard, next, mtch⟩ : EN)) ⟨hme, hterm, hbase, hes, by simp⟩ rfl ht) (by repeat (first | exact Pick.nil | apply Pick.keep (by repeat (first | exact List.Mem.head _ | apply List.Mem.tail)) (by first | exact Pers.cells _ _ _ | exact Pers.slv _ _ _) | apply Pick.cons (by repeat (first | exact Pick1.here | apply Pick1.there)))) rfl ?_)
            rintro _ _ ⟨a, c, rfl, rfl⟩
            refine WPL.putS ?_
            refine L_s (q_assign rfl) rfl ?_
            refine WPL.nil ?_
            refine WPC.prune [(0, _), (4, _), (5, _)] (by repeat (first | exact trivial | refine ⟨rfl, ?_⟩)) ?_
            refine WPC.ret ?_
            refine thenQ_r ?_
            rw [ef]
            exact endR_r rfl (.tmp rfl .nil) (Imp.pick (by repeat (first | exact Pick.nil | apply Pick.keep (by repeat (first | exact List.Mem.head _ | apply List.Mem.tail)) (by first | exact Pers.cells _ _ _ | exact Pers.slv _ _ _) | apply Pick.cons (by repeat (first | exact Pick1.here | apply Pick1.there))))) ⟨a, c, rfl, rfl⟩
          · have ef : EN.askP (⟨(mn : Int), vote, role, lead, conf, yes, term, commit, base, bt, es, heard, next, mtch⟩ : EN) = ((⟨(mn : Int), vote, 1, -1, conf, [(mn : Int)], term, commit, base, bt, es, heard, next, mtch⟩ : EN), EN.toAll (⟨(mn : Int), vote, 1, -1, conf, [(mn : Int)], term, commit, base, bt, es, heard, next, mtch⟩ : EN) (msg 3 0 0 (term + 1) (base + (en : Int)) (lgLastTerm bt es) false)) := by simp [EN.askP, h0, h2, EN.last, hel]
            refine WPC.skip ?_
            refine thenQ_n ?_
            refine WPC.seqR ?_
            refine L_s (q_move rfl) rfl ?_
            first | refine L_s (q_loadNz (us := [_, _, _, _, _, _, _, _, _, _]) ld_api_Msg rfl (by repeat (first | exact List.Mem.head _ | apply List.Mem.tail)) (by exact ⟨rfl, rfl⟩)) rfl ?_ | refine L_s (q_loadNk (us := [_, _, _, _, _, _, _, _, _, _]) ld_api_Msg rfl (by repeat (first | exact List.Mem.head _ | apply List.Mem.tail)) (by exact ⟨rfl, rfl⟩)) rfl ?_
            refine WPL.cons rfl (C1.call (c_call Try.func33 rfl rfl rfl) (c_toAll (x := (⟨(mn : Int), vote, 1, -1, conf, [(mn : Int)], term, commit, base, bt, es, heard, next, mtch⟩ : EN)) (L := (⟨ca, cn, cc, some ⟨bY, 0, none⟩, 1, 1, ea, en, ec, na, ma⟩ : NL)) hc hcn (msg 3 0 0 (term + 1) (base + (en : Int)) (lgLastTerm bt es) false)) (by repeat (first | exact Pick.nil | apply Pick.keep (by repeat (first | exact List.Mem.head _ | apply List.Mem.tail)) (by first | exact Pers.cells _ _ _ | exact Pers.slv _ _ _) | apply Pick.cons (by repeat (first | exact Pick1.here | apply Pick1.there)))) rfl ?_)
            rintro _ _ ⟨a, c, rfl, rfl⟩
            refine WPL.putS ?_
            refine L_s (q_assign rfl) rfl ?_
            refine WPL.nil ?_
            refine WPC.prune [(4, _)] (by repeat (first | exact trivial | refine ⟨rfl, ?_⟩)) ?_
            refine WPC.ret ?_
            rw [ef]
            exact endR_r rfl (.tmp rfl .nil) (((Imp.pick (Δ := cells true bY 0 [.int .i64 (mn : Int)] :: cells true b o (nodeC (⟨(mn : Int), vote, 1, -1, conf, [(mn : Int)], term, commit, base, bt, es, heard, next, mtch⟩ : EN) (⟨ca, cn, cc, some ⟨bY, 0, none⟩, 1, 1, ea, en, ec, na, ma⟩ : NL)) :: sl false ca (conf.map (.int .i64)) :: sl false ea (es.flatMap encE) :: cells true na 0 (next.map (.int .u64)) :: cells true ma 0 (mtch.map (.int .u64)) :: [buf 10 a (EN.toAll (⟨(mn : Int), vote, 1, -1, conf, [(mn : Int)], term, commit, base, bt, es, heard, next, mtch⟩ : EN) (msg 3 0 0 (term + 1) (base + (en : Int)) (lgLastTerm bt es) false)).length c ((EN.toAll (⟨(mn : Int), vote, 1, -1, conf, [(mn : Int)], term, commit, base, bt, es, heard, next, mtch⟩ : EN) (msg 3 0 0 (term + 1) (base + (en : Int)) (lgLastTerm bt es) false)).flatMap encM)]) (by repeat (first | exact Pick.nil | apply Pick.keep (by repeat (first | exact List.Mem.head _ | apply List.Mem.tail)) (by first | exact Pers.cells _ _ _ | exact Pers.slv _ _ _) | apply Pick.cons (by repeat (first | exact Pick1.here | apply Pick1.there))))).trans ((Imp.bufNew (sz := 1) (n := 1) rfl).trans ((Imp.pick (by repeat (first | exact Pick.nil | apply Pick.keep (by repeat (first | exact List.Mem.head _ | apply List.Mem.tail)) (by first | exact Pers.cells _ _ _ | exact Pers.slv _ _ _) | apply Pick.cons (by repeat (first | exact Pick1.here | apply Pick1.there))))).trans (enode_close (x := (⟨(mn : Int), vote, 1, -1, conf, [(mn : Int)], term, commit, base, bt, es, heard, next, mtch⟩ : EN)) (b := b) (o := o) (⟨ca, cn, cc, some ⟨bY, 0, none⟩, 1, 1, ea, en, ec, na, ma⟩ : NL) ⟨hc, hcn, he, hen, hnx, hmt⟩ (Γ := [buf 10 a (EN.toAll (⟨(mn : Int), vote, 1, -1, conf, [(mn : Int)], term, commit, base, bt, es, heard, next, mtch⟩ : EN) (msg 3 0 0 (term + 1) (base + (en : Int)) (lgLastTerm bt es) false)).length c ((EN.toAll (⟨(mn : Int), vote, 1, -1, conf, [(mn : Int)], term, commit, base, bt, es, heard, next, mtch⟩ : EN) (msg 3 0 0 (term + 1) (base + (en : Int)) (lgLastTerm bt es) false)).flatMap encM)])))))) ⟨a, c, rfl, rfl⟩
      · refine Eff.mk 16 [(13, [_]), (3, [_])] rfl rfl (by repeat (first | exact .nil | refine .anc rfl ?_ | refine .keep (by repeat (first | exact List.Mem.head _ | apply List.Mem.tail)) ?_)) (E1.wpo (e_allocL zl_api_Msg) rfl ?_)
        rintro _ _ ⟨bm, rfl, rfl⟩
        refine ⟨(.cons (Ent.mem (by repeat (first | exact List.Mem.head _ | apply List.Mem.tail))) (.cons (Ent.mem (by repeat (first | exact List.Mem.head _ | apply List.Mem.tail))) (.nil _))), ?_⟩
        refine WPA.putS ?_
        refine WPA.oneE 14 [(3, [_])] (by kernel_rfl) rfl rfl (by repeat (first | exact .nil | refine .anc rfl ?_ | refine .keep (by repeat (first | exact List.Mem.head _ | apply List.Mem.tail)) ?_)) (C1.call (c_call Try.func30 rfl rfl rfl) (c_LastTerm he hb hen) (by repeat (first | exact Pick.nil | apply Pick.keep (by repeat (first | exact List.Mem.head _ | apply List.Mem.tail)) (by first | exact Pers.cells _ _ _ | exact Pers.slv _ _ _) | apply Pick.cons (by repeat (first | exact Pick1.here | apply Pick1.there)))) rfl ?_)
        rintro _ _ ⟨rfl, rfl⟩
        refine ⟨(.cons (Ent.mem (by repeat (first | exact List.Mem.head _ | apply List.Mem.tail))) (.nil _)), ?_⟩
        refine WPA.putS ?_
        refine WPA.takeP 15 rfl (q_build (cs := [_, _, _, _, _, _, _, _, _, _]) pl_api_Msg rfl rfl) (by kernel_rfl) (by kernel_rfl) (by kernel_rfl) rfl rfl (.cons (Ent.mem (by repeat (first | exact List.Mem.head _ | apply List.Mem.tail))) (.nil _)) ?_
        refine WPA.putS ?_
        refine WPA.oneE 17 [] (by kernel_rfl) rfl rfl (by repeat (first | exact .nil | refine .anc rfl ?_ | refine .keep (by repeat (first | exact List.Mem.head _ | apply List.Mem.tail)) ?_)) (S1.wpo (s_storeNz sz_api_Msg rfl rfl (by simp [Value.oneCell']) rfl (by repeat (first | exact Upd.here | apply Upd.there)) (by repeat constructor)) rfl ?_)
        refine ⟨(.nil _), ?_⟩
        refine WPA.putN ?_
        refine WPA.done (by kernel_rfl) ?_
        refine WPC.seqR ?_
        refine L_s (q_move rfl) rfl ?_
        first | refine L_s (q_nilP rfl) rfl ?_ | refine L_s (q_nilF rfl) rfl ?_
        first | refine L_s (q_faK fa_elect_Node_Role rfl) rfl ?_ | refine L_s (q_fa fa_elect_Node_Role rfl) rfl ?_
        refine WPL.cons rfl (S1.wpo (s_store1k sz_int rfl rfl rfl rfl (by repeat (first | exact Upd.here | apply Upd.there)) (by repeat constructor)) rfl ?_)
        refine WPL.putN ?_
        refine WPL.nil ?_
        refine WPC.prune [(0, _), (1, _), (4, _), (5, _)] (by repeat (first | exact trivial | refine ⟨rfl, ?_⟩)) ?_
        refine WPC.seq ?_
        refine WPC.seqR ?_
        refine L_s (q_move rfl) rfl ?_
        refine WPL.nil ?_
        refine WPC.cond rfl (fun h1 => ?_) (fun h1 => ?_)
        · try simp only [decide_eq_true_eq, decide_eq_false_iff_not, beq_iff_eq, bne_iff_ne, beq_eq_false_iff_ne, bne_eq_false_iff_eq, Bool.not_eq_true', Bool.not_eq_false', Bool.not_eq_eq_eq_not, Bool.not_true, Bool.not_false, ne_eq, Decidable.not_not, Int.not_lt, Int.not_le, gt_iff_lt, ge_iff_le] at h1
          exact absurd h1 (by decide)
        · try simp only [decide_eq_true_eq, decide_eq_false_iff_not, beq_iff_eq, bne_iff_ne, beq_eq_false_iff_ne, bne_eq_false_iff_eq, Bool.not_eq_true', Bool.not_eq_false', Bool.not_eq_eq_eq_not, Bool.not_true, Bool.not_false, ne_eq, Decidable.not_not, Int.not_lt, Int.not_le, gt_iff_lt, ge_iff_le] at h1
          refine WPC.skip ?_
          refine thenQ_n ?_
          refine WPC.seqR ?_
          refine L_s (q_move rfl) rfl ?_
          refine L_s (q_move rfl) rfl ?_
          refine L_s (q_move rfl) rfl ?_
          first | refine L_s (q_nilP rfl) rfl ?_ | refine L_s (q_nilF rfl) rfl ?_
          first | refine L_s (q_faK fa_elect_Node_Me rfl) rfl ?_ | refine L_s (q_fa fa_elect_Node_Me rfl) rfl ?_
          first | refine L_s (q_load1z ld_int rfl (by repeat (first | exact List.Mem.head _ | apply List.Mem.tail)) (by rfl)) rfl ?_ | refine L_s (q_load1 ld_int rfl (by repeat (first | exact List.Mem.head _ | apply List.Mem.tail)) rfl (by rfl)) rfl ?_
          refine WPL.cons rfl (E1.wpo (e_buildSlice mk_sl_int (by decide) rfl rfl rfl) rfl ?_)
          rintro _ _ ⟨bY, rfl, rfl⟩
          refine WPL.putS ?_
          first | refine L_s (q_nilP rfl) rfl ?_ | refine L_s (q_nilF rfl) rfl ?_
          first | refine L_s (q_faK fa_elect_Node_Lead rfl) rfl ?_ | refine L_s (q_fa fa_elect_Node_Lead rfl) rfl ?_
          refine WPL.cons rfl (S1.wpo (s_store1k sz_int rfl rfl rfl rfl (by repeat (first | exact Upd.here | apply Upd.there)) (by repeat constructor)) rfl ?_)
          refine WPL.putN ?_
          first | refine L_s (q_nilP rfl) rfl ?_ | refine L_s (q_nilF rfl) rfl ?_
          first | refine L_s (q_faK fa_elect_Node_Yes rfl) rfl ?_ | refine L_s (q_fa fa_elect_Node_Yes rfl) rfl ?_
          refine WPL.cons rfl (S1.wpo (s_store1k sz_sl_int rfl rfl rfl rfl (by repeat (first | exact Upd.here | apply Upd.there)) (by repeat constructor)) rfl ?_)
          refine WPL.putN ?_
          refine WPL.nil ?_
          have hy : Sok 1 (some ⟨bY, 0, none⟩) 1 1 ([(mn : Int)].map (.int .i64)) := ⟨rfl, Nat.le_refl _, .inr (Pl.mk _ _)⟩
          refine WPC.seq ?_
          refine WPC.seqD mixed ?_
          refine WPA.takeP 0 rfl (q_move rfl) (by kernel_rfl) (by kernel_rfl) (by kernel_rfl) rfl rfl (.nil _) ?_
          refine WPA.putS ?_
          first | refine WPA.takeP 1 rfl (q_nilP rfl) (by kernel_rfl) (by kernel_rfl) (by kernel_rfl) rfl rfl (.nil _) ?_ | refine WPA.takeP 1 rfl (q_nilF rfl) (by kernel_rfl) (by kernel_rfl) (by kernel_rfl) rfl rfl (.nil _) ?_
          refine WPA.putS ?_
          first | refine WPA.takeP 2 rfl (q_faK fa_elect_Node_Conf rfl) (by kernel_rfl) (by kernel_rfl) (by kernel_rfl) rfl rfl (.nil _) ?_ | refine WPA.takeP 2 rfl (q_fa fa_elect_Node_Conf rfl) (by kernel_rfl) (by kernel_rfl) (by kernel_rfl) rfl rfl (.nil _) ?_
          refine WPA.putS ?_
          first | refine WPA.takeL 3 rfl (Ent.mem (by repeat (first | exact List.Mem.head _ | apply List.Mem.tail))) (q_load1z ld_sl_int rfl (.head _) (by rfl)) (by kernel_rfl) (by kernel_rfl) (by kernel_rfl) rfl rfl (.nil _) ?_ | refine WPA.takeL 3 rfl (Ent.mem (by repeat (first | exact List.Mem.head _ | apply List.Mem.tail))) (q_load1 ld_sl_int rfl (.head _) rfl (by rfl)) (by kernel_rfl) (by kernel_rfl) (by kernel_rfl) rfl rfl (.nil _) ?_
          refine WPA.putS ?_
          refine WPA.takeP 4 rfl (q_move rfl) (by kernel_rfl) (by kernel_rfl) (by kernel_rfl) rfl rfl (.cons (Ent.mem (by repeat (first | exact List.Mem.head _ | apply List.Mem.tail))) (.nil _)) ?_
          refine WPA.putS ?_
          first | refine WPA.takeP 5 rfl (q_nilP rfl) (by kernel_rfl) (by kernel_rfl) (by kernel_rfl) rfl rfl (.cons (Ent.mem (by repeat (first | exact List.Mem.head _ | apply List.Mem.tail))) (.nil _)) ?_ | refine WPA.takeP 5 rfl (q_nilF rfl) (by kernel_rfl) (by kernel_rfl) (by kernel_rfl) rfl rfl (.cons (Ent.mem (by repeat (first | exact List.Mem.head _ | apply List.Mem.tail))) (.nil _)) ?_
          refine WPA.putS ?_
          first | refine WPA.takeP 6 rfl (q_faK fa_elect_Node_Yes rfl) (by kernel_rfl) (by kernel_rfl) (by kernel_rfl) rfl rfl (.cons (Ent.mem (by repeat (first | exact List.Mem.head _ | apply List.Mem.tail))) (.nil _)) ?_ | refine WPA.takeP 6 rfl (q_fa fa_elect_Node_Yes rfl) (by kernel_rfl) (by kernel_rfl) (by kernel_rfl) rfl rfl (.cons (Ent.mem (by repeat (first | exact List.Mem.head _ | apply List.Mem.tail))) (.nil _)) ?_
          refine WPA.putS ?_
          first | refine WPA.takeL 7 rfl (Ent.mem (by repeat (first | exact List.Mem.head _ | apply List.Mem.tail))) (q_load1z ld_sl_int rfl (.head _) (by rfl)) (by kernel_rfl) (by kernel_rfl) (by kernel_rfl) rfl rfl (.cons (Ent.mem (by repeat (first | exact List.Mem.head _ | apply List.Mem.tail))) (.nil _)) ?_ | refine WPA.takeL 7 rfl (Ent.mem (by repeat (first | exact List.Mem.head _ | apply List.Mem.tail))) (q_load1 ld_sl_int rfl (.head _) rfl (by rfl)) (by kernel_rfl) (by kernel_rfl) (by kernel_rfl) rfl rfl (.cons (Ent.mem (by repeat (first | exact List.Mem.head _ | apply List.Mem.tail))) (.nil _)) ?_
          refine WPA.putS ?_
          refine WPA.oneE 8 [] (by kernel_rfl) rfl rfl (by repeat (first | exact .nil | refine .anc rfl ?_ | refine .keep (by repeat (first | exact List.Mem.head _ | apply List.Mem.tail)) ?_)) (C1.call (c_call Try.func31 rfl rfl rfl) (c_Agrees (ys := [(mn : Int)]) hc hy hcn (by omega)) (by repeat (first | exact Pick.nil | apply Pick.keep (by repeat (first | exact List.Mem.head _ | apply List.Mem.tail)) (by first | exact Pers.cells _ _ _ | exact Pers.slv _ _ _) | apply Pick.cons (by repeat (first | exact Pick1.here | apply Pick1.there)))) rfl ?_)
          rintro _ _ ⟨rfl, rfl⟩
          refine ⟨(.nil _), ?_⟩
          refine WPA.putS ?_
          refine WPA.done (by kernel_rfl) ?_
          refine WPC.cond rfl (fun h2 => ?_) (fun h2 => ?_)
          · have ef : EN.askP (⟨(mn : Int), vote, role, lead, conf, yes, term, commit, base, bt, es, heard, next, mtch⟩ : EN) = ((⟨(mn : Int), vote, 1, -1, conf, [(mn : Int)], term, commit, base, bt, es, heard, next, mtch⟩ : EN).askR.1, (⟨(mn : Int), vote, 1, -1, conf, [(mn : Int)], term, commit, base, bt, es, heard, next, mtch⟩ : EN).askR.2) := by simp [EN.askP, h0, h2]
            refine WPC.seqR ?_
            refine L_s (q_move rfl) rfl ?_
            refine WPL.imp ((Imp.pick (Δ := cells true bY 0 [.int .i64 (mn : Int)] :: cells true b o (nodeC (⟨(mn : Int), vote, 1, -1, conf, [(mn : Int)], term, commit, base, bt, es, heard, next, mtch⟩ : EN) (⟨ca, cn, cc, some ⟨bY, 0, none⟩, 1, 1, ea, en, ec, na, ma⟩ : NL)) :: sl false ca (conf.map (.int .i64)) :: sl false ea (es.flatMap encE) :: cells true na 0 (next.map (.int .u64)) :: cells true ma 0 (mtch.map (.int .u64)) :: []) (by repeat (first | exact Pick.nil | apply Pick.keep (by repeat (first | exact List.Mem.head _ | apply List.Mem.tail)) (by first | exact Pers.cells _ _ _ | exact Pers.slv _ _ _) | apply Pick.cons (by repeat (first | exact Pick1.here | apply Pick1.there))))).trans ((Imp.bufNew (sz := 1) (n := 1) rfl).trans ((Imp.pick (by repeat (first | exact Pick.nil | apply Pick.keep (by repeat (first | exact List.Mem.head _ | apply List.Mem.tail)) (by first | exact Pers.cells _ _ _ | exact Pers.slv _ _ _) | apply Pick.cons (by repeat (first | exact Pick1.here | apply Pick1.there))))).trans (enode_close (x := (⟨(mn : Int), vote, 1, -1, conf, [(mn : Int)], term, commit, base, bt, es, heard, next, mtch⟩ : EN)) (b := b) (o := o) (⟨ca, cn, cc, some ⟨bY, 0, none⟩, 1, 1, ea, en, ec, na, ma⟩ : NL) ⟨hc, hcn, he, hen, hnx, hmt⟩ (Γ := []))))) ?_
            refine WPL.cons rfl (C1.call (c_call Try.func32 rfl rfl rfl) (c_chosenA (x := (⟨(mn : Int), vote, 1, -1, conf, [(mn : Int)], term, commit, base, bt, es, heard, next, mtch⟩ : EN)) ⟨hme, hterm, hbase, hes, by simp⟩ rfl ht) (by repeat (first | exact Pick.nil | apply Pick.keep (by repeat (first | exact List.Mem.head _ | apply List.Mem.tail)) (by first | exact Pers.cells _ _ _ | exact Pers.slv _ _ _) | apply Pick.cons (by repeat (first | exact Pick1.here | apply Pick1.there)))) rfl ?_)
            rintro _ _ ⟨a, c, rfl, rfl⟩
            refine WPL.putS ?_
            refine L_s (q_assign rfl) rfl ?_
            refine WPL.nil ?_
            refine WPC.prune [(0, _), (4, _), (5, _)] (by repeat (first | exact trivial | refine ⟨rfl, ?_⟩)) ?_
            refine WPC.ret ?_
            refine thenQ_r ?_
            rw [ef]
            exact endR_r rfl (.tmp rfl .nil) (Imp.pick (by repeat (first | exact Pick.nil | apply Pick.keep (by repeat (first | exact List.Mem.head _ | apply List.Mem.tail)) (by first | exact Pers.cells _ _ _ | exact Pers.slv _ _ _) | apply Pick.cons (by repeat (first | exact Pick1.here | apply Pick1.there))))) ⟨a, c, rfl, rfl⟩
          · have ef : EN.askP (⟨(mn : Int), vote, role, lead, conf, yes, term, commit, base, bt, es, heard, next, mtch⟩ : EN) = ((⟨(mn : Int), vote, 1, -1, conf, [(mn : Int)], term, commit, base, bt, es, heard, next, mtch⟩ : EN), EN.toAll (⟨(mn : Int), vote, 1, -1, conf, [(mn : Int)], term, commit, base, bt, es, heard, next, mtch⟩ : EN) (msg 3 0 0 (term + 1) (base + (en : Int)) (lgLastTerm bt es) false)) := by simp [EN.askP, h0, h2, EN.last, hel]
            refine WPC.skip ?_
            refine thenQ_n ?_
            refine WPC.seqR ?_
            refine L_s (q_move rfl) rfl ?_
            first | refine L_s (q_loadNz (us := [_, _, _, _, _, _, _, _, _, _]) ld_api_Msg rfl (by repeat (first | exact List.Mem.head _ | apply List.Mem.tail)) (by exact ⟨rfl, rfl⟩)) rfl ?_ | refine L_s (q_loadNk (us := [_, _, _, _, _, _, _, _, _, _]) ld_api_Msg rfl (by repeat (first | exact List.Mem.head _ | apply List.Mem.tail)) (by exact ⟨rfl, rfl⟩)) rfl ?_
            refine WPL.cons rfl (C1.call (c_call Try.func33 rfl rfl rfl) (c_toAll (x := (⟨(mn : Int), vote, 1, -1, conf, [(mn : Int)], term, commit, base, bt, es, heard, next, mtch⟩ : EN)) (L := (⟨ca, cn, cc, some ⟨bY, 0, none⟩, 1, 1, ea, en, ec, na, ma⟩ : NL)) hc hcn (msg 3 0 0 (term + 1) (base + (en : Int)) (lgLastTerm bt es) false)) (by repeat (first | exact Pick.nil | apply Pick.keep (by repeat (first | exact List.Mem.head _ | apply List.Mem.tail)) (by first | exact Pers.cells _ _ _ | exact Pers.slv _ _ _) | apply Pick.cons (by repeat (first | exact Pick1.here | apply Pick1.there)))) rfl ?_)
            rintro _ _ ⟨a, c, rfl, rfl⟩
            refine WPL.putS ?_
            refine L_s (q_assign rfl) rfl ?_
            refine WPL.nil ?_
            refine WPC.prune [(4, _)] (by repeat (first | exact trivial | refine ⟨rfl, ?_⟩)) ?_
            refine WPC.ret ?_
            rw [ef]
            exact endR_r rfl (.tmp rfl .nil) (((Imp.pick (Δ := cells true bY 0 [.int .i64 (mn : Int)] :: cells true b o (nodeC (⟨(mn : Int), vote, 1, -1, conf, [(mn : Int)], term, commit, base, bt, es, heard, next, mtch⟩ : EN) (⟨ca, cn, cc, some ⟨bY, 0, none⟩, 1, 1, ea, en, ec, na, ma⟩ : NL)) :: sl false ca (conf.map (.int .i64)) :: sl false ea (es.flatMap encE) :: cells true na 0 (next.map (.int .u64)) :: cells true ma 0 (mtch.map (.int .u64)) :: [buf 10 a (EN.toAll (⟨(mn : Int), vote, 1, -1, conf, [(mn : Int)], term, commit, base, bt, es, heard, next, mtch⟩ : EN) (msg 3 0 0 (term + 1) (base + (en : Int)) (lgLastTerm bt es) false)).length c ((EN.toAll (⟨(mn : Int), vote, 1, -1, conf, [(mn : Int)], term, commit, base, bt, es, heard, next, mtch⟩ : EN) (msg 3 0 0 (term + 1) (base + (en : Int)) (lgLastTerm bt es) false)).flatMap encM)]) (by repeat (first | exact Pick.nil | apply Pick.keep (by repeat (first | exact List.Mem.head _ | apply List.Mem.tail)) (by first | exact Pers.cells _ _ _ | exact Pers.slv _ _ _) | apply Pick.cons (by repeat (first | exact Pick1.here | apply Pick1.there))))).trans ((Imp.bufNew (sz := 1) (n := 1) rfl).trans ((Imp.pick (by repeat (first | exact Pick.nil | apply Pick.keep (by repeat (first | exact List.Mem.head _ | apply List.Mem.tail)) (by first | exact Pers.cells _ _ _ | exact Pers.slv _ _ _) | apply Pick.cons (by repeat (first | exact Pick1.here | apply Pick1.there))))).trans (enode_close (x := (⟨(mn : Int), vote, 1, -1, conf, [(mn : Int)], term, commit, base, bt, es, heard, next, mtch⟩ : EN)) (b := b) (o := o) (⟨ca, cn, cc, some ⟨bY, 0, none⟩, 1, 1, ea, en, ec, na, ma⟩ : NL) ⟨hc, hcn, he, hen, hnx, hmt⟩ (Γ := [buf 10 a (EN.toAll (⟨(mn : Int), vote, 1, -1, conf, [(mn : Int)], term, commit, base, bt, es, heard, next, mtch⟩ : EN) (msg 3 0 0 (term + 1) (base + (en : Int)) (lgLastTerm bt es) false)).length c ((EN.toAll (⟨(mn : Int), vote, 1, -1, conf, [(mn : Int)], term, commit, base, bt, es, heard, next, mtch⟩ : EN) (msg 3 0 0 (term + 1) (base + (en : Int)) (lgLastTerm bt es) false)).flatMap encM)])))))) ⟨a, c, rfl, rfl⟩
    · refine Eff.mk 16 [(13, [_]), (8, [_]), (3, [_])] rfl rfl (by repeat (first | exact .nil | refine .anc rfl ?_ | refine .keep (by repeat (first | exact List.Mem.head _ | apply List.Mem.tail)) ?_)) (E1.wpo (e_allocL zl_api_Msg) rfl ?_)
      rintro _ _ ⟨bm, rfl, rfl⟩
      refine ⟨(.cons (Ent.mem (by repeat (first | exact List.Mem.head _ | apply List.Mem.tail))) (.cons (Ent.mem (by repeat (first | exact List.Mem.head _ | apply List.Mem.tail))) (.cons (Ent.mem (by repeat (first | exact List.Mem.head _ | apply List.Mem.tail))) (.nil _)))), ?_⟩
      refine WPA.putS ?_
      refine WPA.oneE 9 [(13, [_]), (3, [_])] (by kernel_rfl) rfl rfl (by repeat (first | exact .nil | refine .anc rfl ?_ | refine .keep (by repeat (first | exact List.Mem.head _ | apply List.Mem.tail)) ?_)) (C1.call (c_call Try.func29 rfl rfl rfl) (c_Last hb hen) (by repeat (first | exact Pick.nil | apply Pick.keep (by repeat (first | exact List.Mem.head _ | apply List.Mem.tail)) (by first | exact Pers.cells _ _ _ | exact Pers.slv _ _ _) | apply Pick.cons (by repeat (first | exact Pick1.here | apply Pick1.there)))) rfl ?_)
      rintro _ _ ⟨rfl, rfl⟩
      refine ⟨(.cons (Ent.mem (by repeat (first | exact List.Mem.head _ | apply List.Mem.tail))) (.cons (Ent.mem (by repeat (first | exact List.Mem.head _ | apply List.Mem.tail))) (.nil _))), ?_⟩
      refine WPA.putS ?_
      refine WPA.oneE 14 [(3, [_])] (by kernel_rfl) rfl rfl (by repeat (first | exact .nil | refine .anc rfl ?_ | refine .keep (by repeat (first | exact List.Mem.head _ | apply List.Mem.tail)) ?_)) (C1.call (c_call Try.func30 rfl rfl rfl) (c_LastTerm he hb hen) (by repeat (first | exact Pick.nil | apply Pick.keep (by repeat (first | exact List.Mem.head _ | apply List.Mem.tail)) (by first | exact Pers.cells _ _ _ | exact Pers.slv _ _ _) | apply Pick.cons (by repeat (first | exact Pick1.here | apply Pick1.there)))) rfl ?_)
      rintro _ _ ⟨rfl, rfl⟩
      refine ⟨(.cons (Ent.mem (by repeat (first | exact List.Mem.head _ | apply List.Mem.tail))) (.nil _)), ?_⟩
      refine WPA.putS ?_
      refine WPA.takeP 15 rfl (q_build (cs := [_, _, _, _, _, _, _, _, _, _]) pl_api_Msg rfl rfl) (by kernel_rfl) (by kernel_rfl) (by kernel_rfl) rfl rfl (.cons (Ent.mem (by repeat (first | exact List.Mem.head _ | apply List.Mem.tail))) (.nil _)) ?_
      refine WPA.putS ?_
      refine WPA.oneE 17 [] (by kernel_rfl) rfl rfl (by repeat (first | exact .nil | refine .anc rfl ?_ | refine .keep (by repeat (first | exact List.Mem.head _ | apply List.Mem.tail)) ?_)) (S1.wpo (s_storeNz sz_api_Msg rfl rfl (by simp [Value.oneCell']) rfl (by repeat (first | exact Upd.here | apply Upd.there)) (by repeat constructor)) rfl ?_)
      refine ⟨(.nil _), ?_⟩
      refine WPA.putN ?_
      refine WPA.done (by kernel_rfl) ?_
      refine WPC.seqR ?_
      refine L_s (q_move rfl) rfl ?_
      first | refine L_s (q_nilP rfl) rfl ?_ | refine L_s (q_nilF rfl) rfl ?_
      first | refine L_s (q_faK fa_elect_Node_Role rfl) rfl ?_ | refine L_s (q_fa fa_elect_Node_Role rfl) rfl ?_
      refine WPL.cons rfl (S1.wpo (s_store1k sz_int rfl rfl rfl rfl (by repeat (first | exact Upd.here | apply Upd.there)) (by repeat constructor)) rfl ?_)
      refine WPL.putN ?_
      refine WPL.nil ?_
      refine WPC.prune [(0, _), (1, _), (4, _), (5, _)] (by repeat (first | exact trivial | refine ⟨rfl, ?_⟩)) ?_
      refine WPC.seq ?_
      refine WPC.seqR ?_
      refine L_s (q_move rfl) rfl ?_
      refine WPL.nil ?_
      refine WPC.cond rfl (fun h1 => ?_) (fun h1 => ?_)
      · try simp only [decide_eq_true_eq, decide_eq_false_iff_not, beq_iff_eq, bne_iff_ne, beq_eq_false_iff_ne, bne_eq_false_iff_eq, Bool.not_eq_true', Bool.not_eq_false', Bool.not_eq_eq_eq_not, Bool.not_true, Bool.not_false, ne_eq, Decidable.not_not, Int.not_lt, Int.not_le, gt_iff_lt, ge_iff_le] at h1
        exact absurd h1 (by decide)
      · try simp only [decide_eq_true_eq, decide_eq_false_iff_not, beq_iff_eq, bne_iff_ne, beq_eq_false_iff_ne, bne_eq_false_iff_eq, Bool.not_eq_true', Bool.not_eq_false', Bool.not_eq_eq_eq_not, Bool.not_true, Bool.not_false, ne_eq, Decidable.not_not, Int.not_lt, Int.not_le, gt_iff_lt, ge_iff_le] at h1
        refine WPC.skip ?_
        refine thenQ_n ?_
        refine WPC.seqR ?_
        refine L_s (q_move rfl) rfl ?_
        refine L_s (q_move rfl) rfl ?_
        refine L_s (q_move rfl) rfl ?_
        first | refine L_s (q_nilP rfl) rfl ?_ | refine L_s (q_nilF rfl) rfl ?_
        first | refine L_s (q_faK fa_elect_Node_Me rfl) rfl ?_ | refine L_s (q_fa fa_elect_Node_Me rfl) rfl ?_
        first | refine L_s (q_load1z ld_int rfl (by repeat (first | exact List.Mem.head _ | apply List.Mem.tail)) (by rfl)) rfl ?_ | refine L_s (q_load1 ld_int rfl (by repeat (first | exact List.Mem.head _ | apply List.Mem.tail)) rfl (by rfl)) rfl ?_
        refine WPL.cons rfl (E1.wpo (e_buildSlice mk_sl_int (by decide) rfl rfl rfl) rfl ?_)
        rintro _ _ ⟨bY, rfl, rfl⟩
        refine WPL.putS ?_
        first | refine L_s (q_nilP rfl) rfl ?_ | refine L_s (q_nilF rfl) rfl ?_
        first | refine L_s (q_faK fa_elect_Node_Lead rfl) rfl ?_ | refine L_s (q_fa fa_elect_Node_Lead rfl) rfl ?_
        refine WPL.cons rfl (S1.wpo (s_store1k sz_int rfl rfl rfl rfl (by repeat (first | exact Upd.here | apply Upd.there)) (by repeat constructor)) rfl ?_)
        refine WPL.putN ?_
        first | refine L_s (q_nilP rfl) rfl ?_ | refine L_s (q_nilF rfl) rfl ?_
        first | refine L_s (q_faK fa_elect_Node_Yes rfl) rfl ?_ | refine L_s (q_fa fa_elect_Node_Yes rfl) rfl ?_
        refine WPL.cons rfl (S1.wpo (s_store1k sz_sl_int rfl rfl rfl rfl (by repeat (first | exact Upd.here | apply Upd.there)) (by repeat constructor)) rfl ?_)
        refine WPL.putN ?_
        refine WPL.nil ?_
        have hy : Sok 1 (some ⟨bY, 0, none⟩) 1 1 ([(mn : Int)].map (.int .i64)) := ⟨rfl, Nat.le_refl _, .inr (Pl.mk _ _)⟩
        refine WPC.seq ?_
        refine WPC.seqD mixed ?_
        refine WPA.takeP 0 rfl (q_move rfl) (by kernel_rfl) (by kernel_rfl) (by kernel_rfl) rfl rfl (.nil _) ?_
        refine WPA.putS ?_
        first | refine WPA.takeP 1 rfl (q_nilP rfl) (by kernel_rfl) (by kernel_rfl) (by kernel_rfl) rfl rfl (.nil _) ?_ | refine WPA.takeP 1 rfl (q_nilF rfl) (by kernel_rfl) (by kernel_rfl) (by kernel_rfl) rfl rfl (.nil _) ?_
        refine WPA.putS ?_
        first | refine WPA.takeP 2 rfl (q_faK fa_elect_Node_Conf rfl) (by kernel_rfl) (by kernel_rfl) (by kernel_rfl) rfl rfl (.nil _) ?_ | refine WPA.takeP 2 rfl (q_fa fa_elect_Node_Conf rfl) (by kernel_rfl) (by kernel_rfl) (by kernel_rfl) rfl rfl (.nil _) ?_
        refine WPA.putS ?_
        first | refine WPA.takeL 3 rfl (Ent.mem (by repeat (first | exact List.Mem.head _ | apply List.Mem.tail))) (q_load1z ld_sl_int rfl (.head _) (by rfl)) (by kernel_rfl) (by kernel_rfl) (by kernel_rfl) rfl rfl (.nil _) ?_ | refine WPA.takeL 3 rfl (Ent.mem (by repeat (first | exact List.Mem.head _ | apply List.Mem.tail))) (q_load1 ld_sl_int rfl (.head _) rfl (by rfl)) (by kernel_rfl) (by kernel_rfl) (by kernel_rfl) rfl rfl (.nil _) ?_
        refine WPA.putS ?_
        refine WPA.takeP 4 rfl (q_move rfl) (by kernel_rfl) (by kernel_rfl) (by kernel_rfl) rfl rfl (.cons (Ent.mem (by repeat (first | exact List.Mem.head _ | apply List.Mem.tail))) (.nil _)) ?_
        refine WPA.putS ?_
        first | refine WPA.takeP 5 rfl (q_nilP rfl) (by kernel_rfl) (by kernel_rfl) (by kernel_rfl) rfl rfl (.cons (Ent.mem (by repeat (first | exact List.Mem.head _ | apply List.Mem.tail))) (.nil _)) ?_ | refine WPA.takeP 5 rfl (q_nilF rfl) (by kernel_rfl) (by kernel_rfl) (by kernel_rfl) rfl rfl (.cons (Ent.mem (by repeat (first | exact List.Mem.head _ | apply List.Mem.tail))) (.nil _)) ?_
        refine WPA.putS ?_
        first | refine WPA.takeP 6 rfl (q_faK fa_elect_Node_Yes rfl) (by kernel_rfl) (by kernel_rfl) (by kernel_rfl) rfl rfl (.cons (Ent.mem (by repeat (first | exact List.Mem.head _ | apply List.Mem.tail))) (.nil _)) ?_ | refine WPA.takeP 6 rfl (q_fa fa_elect_Node_Yes rfl) (by kernel_rfl) (by kernel_rfl) (by kernel_rfl) rfl rfl (.cons (Ent.mem (by repeat (first | exact List.Mem.head _ | apply List.Mem.tail))) (.nil _)) ?_
        refine WPA.putS ?_
        first | refine WPA.takeL 7 rfl (Ent.mem (by repeat (first | exact List.Mem.head _ | apply List.Mem.tail))) (q_load1z ld_sl_int rfl (.head _) (by rfl)) (by kernel_rfl) (by kernel_rfl) (by kernel_rfl) rfl rfl (.cons (Ent.mem (by repeat (first | exact List.Mem.head _ | apply List.Mem.tail))) (.nil _)) ?_ | refine WPA.takeL 7 rfl (Ent.mem (by repeat (first | exact List.Mem.head _ | apply List.Mem.tail))) (q_load1 ld_sl_int rfl (.head _) rfl (by rfl)) (by kernel_rfl) (by kernel_rfl) (by kernel_rfl) rfl rfl (.cons (Ent.mem (by repeat (first | exact List.Mem.head _ | apply List.Mem.tail))) (.nil _)) ?_
        refine WPA.putS ?_
        refine WPA.oneE 8 [] (by kernel_rfl) rfl rfl (by repeat (first | exact .nil | refine .anc rfl ?_ | refine .keep (by repeat (first | exact List.Mem.head _ | apply List.Mem.tail)) ?_)) (C1.call (c_call Try.func31 rfl rfl rfl) (c_Agrees (ys := [(mn : Int)]) hc hy hcn (by omega)) (by repeat (first | exact Pick.nil | apply Pick.keep (by repeat (first | exact List.Mem.head _ | apply List.Mem.tail)) (by first | exact Pers.cells _ _ _ | exact Pers.slv _ _ _) | apply Pick.cons (by repeat (first | exact Pick1.here | apply Pick1.there)))) rfl ?_)
        rintro _ _ ⟨rfl, rfl⟩
        refine ⟨(.nil _), ?_⟩
        refine WPA.putS ?_
        refine WPA.done (by kernel_rfl) ?_
        refine WPC.cond rfl (fun h2 => ?_) (fun h2 => ?_)
        · have ef : EN.askP (⟨(mn : Int), vote, role, lead, conf, yes, term, commit, base, bt, es, heard, next, mtch⟩ : EN) = ((⟨(mn : Int), vote, 1, -1, conf, [(mn : Int)], term, commit, base, bt, es, heard, next, mtch⟩ : EN).askR.1, (⟨(mn : Int), vote, 1, -1, conf, [(mn : Int)], term, commit, base, bt, es, heard, next, mtch⟩ : EN).askR.2) := by simp [EN.askP, h0, h2]
          refine WPC.seqR ?_
          refine L_s (q_move rfl) rfl ?_
          refine WPL.imp ((Imp.pick (Δ := cells true bY 0 [.int .i64 (mn : Int)] :: cells true b o (nodeC (⟨(mn : Int), vote, 1, -1, conf, [(mn : Int)], term, commit, base, bt, es, heard, next, mtch⟩ : EN) (⟨ca, cn, cc, some ⟨bY, 0, none⟩, 1, 1, ea, en, ec, na, ma⟩ : NL)) :: sl false ca (conf.map (.int .i64)) :: sl false ea (es.flatMap encE) :: cells true na 0 (next.map (.int .u64)) :: cells true ma 0 (mtch.map (.int .u64)) :: []) (by repeat (first | exact Pick.nil | apply Pick.keep (by repeat (first | exact List.Mem.head _ | apply List.Mem.tail)) (by first | exact Pers.cells _ _ _ | exact Pers.slv _ _ _) | apply Pick.cons (by repeat (first | exact Pick1.here | apply Pick1.there))))).trans ((Imp.bufNew (sz := 1) (n := 1) rfl).trans ((Imp.pick (by repeat (first | exact Pick.nil | apply Pick.keep (by repeat (first | exact List.Mem.head _ | apply List.Mem.tail)) (by first | exact Pers.cells _ _ _ | exact Pers.slv _ _ _) | apply Pick.cons (by repeat (first | exact Pick1.here | apply Pick1.there))))).trans (enode_close (x := (⟨(mn : Int), vote, 1, -1, conf, [(mn : Int)], term, commit, base, bt, es, heard, next, mtch⟩ : EN)) (b := b) (o := o) (⟨ca, cn, cc, some ⟨bY, 0, none⟩, 1, 1, ea, en, ec, na, ma⟩ : NL) ⟨hc, hcn, he, hen, hnx, hmt⟩ (Γ := []))))) ?_
          refine WPL.cons rfl (C1.call (c_call Try.func32 rfl rfl rfl) (c_chosenA (x := (⟨(mn : Int), vote, 1, -1, conf, [(mn : Int)], term, commit, base, bt, es, heard, next, mtch⟩ : EN)) ⟨hme, hterm, hbase, hes, by simp⟩ rfl ht) (by repeat (first | exact Pick.nil | apply Pick.keep (by repeat (first | exact List.Mem.head _ | apply List.Mem.tail)) (by first | exact Pers.cells _ _ _ | exact Pers.slv _ _ _) | apply Pick.cons (by repeat (first | exact Pick1.here | apply Pick1.there)))) rfl ?_)
          rintro _ _ ⟨a, c, rfl, rfl⟩
          refine WPL.putS ?_
          refine L_s (q_assign rfl) rfl ?_
          refine WPL.nil ?_
          refine WPC.prune [(0, _), (4, _), (5, _)] (by repeat (first | exact trivial | refine ⟨rfl, ?_⟩)) ?_
          refine WPC.ret ?_
          refine thenQ_r ?_
          rw [ef]
          exact endR_r rfl (.tmp rfl .nil) (Imp.pick (by repeat (first | exact Pick.nil | apply Pick.keep (by repeat (first | exact List.Mem.head _ | apply List.Mem.tail)) (by first | exact Pers.cells _ _ _ | exact Pers.slv _ _ _) | apply Pick.cons (by repeat (first | exact Pick1.here | apply Pick1.there))))) ⟨a, c, rfl, rfl⟩
        · have ef : EN.askP (⟨(mn : Int), vote, role, lead, conf, yes, term, commit, base, bt, es, heard, next, mtch⟩ : EN) = ((⟨(mn : Int), vote, 1, -1, conf, [(mn : Int)], term, commit, base, bt, es, heard, next, mtch⟩ : EN), EN.toAll (⟨(mn : Int), vote, 1, -1, conf, [(mn : Int)], term, commit, base, bt, es, heard, next, mtch⟩ : EN) (msg 3 0 0 (term + 1) (base + (en : Int)) (lgLastTerm bt es) false)) := by simp [EN.askP, h0, h2, EN.last, hel]
          refine WPC.skip ?_
          refine thenQ_n ?_
          refine WPC.seqR ?_
          refine L_s (q_move rfl) rfl ?_
          first | refine L_s (q_loadNz (us := [_, _, _, _, _, _, _, _, _, _]) ld_api_Msg rfl (by repeat (first | exact List.Mem.head _ | apply List.Mem.tail)) (by exact ⟨rfl, rfl⟩)) rfl ?_ | refine L_s (q_loadNk (us := [_, _, _, _, _, _, _, _, _, _]) ld_api_Msg rfl (by repeat (first | exact List.Mem.head _ | apply List.Mem.tail)) (by exact ⟨rfl, rfl⟩)) rfl ?_
          refine WPL.cons rfl (C1.call (c_call Try.func33 rfl rfl rfl) (c_toAll (x := (⟨(mn : Int), vote, 1, -1, conf, [(mn : Int)], term, commit, base, bt, es, heard, next, mtch⟩ : EN)) (L := (⟨ca, cn, cc, some ⟨bY, 0, none⟩, 1, 1, ea, en, ec, na, ma⟩ : NL)) hc hcn (msg 3 0 0 (term + 1) (base + (en : Int)) (lgLastTerm bt es) false)) (by repeat (first | exact Pick.nil | apply Pick.keep (by repeat (first | exact List.Mem.head _ | apply List.Mem.tail)) (by first | exact Pers.cells _ _ _ | exact Pers.slv _ _ _) | apply Pick.cons (by repeat (first | exact Pick1.here | apply Pick1.there)))) rfl ?_)
          rintro _ _ ⟨a, c, rfl, rfl⟩
          refine WPL.putS ?_
          refine L_s (q_assign rfl) rfl ?_
          refine WPL.nil ?_
          refine WPC.prune [(4, _)] (by repeat (first | exact trivial | refine ⟨rfl, ?_⟩)) ?_
          refine WPC.ret ?_
          rw [ef]
          exact endR_r rfl (.tmp rfl .nil) (((Imp.pick (Δ := cells true bY 0 [.int .i64 (mn : Int)] :: cells true b o (nodeC (⟨(mn : Int), vote, 1, -1, conf, [(mn : Int)], term, commit, base, bt, es, heard, next, mtch⟩ : EN) (⟨ca, cn, cc, some ⟨bY, 0, none⟩, 1, 1, ea, en, ec, na, ma⟩ : NL)) :: sl false ca (conf.map (.int .i64)) :: sl false ea (es.flatMap encE) :: cells true na 0 (next.map (.int .u64)) :: cells true ma 0 (mtch.map (.int .u64)) :: [buf 10 a (EN.toAll (⟨(mn : Int), vote, 1, -1, conf, [(mn : Int)], term, commit, base, bt, es, heard, next, mtch⟩ : EN) (msg 3 0 0 (term + 1) (base + (en : Int)) (lgLastTerm bt es) false)).length c ((EN.toAll (⟨(mn : Int), vote, 1, -1, conf, [(mn : Int)], term, commit, base, bt, es, heard, next, mtch⟩ : EN) (msg 3 0 0 (term + 1) (base + (en : Int)) (lgLastTerm bt es) false)).flatMap encM)]) (by repeat (first | exact Pick.nil | apply Pick.keep (by repeat (first | exact List.Mem.head _ | apply List.Mem.tail)) (by first | exact Pers.cells _ _ _ | exact Pers.slv _ _ _) | apply Pick.cons (by repeat (first | exact Pick1.here | apply Pick1.there))))).trans ((Imp.bufNew (sz := 1) (n := 1) rfl).trans ((Imp.pick (by repeat (first | exact Pick.nil | apply Pick.keep (by repeat (first | exact List.Mem.head _ | apply List.Mem.tail)) (by first | exact Pers.cells _ _ _ | exact Pers.slv _ _ _) | apply Pick.cons (by repeat (first | exact Pick1.here | apply Pick1.there))))).trans (enode_close (x := (⟨(mn : Int), vote, 1, -1, conf, [(mn : Int)], term, commit, base, bt, es, heard, next, mtch⟩ : EN)) (b := b) (o := o) (⟨ca, cn, cc, some ⟨bY, 0, none⟩, 1, 1, ea, en, ec, na, ma⟩ : NL) ⟨hc, hcn, he, hen, hnx, hmt⟩ (Γ := [buf 10 a (EN.toAll (⟨(mn : Int), vote, 1, -1, conf, [(mn : Int)], term, commit, base, bt, es, heard, next, mtch⟩ : EN) (msg 3 0 0 (term + 1) (base + (en : Int)) (lgLastTerm bt es) false)).length c ((EN.toAll (⟨(mn : Int), vote, 1, -1, conf, [(mn : Int)], term, commit, base, bt, es, heard, next, mtch⟩ : EN) (msg 3 0 0 (term + 1) (base + (en : Int)) (lgLastTerm bt es) false)).flatMap encM)])))))) ⟨a, c, rfl, rfl⟩

end Go.Sl
