/- Walks: ElectAsks. -/
import Derived.Test.YtpipmojaonialaaWD
import Derived.Test.YtpipmojaonialaaWH
import Derived.Test.YtpipmojaonialaaWJ
namespace Go.Sl
open Go Go.RowKit Go.Proofs
set_option linter.unusedSimpArgs false
set_option linter.unusedVariables false
attribute [local irreducible] faB szB ldB zB zL slB mkB arB plB intB cells objc star stars buf slv grp whole Sat WPC WPL WPA WPO Trip

theorem c_Ask {b o : Nat} {x : EN} (hx : x.fits) (ht : x.term + 1 < 2305843009213693952) (real : Bool) : Trip Try.prog 8 #[.pointer (some ⟨b, o, none⟩), .bool real] [enode b o x] fun r Δ => ∃ (a : Option Addr) (c : Nat), r = .slice a (x.ask real).2.length c ∧ Δ = [enode b o (x.ask real).1, buf 10 a (x.ask real).2.length c ((x.ask real).2.flatMap encM)] := by
  cases real
  · exact c_AskP hx ht
  · exact c_AskR hx ht
theorem c_rAsk {b o : Nat} {x : EN} (hx : x.fits) (ht : x.term + 1 < 2305843009213693952) (real : Bool) : Trip Try.prog 9 #[.pointer (some ⟨b, o, none⟩), .bool real] [rnode b o x] fun r Δ => ∃ (a : Option Addr) (c : Nat), r = .slice a (x.ask real).2.length c ∧ Δ = [rnode b o (x.ask real).1, buf 10 a (x.ask real).2.length c ((x.ask real).2.flatMap encM)] := by
  cases real
  · exact c_rAskP hx ht
  · exact c_rAskR hx ht

theorem c_AsksNil {ca ea : Option Addr} {cn cc en ec : Nat} {xs : List Int} {es : List RE} {me role vote term base bt next lead : Int} {real : Bool} {D : A} (hc : Sok 1 ca cn cc (xs.map (.int .i64))) (he : Sok 3 ea en ec (es.flatMap encE)) (hg : ¬ (right xs = true ∧ base < 1152921504606846976 ∧ (en : Int) ≤ 20 ∧ 0 ≤ me ∧ me ≤ 15 ∧ 0 ≤ role ∧ role ≤ 3 ∧ -1 ≤ vote ∧ vote ≤ 15 ∧ term < 1152921504606846976 ∧ ((0 : Nat) : Int) ≤ 20)) : Trip Try.prog 3 #[.int .i64 me, .slice ca cn cc, .int .i64 role, .int .i64 vote, .int .u64 term, .agg #[.int .u64 base, .int .u64 bt, .slice ea en ec], .bool real, .int .u64 next, .int .i64 lead] [sl false ca (xs.map (.int .i64)), sl false ea (es.flatMap encE), D] fun r Δ => r = .bool true ∧ Δ = [] := by
  have hy0 : Sok 1 none 0 0 (([] : List Int).map (.int .i64)) := ⟨rfl, Nat.le_refl _, .inl rfl⟩
  refine Trip.start 106 [.tmp 18] [(0, .int .i64 me), (1, .slice ca cn cc), (2, .int .i64 role), (3, .int .i64 vote), (4, .int .u64 term), (5, .agg #[.int .u64 base, .int .u64 bt, .slice ea en ec]), (6, .bool real), (7, .int .u64 next), (8, .int .i64 lead)] Try.func3 rfl Try.ntmps3 rfl ⟨rfl, rfl, rfl, rfl, rfl, rfl, rfl, rfl, rfl, trivial⟩ rfl ?_
  refine WPC.seqR ?_
  first | refine WPL.cons rfl (E1.wpo (e_boxN rfl) rfl ?_) | refine WPL.cons rfl (E1.wpo (e_box1 rfl rfl) rfl ?_)
  rintro _ _ ⟨b1, rfl, rfl⟩
  refine WPL.putS ?_
  refine L_s (q_assign rfl) rfl ?_
  refine WPL.nil ?_
  refine WPC.seqR ?_
  refine WPL.cons rfl (C1.call (c_call Try.func5 rfl rfl rfl) c_awake (by repeat (first | exact Pick.nil | apply Pick.keep (by repeat (first | exact List.Mem.head _ | apply List.Mem.tail)) (by first | exact Pers.cells _ _ _ | exact Pers.slv _ _ _) | apply Pick.cons (by repeat (first | exact Pick1.here | apply Pick1.there)))) rfl ?_)
  rintro _ _ ⟨rfl, rfl⟩
  refine WPL.putS ?_
  refine L_s (q_assign rfl) rfl ?_
  refine WPL.nil ?_
  refine WPC.seqR ?_
  refine L_s (q_move rfl) rfl ?_
  refine L_s (q_move rfl) rfl ?_
  refine L_s (q_move rfl) rfl ?_
  refine L_s (q_move rfl) rfl ?_
  refine L_s (q_move rfl) rfl ?_
  first | refine L_s (q_loadNz (us := [_, _, _]) ld_terms_Log rfl (by repeat (first | exact List.Mem.head _ | apply List.Mem.tail)) (by exact ⟨rfl, rfl⟩)) rfl ?_ | refine L_s (q_loadNk (us := [_, _, _]) ld_terms_Log rfl (by repeat (first | exact List.Mem.head _ | apply List.Mem.tail)) (by exact ⟨rfl, rfl⟩)) rfl ?_
  refine WPL.imp (Imp.slEmpty (p := false) (a := none)) ?_
  refine WPL.cons rfl (C1.call (c_call Try.func6 rfl rfl rfl) (c_bothNil hc hy0 he hg) (by repeat (first | exact Pick.nil | apply Pick.keep (by repeat (first | exact List.Mem.head _ | apply List.Mem.tail)) (by first | exact Pers.cells _ _ _ | exact Pers.slv _ _ _) | apply Pick.cons (by repeat (first | exact Pick1.here | apply Pick1.there)))) rfl ?_)
  rintro _ _ ⟨rfl, rfl⟩
  refine WPL.putS ?_
  refine L_s (q_move rfl) rfl ?_
  refine L_s (q_extract rfl rfl) rfl ?_
  refine L_s (q_extract rfl rfl) rfl ?_
  refine L_s (q_assign rfl) rfl ?_
  refine L_s (q_assign rfl) rfl ?_
  refine WPL.nil ?_
  refine WPC.prune [(0, _), (1, _), (6, _), (7, _), (8, _), (18, _), (19, _), (20, _), (21, _)] (by repeat (first | exact trivial | refine ⟨rfl, ?_⟩)) ?_
  refine WPC.seq ?_
  refine WPC.seqR ?_
  refine L_s (q_move rfl) rfl ?_
  first | refine L_s (q_ptNilEq un_ptr_elect_Node rfl rfl) rfl ?_ | refine L_s (q_ptNoneEq un_ptr_elect_Node rfl rfl) rfl ?_
  refine L_s (q_move rfl) rfl ?_
  refine L_split 42 _ rfl (fun g3_2 => ?_) (fun g3_2 => ?_)
  · try simp only [decide_eq_true_eq, decide_eq_false_iff_not, beq_iff_eq, bne_iff_ne, beq_eq_false_iff_ne, bne_eq_false_iff_eq, Bool.not_eq_true', Bool.not_eq_false', Bool.not_eq_eq_eq_not, Bool.not_true, Bool.not_false, ne_eq, Decidable.not_not, Int.not_lt, Int.not_le, gt_iff_lt, ge_iff_le] at g3_2
    refine L_no rfl rfl rfl rfl ?_
    refine L_no rfl rfl rfl rfl ?_
    first | refine L_s (q_pickT rfl rfl) rfl ?_ | refine L_s (q_pickF rfl rfl) rfl ?_
    refine L_s (q_move rfl) rfl ?_
    refine L_split 46 _ rfl (fun g3_6 => ?_) (fun g3_6 => ?_)
    · try simp only [decide_eq_true_eq, decide_eq_false_iff_not, beq_iff_eq, bne_iff_ne, beq_eq_false_iff_ne, bne_eq_false_iff_eq, Bool.not_eq_true', Bool.not_eq_false', Bool.not_eq_eq_eq_not, Bool.not_true, Bool.not_false, ne_eq, Decidable.not_not, Int.not_lt, Int.not_le, gt_iff_lt, ge_iff_le] at g3_6
      refine L_no rfl rfl rfl rfl ?_
      refine L_no rfl rfl rfl rfl ?_
      first | refine L_s (q_pickT rfl rfl) rfl ?_ | refine L_s (q_pickF rfl rfl) rfl ?_
      refine WPL.nil ?_
      refine WPC.cond rfl (fun h0 => ?_) (fun h0 => ?_)
      · skip
        refine WPC.seqR ?_
        refine L_s (q_move rfl) rfl ?_
        refine L_s (q_assign rfl) rfl ?_
        refine WPL.nil ?_
        refine WPC.ret ?_
        refine thenQ_r ?_
        exact endR_r rfl (.tmp rfl .nil) (Imp.nil _) ⟨rfl, rfl⟩
      · skip
        simp at h0
    · skip
      simp at g3_6
  · skip
    simp at g3_2

theorem c_AsksFar {ca ea : Option Addr} {cn cc en ec : Nat} {xs : List Int} {es : List RE} {me role vote term base bt next lead : Int} {real : Bool} {D : A} (hc : Sok 1 ca cn cc (xs.map (.int .i64))) (he : Sok 3 ea en ec (es.flatMap encE)) (hg : (right xs = true ∧ base < 1152921504606846976 ∧ (en : Int) ≤ 20 ∧ 0 ≤ me ∧ me ≤ 15 ∧ 0 ≤ role ∧ role ≤ 3 ∧ -1 ≤ vote ∧ vote ≤ 15 ∧ term < 1152921504606846976 ∧ ((0 : Nat) : Int) ≤ 20)) (hx : 1152921504606846976 ≤ next) : Trip Try.prog 3 #[.int .i64 me, .slice ca cn cc, .int .i64 role, .int .i64 vote, .int .u64 term, .agg #[.int .u64 base, .int .u64 bt, .slice ea en ec], .bool real, .int .u64 next, .int .i64 lead] [sl false ca (xs.map (.int .i64)), sl false ea (es.flatMap encE), D] fun r Δ => r = .bool true ∧ Δ = [] := by
  have hy0 : Sok 1 none 0 0 (([] : List Int).map (.int .i64)) := ⟨rfl, Nat.le_refl _, .inl rfl⟩
  refine Trip.start 106 [.tmp 18] [(0, .int .i64 me), (1, .slice ca cn cc), (2, .int .i64 role), (3, .int .i64 vote), (4, .int .u64 term), (5, .agg #[.int .u64 base, .int .u64 bt, .slice ea en ec]), (6, .bool real), (7, .int .u64 next), (8, .int .i64 lead)] Try.func3 rfl Try.ntmps3 rfl ⟨rfl, rfl, rfl, rfl, rfl, rfl, rfl, rfl, rfl, trivial⟩ rfl ?_
  refine WPC.seqR ?_
  first | refine WPL.cons rfl (E1.wpo (e_boxN rfl) rfl ?_) | refine WPL.cons rfl (E1.wpo (e_box1 rfl rfl) rfl ?_)
  rintro _ _ ⟨b1, rfl, rfl⟩
  refine WPL.putS ?_
  refine L_s (q_assign rfl) rfl ?_
  refine WPL.nil ?_
  refine WPC.seqR ?_
  refine WPL.cons rfl (C1.call (c_call Try.func5 rfl rfl rfl) c_awake (by repeat (first | exact Pick.nil | apply Pick.keep (by repeat (first | exact List.Mem.head _ | apply List.Mem.tail)) (by first | exact Pers.cells _ _ _ | exact Pers.slv _ _ _) | apply Pick.cons (by repeat (first | exact Pick1.here | apply Pick1.there)))) rfl ?_)
  rintro _ _ ⟨rfl, rfl⟩
  refine WPL.putS ?_
  refine L_s (q_assign rfl) rfl ?_
  refine WPL.nil ?_
  refine WPC.seqR ?_
  refine L_s (q_move rfl) rfl ?_
  refine L_s (q_move rfl) rfl ?_
  refine L_s (q_move rfl) rfl ?_
  refine L_s (q_move rfl) rfl ?_
  refine L_s (q_move rfl) rfl ?_
  first | refine L_s (q_loadNz (us := [_, _, _]) ld_terms_Log rfl (by repeat (first | exact List.Mem.head _ | apply List.Mem.tail)) (by exact ⟨rfl, rfl⟩)) rfl ?_ | refine L_s (q_loadNk (us := [_, _, _]) ld_terms_Log rfl (by repeat (first | exact List.Mem.head _ | apply List.Mem.tail)) (by exact ⟨rfl, rfl⟩)) rfl ?_
  refine WPL.imp (Imp.slEmpty (p := false) (a := none)) ?_
  refine WPL.cons rfl (C1.call (c_call Try.func6 rfl rfl rfl) (c_both hc hy0 he hg) (by repeat (first | exact Pick.nil | apply Pick.keep (by repeat (first | exact List.Mem.head _ | apply List.Mem.tail)) (by first | exact Pers.cells _ _ _ | exact Pers.slv _ _ _) | apply Pick.cons (by repeat (first | exact Pick1.here | apply Pick1.there)))) rfl ?_)
  rintro _ _ ⟨bx, by_, rfl, rfl⟩
  refine WPL.putS ?_
  refine L_s (q_move rfl) rfl ?_
  refine L_s (q_extract rfl rfl) rfl ?_
  refine L_s (q_extract rfl rfl) rfl ?_
  refine L_s (q_assign rfl) rfl ?_
  refine L_s (q_assign rfl) rfl ?_
  refine WPL.nil ?_
  refine WPC.prune [(0, _), (1, _), (6, _), (7, _), (8, _), (18, _), (19, _), (20, _), (21, _)] (by repeat (first | exact trivial | refine ⟨rfl, ?_⟩)) ?_
  refine WPC.seq ?_
  refine WPC.seqR ?_
  refine L_s (q_move rfl) rfl ?_
  first | refine L_s (q_ptNilEq un_ptr_elect_Node rfl rfl) rfl ?_ | refine L_s (q_ptNoneEq un_ptr_elect_Node rfl rfl) rfl ?_
  refine L_s (q_move rfl) rfl ?_
  refine L_split 42 _ rfl (fun g3_2 => ?_) (fun g3_2 => ?_)
  · skip
    simp at g3_2
  · try simp only [decide_eq_true_eq, decide_eq_false_iff_not, beq_iff_eq, bne_iff_ne, beq_eq_false_iff_ne, bne_eq_false_iff_eq, Bool.not_eq_true', Bool.not_eq_false', Bool.not_eq_eq_eq_not, Bool.not_true, Bool.not_false, ne_eq, Decidable.not_not, Int.not_lt, Int.not_le, gt_iff_lt, ge_iff_le] at g3_2
    refine L_yes rfl rfl (q_move rfl) rfl ?_
    first | refine L_yes rfl rfl (q_ptNilEq un_ptr_pursuivantref11_Node rfl rfl) rfl ?_ | refine L_yes rfl rfl (q_ptNoneEq un_ptr_pursuivantref11_Node rfl rfl) rfl ?_
    first | refine L_s (q_pickT rfl rfl) rfl ?_ | refine L_s (q_pickF rfl rfl) rfl ?_
    refine L_s (q_move rfl) rfl ?_
    refine L_split 46 _ rfl (fun g3_6 => ?_) (fun g3_6 => ?_)
    · skip
      simp at g3_6
    · try simp only [decide_eq_true_eq, decide_eq_false_iff_not, beq_iff_eq, bne_iff_ne, beq_eq_false_iff_ne, bne_eq_false_iff_eq, Bool.not_eq_true', Bool.not_eq_false', Bool.not_eq_eq_eq_not, Bool.not_true, Bool.not_false, ne_eq, Decidable.not_not, Int.not_lt, Int.not_le, gt_iff_lt, ge_iff_le] at g3_6
      refine L_yes rfl rfl (q_move rfl) rfl ?_
      refine L_yes rfl rfl (q_int rfl rfl rfl) rfl ?_
      first | refine L_s (q_pickT rfl rfl) rfl ?_ | refine L_s (q_pickF rfl rfl) rfl ?_
      refine WPL.nil ?_
      refine WPC.cond rfl (fun h0 => ?_) (fun h0 => ?_)
      · skip
        refine WPC.seqR ?_
        refine L_s (q_move rfl) rfl ?_
        refine L_s (q_assign rfl) rfl ?_
        refine WPL.nil ?_
        refine WPC.ret ?_
        refine thenQ_r ?_
        exact endR_r rfl (.tmp rfl .nil) (Imp.nil _) ⟨rfl, rfl⟩
      · try simp only [decide_eq_true_eq, decide_eq_false_iff_not, beq_iff_eq, bne_iff_ne, beq_eq_false_iff_ne, bne_eq_false_iff_eq, Bool.not_eq_true', Bool.not_eq_false', Bool.not_eq_eq_eq_not, Bool.not_true, Bool.not_false, ne_eq, Decidable.not_not, Int.not_lt, Int.not_le, gt_iff_lt, ge_iff_le] at h0
        (try simp only [decide_eq_true_eq] at h0); omega

theorem c_Asks {ca ea : Option Addr} {cn cc en ec : Nat} {xs : List Int} {es : List RE} {me role vote term base bt next lead : Int} {real : Bool} {D : A} (hc : Sok 1 ca cn cc (xs.map (.int .i64))) (he : Sok 3 ea en ec (es.flatMap encE)) (hg : (right xs = true ∧ base < 1152921504606846976 ∧ (en : Int) ≤ 20 ∧ 0 ≤ me ∧ me ≤ 15 ∧ 0 ≤ role ∧ role ≤ 3 ∧ -1 ≤ vote ∧ vote ≤ 15 ∧ term < 1152921504606846976 ∧ ((0 : Nat) : Int) ≤ 20)) (hterm : 0 ≤ term) (hbase : 0 ≤ base) (hnext : next < 1152921504606846976) (hd : ∀ e ∈ es, EData D e) : Trip Try.prog 3 #[.int .i64 me, .slice ca cn cc, .int .i64 role, .int .i64 vote, .int .u64 term, .agg #[.int .u64 base, .int .u64 bt, .slice ea en ec], .bool real, .int .u64 next, .int .i64 lead] [sl false ca (xs.map (.int .i64)), sl false ea (es.flatMap encE), D] fun r Δ => r = .bool true ∧ Δ = [] := by
  have hy0 : Sok 1 none 0 0 (([] : List Int).map (.int .i64)) := ⟨rfl, Nat.le_refl _, .inl rfl⟩
  have hel : es.length = en := by have := he.len; rw [flat_length encE_len] at this; omega
  have hxl : xs.length ≤ 17 := by have h1 := hg.1; simp only [right, Bool.and_eq_true] at h1; have := (rightF_bound xs (-1) h1.1).1; omega
  have hcl : xs.length = cn := by have := hc.len; simpa using this
  have hcn : cn < 1073741824 := by omega
  have hxf : (EN.of me vote role xs [] term base bt es false).fits := ⟨⟨hg.2.2.2.1, by have := hg.2.2.2.2.1; show me < 16; omega⟩, ⟨hterm, by have := hg.2.2.2.2.2.2.2.2.2.1; show term < _; omega⟩, ⟨hbase, by have := hg.2.1; show base < _; omega⟩, by have := hg.2.2.1; show es.length < _; omega, by show 0 < _; omega⟩
  have hxt : (EN.of me vote role xs [] term base bt es false).term + 1 < 2305843009213693952 := by have := hg.2.2.2.2.2.2.2.2.2.1; show term + 1 < _; omega
  have hdY : ∀ e ∈ (EN.ask (EN.of me vote role xs [] term base bt es false) real).1.es, EData D e := by
    intro e h
    rcases ask_es _ _ e h with h | ⟨t, rfl⟩
    · exact hd e h
    · exact EData.none D t 0
  have hyY : (EN.ask (EN.of me vote role xs [] term base bt es false) real).1.yes.length < 268435456 := by have := ask_yes (EN.of me vote role xs [] term base bt es false) real; have h2 : (EN.of me vote role xs [] term base bt es false).yes.length = 0 := rfl; omega
  have hml : (EN.ask (EN.of me vote role xs [] term base bt es false) real).2.length < 1073741824 := by have := ask_len (EN.of me vote role xs [] term base bt es false) real; have h2 : (EN.of me vote role xs [] term base bt es false).conf.length = xs.length := rfl; omega
  have hmb := ask_bare (EN.of me vote role xs [] term base bt es false) real
  refine Trip.start 106 [.tmp 18] [(0, .int .i64 me), (1, .slice ca cn cc), (2, .int .i64 role), (3, .int .i64 vote), (4, .int .u64 term), (5, .agg #[.int .u64 base, .int .u64 bt, .slice ea en ec]), (6, .bool real), (7, .int .u64 next), (8, .int .i64 lead)] Try.func3 rfl Try.ntmps3 rfl ⟨rfl, rfl, rfl, rfl, rfl, rfl, rfl, rfl, rfl, trivial⟩ rfl ?_
  refine WPC.seqR ?_
  first | refine WPL.cons rfl (E1.wpo (e_boxN rfl) rfl ?_) | refine WPL.cons rfl (E1.wpo (e_box1 rfl rfl) rfl ?_)
  rintro _ _ ⟨b1, rfl, rfl⟩
  refine WPL.putS ?_
  refine L_s (q_assign rfl) rfl ?_
  refine WPL.nil ?_
  refine WPC.seqR ?_
  refine WPL.cons rfl (C1.call (c_call Try.func5 rfl rfl rfl) c_awake (by repeat (first | exact Pick.nil | apply Pick.keep (by repeat (first | exact List.Mem.head _ | apply List.Mem.tail)) (by first | exact Pers.cells _ _ _ | exact Pers.slv _ _ _) | apply Pick.cons (by repeat (first | exact Pick1.here | apply Pick1.there)))) rfl ?_)
  rintro _ _ ⟨rfl, rfl⟩
  refine WPL.putS ?_
  refine L_s (q_assign rfl) rfl ?_
  refine WPL.nil ?_
  refine WPC.seqR ?_
  refine L_s (q_move rfl) rfl ?_
  refine L_s (q_move rfl) rfl ?_
  refine L_s (q_move rfl) rfl ?_
  refine L_s (q_move rfl) rfl ?_
  refine L_s (q_move rfl) rfl ?_
  first | refine L_s (q_loadNz (us := [_, _, _]) ld_terms_Log rfl (by repeat (first | exact List.Mem.head _ | apply List.Mem.tail)) (by exact ⟨rfl, rfl⟩)) rfl ?_ | refine L_s (q_loadNk (us := [_, _, _]) ld_terms_Log rfl (by repeat (first | exact List.Mem.head _ | apply List.Mem.tail)) (by exact ⟨rfl, rfl⟩)) rfl ?_
  refine WPL.imp (Imp.slEmpty (p := false) (a := none)) ?_
  refine WPL.cons rfl (C1.call (c_call Try.func6 rfl rfl rfl) (c_both hc hy0 he hg) (by repeat (first | exact Pick.nil | apply Pick.keep (by repeat (first | exact List.Mem.head _ | apply List.Mem.tail)) (by first | exact Pers.cells _ _ _ | exact Pers.slv _ _ _) | apply Pick.cons (by repeat (first | exact Pick1.here | apply Pick1.there)))) rfl ?_)
  rintro _ _ ⟨bx, by_, rfl, rfl⟩
  refine WPL.putS ?_
  refine L_s (q_move rfl) rfl ?_
  refine L_s (q_extract rfl rfl) rfl ?_
  refine L_s (q_extract rfl rfl) rfl ?_
  refine L_s (q_assign rfl) rfl ?_
  refine L_s (q_assign rfl) rfl ?_
  refine WPL.nil ?_
  refine WPC.prune [(0, _), (1, _), (6, _), (7, _), (8, _), (18, _), (19, _), (20, _), (21, _)] (by repeat (first | exact trivial | refine ⟨rfl, ?_⟩)) ?_
  refine WPC.seq ?_
  refine WPC.seqR ?_
  refine L_s (q_move rfl) rfl ?_
  first | refine L_s (q_ptNilEq un_ptr_elect_Node rfl rfl) rfl ?_ | refine L_s (q_ptNoneEq un_ptr_elect_Node rfl rfl) rfl ?_
  refine L_s (q_move rfl) rfl ?_
  refine L_split 42 _ rfl (fun g3_2 => ?_) (fun g3_2 => ?_)
  · skip
    simp at g3_2
  · try simp only [decide_eq_true_eq, decide_eq_false_iff_not, beq_iff_eq, bne_iff_ne, beq_eq_false_iff_ne, bne_eq_false_iff_eq, Bool.not_eq_true', Bool.not_eq_false', Bool.not_eq_eq_eq_not, Bool.not_true, Bool.not_false, ne_eq, Decidable.not_not, Int.not_lt, Int.not_le, gt_iff_lt, ge_iff_le] at g3_2
    refine L_yes rfl rfl (q_move rfl) rfl ?_
    first | refine L_yes rfl rfl (q_ptNilEq un_ptr_pursuivantref11_Node rfl rfl) rfl ?_ | refine L_yes rfl rfl (q_ptNoneEq un_ptr_pursuivantref11_Node rfl rfl) rfl ?_
    first | refine L_s (q_pickT rfl rfl) rfl ?_ | refine L_s (q_pickF rfl rfl) rfl ?_
    refine L_s (q_move rfl) rfl ?_
    refine L_split 46 _ rfl (fun g3_6 => ?_) (fun g3_6 => ?_)
    · skip
      simp at g3_6
    · try simp only [decide_eq_true_eq, decide_eq_false_iff_not, beq_iff_eq, bne_iff_ne, beq_eq_false_iff_ne, bne_eq_false_iff_eq, Bool.not_eq_true', Bool.not_eq_false', Bool.not_eq_eq_eq_not, Bool.not_true, Bool.not_false, ne_eq, Decidable.not_not, Int.not_lt, Int.not_le, gt_iff_lt, ge_iff_le] at g3_6
      refine L_yes rfl rfl (q_move rfl) rfl ?_
      refine L_yes rfl rfl (q_int rfl rfl rfl) rfl ?_
      first | refine L_s (q_pickT rfl rfl) rfl ?_ | refine L_s (q_pickF rfl rfl) rfl ?_
      refine WPL.nil ?_
      refine WPC.cond rfl (fun h0 => ?_) (fun h0 => ?_)
      · skip
        (try simp only [decide_eq_true_eq] at h0); omega
      · skip
        refine WPC.skip ?_
        refine thenQ_n ?_
        refine WPC.seqR ?_
        refine L_s (q_move rfl) rfl ?_
        refine WPL.imp (Imp.pick (Δ := [enode bx 0 (EN.of me vote role xs [] term base bt es false), rnode by_ 0 (EN.of me vote role xs [] term base bt es false), sl false ca (xs.map (.int .i64)), D]) (by repeat (first | exact Pick.nil | apply Pick.keep (by repeat (first | exact List.Mem.head _ | apply List.Mem.tail)) (by first | exact Pers.cells _ _ _ | exact Pers.slv _ _ _) | apply Pick.cons (by repeat (first | exact Pick1.here | apply Pick1.there))))) ?_
        refine WPL.exg (L := fun N => enodeL bx 0 (EN.of me vote role xs [] term base bt es false) N) fun N => WPL.pure fun hN => ?_
        refine WPL.cons rfl (C1.call (c_call Try.func7 rfl rfl rfl) (c_Others (p := true) (x := (EN.of me vote role xs [] term base bt es false)) (L := N) hN.c hN.cn) (by repeat (first | exact Pick.nil | apply Pick.keep (by repeat (first | exact List.Mem.head _ | apply List.Mem.tail)) (by first | exact Pers.cells _ _ _ | exact Pers.slv _ _ _) | apply Pick.cons (by repeat (first | exact Pick1.here | apply Pick1.there)))) rfl ?_)
        rintro _ _ ⟨ao, co, rfl, hso, hno, rfl⟩
        refine WPL.putS ?_
        refine L_s (q_assign rfl) rfl ?_
        refine WPL.nil ?_
        refine WPC.seqR ?_
        refine L_s (q_move rfl) rfl ?_
        refine L_s (q_move rfl) rfl ?_
        refine WPL.imp ((Imp.pick (Δ := [cells true bx 0 (nodeC (EN.of me vote role xs [] term base bt es false) N), sl false N.ca ((EN.of me vote role xs [] term base bt es false).conf.map (.int .i64)), buf 1 N.ya N.yn N.yc ((EN.of me vote role xs [] term base bt es false).yes.map (.int .i64)), sl false N.ea ((EN.of me vote role xs [] term base bt es false).es.flatMap encE), cells true N.na 0 ((EN.of me vote role xs [] term base bt es false).next.map (.int .u64)), cells true N.ma 0 ((EN.of me vote role xs [] term base bt es false).mtch.map (.int .u64)), rnode by_ 0 (EN.of me vote role xs [] term base bt es false), sl false ca (xs.map (.int .i64)), D, sl false ao ((EN.others (EN.of me vote role xs [] term base bt es false)).map (.int .i64))]) (by repeat (first | exact Pick.nil | apply Pick.keep (by repeat (first | exact List.Mem.head _ | apply List.Mem.tail)) (by first | exact Pers.cells _ _ _ | exact Pers.slv _ _ _) | apply Pick.cons (by repeat (first | exact Pick1.here | apply Pick1.there))))).trans (enode_close N hN (x := (EN.of me vote role xs [] term base bt es false)) (b := bx) (o := 0) (Γ := [rnode by_ 0 (EN.of me vote role xs [] term base bt es false), sl false ca (xs.map (.int .i64)), D, sl false ao ((EN.others (EN.of me vote role xs [] term base bt es false)).map (.int .i64))]))) ?_
        refine WPL.cons rfl (C1.call (c_call Try.func8 rfl rfl rfl) (c_Ask (x := (EN.of me vote role xs [] term base bt es false)) hxf hxt real) (by repeat (first | exact Pick.nil | apply Pick.keep (by repeat (first | exact List.Mem.head _ | apply List.Mem.tail)) (by first | exact Pers.cells _ _ _ | exact Pers.slv _ _ _) | apply Pick.cons (by repeat (first | exact Pick1.here | apply Pick1.there)))) rfl ?_)
        rintro _ _ ⟨a1, c1, rfl, rfl⟩
        refine WPL.putS ?_
        refine L_s (q_assign rfl) rfl ?_
        refine WPL.nil ?_
        refine WPC.prune [(0, _), (1, _), (6, _), (7, _), (8, _), (18, _), (19, _), (20, _), (21, _), (22, _), (23, _)] (by repeat (first | exact trivial | refine ⟨rfl, ?_⟩)) ?_
        refine WPC.seqR ?_
        refine L_s (q_move rfl) rfl ?_
        refine L_s (q_move rfl) rfl ?_
        refine WPL.cons rfl (C1.call (c_call Try.func9 rfl rfl rfl) (c_rAsk (x := (EN.of me vote role xs [] term base bt es false)) hxf hxt real) (by repeat (first | exact Pick.nil | apply Pick.keep (by repeat (first | exact List.Mem.head _ | apply List.Mem.tail)) (by first | exact Pers.cells _ _ _ | exact Pers.slv _ _ _) | apply Pick.cons (by repeat (first | exact Pick1.here | apply Pick1.there)))) rfl ?_)
        rintro _ _ ⟨a2, c2, rfl, rfl⟩
        refine WPL.putS ?_
        refine L_s (q_assign rfl) rfl ?_
        refine WPL.nil ?_
        refine WPC.seqR ?_
        refine L_s (q_move rfl) rfl ?_
        refine L_s (q_move rfl) rfl ?_
        refine WPL.cons rfl (C1.call (c_call Try.func10 rfl rfl rfl) (c_same (x := (EN.ask (EN.of me vote role xs [] term base bt es false) real).1) (D := D) hdY hyY) (by repeat (first | exact Pick.nil | apply Pick.keep (by repeat (first | exact List.Mem.head _ | apply List.Mem.tail)) (by first | exact Pers.cells _ _ _ | exact Pers.slv _ _ _) | apply Pick.cons (by repeat (first | exact Pick1.here | apply Pick1.there)))) rfl ?_)
        rintro _ _ ⟨rfl, rfl⟩
        refine WPL.putS ?_
        refine L_s (q_assign rfl) rfl ?_
        refine WPL.nil ?_
        refine WPC.seqR ?_
        refine L_s (q_move rfl) rfl ?_
        refine L_s (q_move rfl) rfl ?_
        refine L_s (q_move rfl) rfl ?_
        refine WPL.imp (Imp.pick (Δ := [enode bx 0 (EN.ask (EN.of me vote role xs [] term base bt es false) real).1, rnode by_ 0 (EN.ask (EN.of me vote role xs [] term base bt es false) real).1, sl false ca (xs.map (.int .i64)), D, sl false ao ((EN.others (EN.of me vote role xs [] term base bt es false)).map (.int .i64)), buf 10 a1 (EN.ask (EN.of me vote role xs [] term base bt es false) real).2.length c1 ((EN.ask (EN.of me vote role xs [] term base bt es false) real).2.flatMap encM), buf 10 a2 (EN.ask (EN.of me vote role xs [] term base bt es false) real).2.length c2 ((EN.ask (EN.of me vote role xs [] term base bt es false) real).2.flatMap encM)]) (by repeat (first | exact Pick.nil | apply Pick.keep (by repeat (first | exact List.Mem.head _ | apply List.Mem.tail)) (by first | exact Pers.cells _ _ _ | exact Pers.slv _ _ _) | apply Pick.cons (by repeat (first | exact Pick1.here | apply Pick1.there))))) ?_
        refine WPL.exg (L := fun N => enodeL bx 0 (EN.ask (EN.of me vote role xs [] term base bt es false) real).1 N) fun N2 => WPL.pure fun hN2 => ?_
        refine WPL.cons rfl (C1.call (c_call Try.func11 rfl rfl rfl) (c_Follow (x := (EN.ask (EN.of me vote role xs [] term base bt es false) real).1) (L := N2) next lead) (by repeat (first | exact Pick.nil | apply Pick.keep (by repeat (first | exact List.Mem.head _ | apply List.Mem.tail)) (by first | exact Pers.cells _ _ _ | exact Pers.slv _ _ _) | apply Pick.cons (by repeat (first | exact Pick1.here | apply Pick1.there)))) rfl ?_)
        rintro _ _ ⟨rfl, rfl⟩
        refine WPL.putS ?_
        refine WPL.nil ?_
        refine WPC.seqR ?_
        refine L_s (q_move rfl) rfl ?_
        refine L_s (q_move rfl) rfl ?_
        refine L_s (q_move rfl) rfl ?_
        refine WPL.imp ((Imp.bufNil (sz := 1)).trans ((Imp.pick (Δ := [cells true bx 0 (nodeC (EN.follow (EN.ask (EN.of me vote role xs [] term base bt es false) real).1 next lead) { N2 with ya := none, yn := 0, yc := 0 }), sl false N2.ca ((EN.ask (EN.of me vote role xs [] term base bt es false) real).1.conf.map (.int .i64)), buf 1 none 0 0 [], sl false N2.ea ((EN.ask (EN.of me vote role xs [] term base bt es false) real).1.es.flatMap encE), cells true N2.na 0 ((EN.ask (EN.of me vote role xs [] term base bt es false) real).1.next.map (.int .u64)), cells true N2.ma 0 ((EN.ask (EN.of me vote role xs [] term base bt es false) real).1.mtch.map (.int .u64)), rnode by_ 0 (EN.ask (EN.of me vote role xs [] term base bt es false) real).1, sl false ca (xs.map (.int .i64)), D, sl false ao ((EN.others (EN.of me vote role xs [] term base bt es false)).map (.int .i64)), buf 10 a1 (EN.ask (EN.of me vote role xs [] term base bt es false) real).2.length c1 ((EN.ask (EN.of me vote role xs [] term base bt es false) real).2.flatMap encM), buf 10 a2 (EN.ask (EN.of me vote role xs [] term base bt es false) real).2.length c2 ((EN.ask (EN.of me vote role xs [] term base bt es false) real).2.flatMap encM)]) (by repeat (first | exact Pick.nil | apply Pick.keep (by repeat (first | exact List.Mem.head _ | apply List.Mem.tail)) (by first | exact Pers.cells _ _ _ | exact Pers.slv _ _ _) | apply Pick.cons (by repeat (first | exact Pick1.here | apply Pick1.there))))).trans ((enode_close { N2 with ya := none, yn := 0, yc := 0 } ⟨hN2.c, hN2.cn, hN2.e, hN2.en, hN2.n, hN2.m⟩ (x := (EN.follow (EN.ask (EN.of me vote role xs [] term base bt es false) real).1 next lead)) (b := bx) (o := 0) (Γ := [rnode by_ 0 (EN.ask (EN.of me vote role xs [] term base bt es false) real).1, sl false ca (xs.map (.int .i64)), D, sl false ao ((EN.others (EN.of me vote role xs [] term base bt es false)).map (.int .i64)), buf 10 a1 (EN.ask (EN.of me vote role xs [] term base bt es false) real).2.length c1 ((EN.ask (EN.of me vote role xs [] term base bt es false) real).2.flatMap encM), buf 10 a2 (EN.ask (EN.of me vote role xs [] term base bt es false) real).2.length c2 ((EN.ask (EN.of me vote role xs [] term base bt es false) real).2.flatMap encM)])).trans (Imp.perm (.swap _ _ _))))) ?_
        refine WPL.exg (L := fun M => rnodeL by_ 0 (EN.ask (EN.of me vote role xs [] term base bt es false) real).1 M) fun M => WPL.pure fun hM => ?_
        refine WPL.imp (rnode_cut hM.n) ?_
        refine WPL.cons rfl (C1.call (c_call Try.func12 rfl rfl rfl) (c_rFollow (x := (EN.ask (EN.of me vote role xs [] term base bt es false) real).1) (L := M) next lead) (by repeat (first | exact Pick.nil | apply Pick.keep (by repeat (first | exact List.Mem.head _ | apply List.Mem.tail)) (by first | exact Pers.cells _ _ _ | exact Pers.slv _ _ _) | apply Pick.cons (by repeat (first | exact Pick1.here | apply Pick1.there)))) rfl ?_)
        rintro _ _ ⟨rfl, rfl⟩
        refine WPL.putS ?_
        refine WPL.nil ?_
        refine WPC.prune [(0, _), (1, _), (18, _), (19, _), (20, _), (21, _), (22, _), (23, _), (24, _), (25, _)] (by repeat (first | exact trivial | refine ⟨rfl, ?_⟩)) ?_
        refine WPC.seqR ?_
        refine L_s (q_move rfl) rfl ?_
        refine L_s (q_move rfl) rfl ?_
        refine WPL.imp ((Imp.slEmpty (p := false) (a := none)).trans ((Imp.pick (Δ := [cells true by_ 0 (rnodeH (EN.follow (EN.ask (EN.of me vote role xs [] term base bt es false) real).1 next lead) { M with ya := none, yn := 0, yc := 0 }), cells true by_ 12 ((EN.ask (EN.of me vote role xs [] term base bt es false) real).1.next.map (.int .u64)), cells true by_ 28 ((EN.ask (EN.of me vote role xs [] term base bt es false) real).1.mtch.map (.int .u64)), sl false M.ca ((EN.ask (EN.of me vote role xs [] term base bt es false) real).1.conf.map (.int .i64)), sl false none [], sl false M.ea ((EN.ask (EN.of me vote role xs [] term base bt es false) real).1.es.flatMap encE), enode bx 0 (EN.follow (EN.ask (EN.of me vote role xs [] term base bt es false) real).1 next lead), sl false ca (xs.map (.int .i64)), D, sl false ao ((EN.others (EN.of me vote role xs [] term base bt es false)).map (.int .i64)), buf 10 a1 (EN.ask (EN.of me vote role xs [] term base bt es false) real).2.length c1 ((EN.ask (EN.of me vote role xs [] term base bt es false) real).2.flatMap encM), buf 10 a2 (EN.ask (EN.of me vote role xs [] term base bt es false) real).2.length c2 ((EN.ask (EN.of me vote role xs [] term base bt es false) real).2.flatMap encM)]) (by repeat (first | exact Pick.nil | apply Pick.keep (by repeat (first | exact List.Mem.head _ | apply List.Mem.tail)) (by first | exact Pers.cells _ _ _ | exact Pers.slv _ _ _) | apply Pick.cons (by repeat (first | exact Pick1.here | apply Pick1.there))))).trans (rnode_close3 { M with ya := none, yn := 0, yc := 0 } ⟨hM.c, hM.cn, hy0, by (show 0 < _; omega), hM.e, hM.en, hM.n, hM.m⟩ (x := (EN.follow (EN.ask (EN.of me vote role xs [] term base bt es false) real).1 next lead)) (b := by_) (o := 0) (Γ := [enode bx 0 (EN.follow (EN.ask (EN.of me vote role xs [] term base bt es false) real).1 next lead), sl false ca (xs.map (.int .i64)), D, sl false ao ((EN.others (EN.of me vote role xs [] term base bt es false)).map (.int .i64)), buf 10 a1 (EN.ask (EN.of me vote role xs [] term base bt es false) real).2.length c1 ((EN.ask (EN.of me vote role xs [] term base bt es false) real).2.flatMap encM), buf 10 a2 (EN.ask (EN.of me vote role xs [] term base bt es false) real).2.length c2 ((EN.ask (EN.of me vote role xs [] term base bt es false) real).2.flatMap encM)])))) ?_
        refine WPL.cons rfl (C1.call (c_call Try.func10 rfl rfl rfl) (c_same (x := (EN.follow (EN.ask (EN.of me vote role xs [] term base bt es false) real).1 next lead)) (D := D) hdY (by show 0 < _; omega)) (by repeat (first | exact Pick.nil | apply Pick.keep (by repeat (first | exact List.Mem.head _ | apply List.Mem.tail)) (by first | exact Pers.cells _ _ _ | exact Pers.slv _ _ _) | apply Pick.cons (by repeat (first | exact Pick1.here | apply Pick1.there)))) rfl ?_)
        rintro _ _ ⟨rfl, rfl⟩
        refine WPL.putS ?_
        refine L_s (q_assign rfl) rfl ?_
        refine WPL.nil ?_
        refine WPC.seqR ?_
        refine L_s (q_move rfl) rfl ?_
        refine L_s (q_move rfl) rfl ?_
        refine WPL.cons rfl (C1.call (c_call Try.func13 rfl rfl rfl) (c_New hc hcn me) (by repeat (first | exact Pick.nil | apply Pick.keep (by repeat (first | exact List.Mem.head _ | apply List.Mem.tail)) (by first | exact Pers.cells _ _ _ | exact Pers.slv _ _ _) | apply Pick.cons (by repeat (first | exact Pick1.here | apply Pick1.there)))) rfl ?_)
        rintro _ _ ⟨bn, rfl, rfl⟩
        refine WPL.putS ?_
        refine L_s (q_assign rfl) rfl ?_
        refine WPL.nil ?_
        refine WPC.seqR ?_
        refine L_s (q_move rfl) rfl ?_
        first | refine L_s (q_ptNilNe un_ptr_elect_Node rfl rfl) rfl ?_ | refine L_s (q_ptNoneNe un_ptr_elect_Node rfl rfl) rfl ?_
        refine L_s (q_move rfl) rfl ?_
        refine L_split 78 _ rfl (fun g13_2 => ?_) (fun g13_2 => ?_)
        · skip
          refine L_yes rfl rfl (q_move rfl) rfl ?_
          refine L_yes rfl rfl (q_move rfl) rfl ?_
          refine L_yes rfl rfl (q_move rfl) rfl ?_
          refine L_eyes rfl rfl rfl (C1.call (c_call Try.func14 rfl rfl rfl) (c_rNew hc hcn me) (by repeat (first | exact Pick.nil | apply Pick.keep (by repeat (first | exact List.Mem.head _ | apply List.Mem.tail)) (by first | exact Pers.cells _ _ _ | exact Pers.slv _ _ _) | apply Pick.cons (by repeat (first | exact Pick1.here | apply Pick1.there)))) rfl ?_)
          rintro _ _ ⟨bm, rfl, rfl⟩
          refine WPL.putS ?_
          refine L_eyes rfl rfl rfl (C1.call (c_call Try.func10 rfl rfl rfl) (c_same (x := EN.new me xs) (D := D) (fun e h => absurd h (by simp [EN.new])) (by show 0 < _; omega)) (by repeat (first | exact Pick.nil | apply Pick.keep (by repeat (first | exact List.Mem.head _ | apply List.Mem.tail)) (by first | exact Pers.cells _ _ _ | exact Pers.slv _ _ _) | apply Pick.cons (by repeat (first | exact Pick1.here | apply Pick1.there)))) rfl ?_)
          rintro _ _ ⟨rfl, rfl⟩
          refine WPL.putS ?_
          first | refine L_s (q_pickT rfl rfl) rfl ?_ | refine L_s (q_pickF rfl rfl) rfl ?_
          refine L_s (q_assign rfl) rfl ?_
          refine WPL.nil ?_
          refine WPC.prune [(18, _), (19, _), (21, _), (22, _), (23, _), (24, _), (25, _), (26, _), (28, _)] (by repeat (first | exact trivial | refine ⟨rfl, ?_⟩)) ?_
          refine WPC.seqR ?_
          refine L_s (q_move rfl) rfl ?_
          refine L_s (q_move rfl) rfl ?_
          refine L_split 86 _ rfl (fun g14_1 => ?_) (fun g14_1 => ?_)
          · skip
            refine L_yes rfl rfl (q_move rfl) rfl ?_
            refine L_yes rfl rfl (q_move rfl) rfl ?_
            refine WPL.imp (Imp.pick (Δ := [rnode by_ 0 (EN.follow (EN.ask (EN.of me vote role xs [] term base bt es false) real).1 next lead), sl false ao ((EN.others (EN.of me vote role xs [] term base bt es false)).map (.int .i64)), buf 10 a1 (EN.ask (EN.of me vote role xs [] term base bt es false) real).2.length c1 ((EN.ask (EN.of me vote role xs [] term base bt es false) real).2.flatMap encM), buf 10 a2 (EN.ask (EN.of me vote role xs [] term base bt es false) real).2.length c2 ((EN.ask (EN.of me vote role xs [] term base bt es false) real).2.flatMap encM)]) (by repeat (first | exact Pick.nil | apply Pick.keep (by repeat (first | exact List.Mem.head _ | apply List.Mem.tail)) (by first | exact Pers.cells _ _ _ | exact Pers.slv _ _ _) | apply Pick.cons (by repeat (first | exact Pick1.here | apply Pick1.there))))) ?_
            refine WPL.exg (L := fun M => rnodeL by_ 0 (EN.follow (EN.ask (EN.of me vote role xs [] term base bt es false) real).1 next lead) M) fun M2 => WPL.pure fun hM2 => ?_
            refine WPL.imp (rnode_cut hM2.n) ?_
            refine L_eyes rfl rfl rfl (C1.call (c_call Try.func16 rfl rfl rfl) (c_rOthers (x := (EN.follow (EN.ask (EN.of me vote role xs [] term base bt es false) real).1 next lead)) (L := M2) hM2.c hM2.cn) (by repeat (first | exact Pick.nil | apply Pick.keep (by repeat (first | exact List.Mem.head _ | apply List.Mem.tail)) (by first | exact Pers.cells _ _ _ | exact Pers.slv _ _ _) | apply Pick.cons (by repeat (first | exact Pick1.here | apply Pick1.there)))) rfl ?_)
            rintro _ _ ⟨ao2, co2, rfl, hso2, hno2, rfl⟩
            have hzo : EN.others (EN.follow (EN.ask (EN.of me vote role xs [] term base bt es false) real).1 next lead) = EN.others (EN.of me vote role xs [] term base bt es false) := follow_others _ _ _ _
            rw [hzo] at hso2 hno2 ⊢
            refine WPL.putS ?_
            refine L_eyes rfl rfl rfl (C1.call (c_call Try.func15 rfl rfl rfl) (c_Numbers (p := false) (q := false) hso hso2 (by omega)) (by repeat (first | exact Pick.nil | apply Pick.keep (by repeat (first | exact List.Mem.head _ | apply List.Mem.tail)) (by first | exact Pers.cells _ _ _ | exact Pers.slv _ _ _) | apply Pick.cons (by repeat (first | exact Pick1.here | apply Pick1.there)))) rfl ?_)
            rintro _ _ ⟨rfl, rfl⟩
            refine WPL.putS ?_
            first | refine L_s (q_pickT rfl rfl) rfl ?_ | refine L_s (q_pickF rfl rfl) rfl ?_
            refine L_s (q_move rfl) rfl ?_
            refine L_split 92 _ rfl (fun g14_7 => ?_) (fun g14_7 => ?_)
            · skip
              refine L_yes rfl rfl (q_move rfl) rfl ?_
              refine L_yes rfl rfl (q_move rfl) rfl ?_
              refine WPL.imp (Imp.pick (Δ := [buf 10 a1 (EN.ask (EN.of me vote role xs [] term base bt es false) real).2.length c1 ((EN.ask (EN.of me vote role xs [] term base bt es false) real).2.flatMap encM), buf 10 a2 (EN.ask (EN.of me vote role xs [] term base bt es false) real).2.length c2 ((EN.ask (EN.of me vote role xs [] term base bt es false) real).2.flatMap encM)]) (by repeat (first | exact Pick.nil | apply Pick.keep (by repeat (first | exact List.Mem.head _ | apply List.Mem.tail)) (by first | exact Pers.cells _ _ _ | exact Pers.slv _ _ _) | apply Pick.cons (by repeat (first | exact Pick1.here | apply Pick1.there))))) ?_
              refine WPL.bufRo fun hb1 => ?_
              refine WPL.imp (Imp.perm (.swap _ _ _)) ?_
              refine WPL.bufRo fun hb2 => ?_
              refine L_eyes rfl rfl rfl (C1.call (c_call Try.func17 rfl rfl rfl) (c_All (p := false) (q := false) hb1 hb2 hml hmb) (by repeat (first | exact Pick.nil | apply Pick.keep (by repeat (first | exact List.Mem.head _ | apply List.Mem.tail)) (by first | exact Pers.cells _ _ _ | exact Pers.slv _ _ _) | apply Pick.cons (by repeat (first | exact Pick1.here | apply Pick1.there)))) rfl ?_)
              rintro _ _ ⟨rfl, rfl⟩
              refine WPL.putS ?_
              first | refine L_s (q_pickT rfl rfl) rfl ?_ | refine L_s (q_pickF rfl rfl) rfl ?_
              refine L_s (q_move rfl) rfl ?_
              refine L_split 97 _ rfl (fun g14_12 => ?_) (fun g14_12 => ?_)
              · skip
                refine L_yes rfl rfl (q_move rfl) rfl ?_
                first | refine L_s (q_pickT rfl rfl) rfl ?_ | refine L_s (q_pickF rfl rfl) rfl ?_
                refine L_s (q_move rfl) rfl ?_
                refine L_split 100 _ rfl (fun g14_15 => ?_) (fun g14_15 => ?_)
                · skip
                  refine L_yes rfl rfl (q_move rfl) rfl ?_
                  first | refine L_s (q_pickT rfl rfl) rfl ?_ | refine L_s (q_pickF rfl rfl) rfl ?_
                  refine L_s (q_move rfl) rfl ?_
                  refine L_split 103 _ rfl (fun g14_18 => ?_) (fun g14_18 => ?_)
                  · skip
                    refine L_yes rfl rfl (q_move rfl) rfl ?_
                    first | refine L_s (q_pickT rfl rfl) rfl ?_ | refine L_s (q_pickF rfl rfl) rfl ?_
                    refine L_s (q_assign rfl) rfl ?_
                    refine WPL.nil ?_
                    refine WPC.prune [(18, _)] (by repeat (first | exact trivial | refine ⟨rfl, ?_⟩)) ?_
                    refine WPC.ret ?_
                    exact endR_r rfl (.tmp rfl .nil) (Imp.nil _) ⟨rfl, rfl⟩
                  · skip
                    simp at g14_18
                · skip
                  simp at g14_15
              · skip
                simp at g14_12
            · skip
              simp at g14_7
          · skip
            simp at g14_1
        · skip
          simp at g13_2

end Go.Sl
