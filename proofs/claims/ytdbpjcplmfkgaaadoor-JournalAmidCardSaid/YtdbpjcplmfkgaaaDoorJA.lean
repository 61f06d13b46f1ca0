/- Walks: bytes, pack. -/
import Derived.Test.YtdbpjcplmfkgaaaDoorJTy
import Derived.Test.YtdbpjcplmfkgaaaDoorJMem
namespace Go.Sl
open Go Go.RowKit Go.Proofs
set_option linter.unusedSimpArgs false
set_option linter.unusedVariables false
attribute [local irreducible] faB szB ldB zB zL slB mkB arB plB intB cells objc star stars buf slv grp whole Sat WPC WPL WPA WPO Trip

theorem c_CloneB {p : Bool} {a : Option Addr} {n c : Nat} {xs : List By} (hs : Sok 1 a n c (xs.map u8)) (hn : n < 1000000) : Trip Tryd.prog 33 #[.slice a n c] [sl p a (xs.map u8)] fun r Δ => ∃ a' c', r = .slice a' n c' ∧ Δ = [buf 1 a' n c' (xs.map u8), sl p a (xs.map u8)] := by
  refine Trip.start 8 [.tmp 2] [(0, .slice a n c)] Tryd.func33 rfl Tryd.ntmps33 rfl ⟨rfl, trivial⟩ rfl ?_
  refine WPC.seqR ?_
  refine L_s (q_assign rfl) rfl ?_
  refine WPL.nil ?_
  refine WPC.seq ?_
  refine WPC.seqR ?_
  refine L_s (q_move rfl) rfl ?_
  refine L_s (q_slNilEq un_sl_uint8 rfl rfl) rfl ?_
  refine WPL.nil ?_
  refine WPC.cond rfl (fun h0 => ?_) (fun h0 => ?_)
  · simp only [Option.isNone_iff_eq_none] at h0
    have h1 := hs.none0 (by omega) h0
    subst h0 h1
    have h2 : xs = [] := by have := hs.len; simpa using this
    subst h2
    refine WPC.seqR ?_
    refine L_s (q_assign rfl) rfl ?_
    refine WPL.nil ?_
    refine WPC.ret ?_
    refine thenQ_r ?_
    exact endR_r rfl (.tmp rfl .nil) (Imp.bufNil.trans (Imp.pick (by repeat (first | exact Pick.nil | apply Pick.keep (by repeat (first | exact List.Mem.head _ | apply List.Mem.tail)) (by first | exact Pers.cells _ _ _ | exact Pers.slv _ _ _ | exact Pers.bytes _) | apply Pick.cons (by repeat (first | exact Pick1.here | apply Pick1.there)))))) ⟨none, 0, rfl, rfl⟩
  · skip
    refine WPC.skip ?_
    refine thenQ_n ?_
    refine WPC.seqR ?_
    refine WPL.cons rfl (E1.wpo (e_buildSlice mk_sl_uint8 (by decide) rfl rfl rfl) rfl ?_)
    rintro _ _ ⟨b1, rfl, rfl⟩
    refine WPL.putS ?_
    refine L_s (q_move rfl) rfl ?_
    refine WPL.imp (Imp.bufNew (sz := 1) (n := 0) (cs := []) rfl) ?_
    refine WPL.cons rfl (E1.wpo (e_append (n := 0) (cs := []) mk_sl_uint8 (by decide) rfl rfl (Pick1.here (c := buf 1 (some ⟨b1, 0, none⟩) 0 0 [])) (Rd.mem hs (hs.none0 (by omega)) (p := p) (by repeat (first | exact List.Mem.head _ | apply List.Mem.tail))) (u8_one xs) (by omega) (by omega)) rfl ?_)
    rintro _ _ ⟨a', c', rfl, -, rfl⟩
    simp only [Nat.zero_add, List.nil_append]
    refine WPL.putS ?_
    refine L_s (q_assign rfl) rfl ?_
    refine WPL.nil ?_
    refine WPC.ret ?_
    exact endR_r rfl (.tmp rfl .nil) (Imp.pick (by repeat (first | exact Pick.nil | apply Pick.keep (by repeat (first | exact List.Mem.head _ | apply List.Mem.tail)) (by first | exact Pers.cells _ _ _ | exact Pers.slv _ _ _ | exact Pers.bytes _) | apply Pick.cons (by repeat (first | exact Pick1.here | apply Pick1.there))))) ⟨a', c', rfl, rfl⟩

theorem c_WNumber {b o v k : Nat} {xs : List By} (hk : 1 ≤ k ∧ k ≤ 8) (hx : xs.length ≤ 1000) : Trip Tryd.prog 58 #[.pointer (some ⟨b, o, none⟩), .int .u64 (v : Int), .int .i64 (k : Int)] [wr b o xs] fun r Δ => r = .tuple #[] ∧ Δ = [wr b o (xs ++ le v k)] := by
  refine wr_open fun a c hs => ?_
  refine Trip.start 32 [] [(0, .pointer (some ⟨b, o, none⟩)), (1, .int .u64 (v : Int)), (2, .int .i64 (k : Int))] Tryd.func58 rfl Tryd.ntmps58 rfl ⟨rfl, rfl, rfl, trivial⟩ rfl ?_
  refine WPC.seq ?_
  refine WPC.seqR ?_
  refine L_s (q_move rfl) rfl ?_
  refine L_s (q_int rfl rfl rfl) rfl ?_
  refine L_s (q_move rfl) rfl ?_
  apply WPL.joinO (e' := [(0, _), (1, _), (2, _)]) 9 12 3 rfl
  · intro g0_2
    try simp only [decide_eq_true_eq, decide_eq_false_iff_not, beq_iff_eq, bne_iff_ne, beq_eq_false_iff_ne, bne_eq_false_iff_eq, Bool.not_eq_true', Bool.not_eq_false', Bool.not_eq_eq_eq_not, Bool.not_true, Bool.not_false, ne_eq, Decidable.not_not, Int.not_lt, Int.not_le, gt_iff_lt, ge_iff_le] at g0_2
    refine L_no rfl rfl rfl rfl ?_
    refine L_no rfl rfl rfl rfl ?_
    first | refine L_s (q_pickT rfl rfl) rfl ?_ | refine L_s (q_pickF rfl rfl) rfl ?_
    first | exact WPL.jn rfl rfl (by repeat (first | exact trivial | refine ⟨rfl, ?_⟩)) | exact WPL.jnI rfl rfl (by repeat (first | exact trivial | refine ⟨rfl, ?_⟩)) (Imp.pick (by repeat (first | exact Pick.nil | apply Pick.keep (by repeat (first | exact List.Mem.head _ | apply List.Mem.tail)) (by first | exact Pers.cells _ _ _ | exact Pers.slv _ _ _) | apply Pick.cons (by repeat (first | exact Pick1.here | apply Pick1.there)))))
  · intro g0_2
    try simp only [decide_eq_true_eq, decide_eq_false_iff_not, beq_iff_eq, bne_iff_ne, beq_eq_false_iff_ne, bne_eq_false_iff_eq, Bool.not_eq_true', Bool.not_eq_false', Bool.not_eq_eq_eq_not, Bool.not_true, Bool.not_false, ne_eq, Decidable.not_not, Int.not_lt, Int.not_le, gt_iff_lt, ge_iff_le] at g0_2
    refine L_yes rfl rfl (q_move rfl) rfl ?_
    refine L_yes rfl rfl (q_int rfl rfl rfl) rfl ?_
    first | refine L_s (q_pickT rfl rfl) rfl ?_ | refine L_s (q_pickF rfl rfl) rfl ?_
    first | exact WPL.jn rfl rfl (by repeat (first | exact trivial | refine ⟨rfl, ?_⟩)) | exact WPL.jnI rfl rfl (by repeat (first | exact trivial | refine ⟨rfl, ?_⟩)) (Imp.pick (by repeat (first | exact Pick.nil | apply Pick.keep (by repeat (first | exact List.Mem.head _ | apply List.Mem.tail)) (by first | exact Pers.cells _ _ _ | exact Pers.slv _ _ _) | apply Pick.cons (by repeat (first | exact Pick1.here | apply Pick1.there)))))
  refine WPL.nil ?_
  refine WPC.cond rfl (fun h0 => ?_) (fun h0 => ?_)
  · try simp only [decide_eq_true_eq, decide_eq_false_iff_not, beq_iff_eq, bne_iff_ne, beq_eq_false_iff_ne, bne_eq_false_iff_eq, Bool.not_eq_true', Bool.not_eq_false', Bool.not_eq_eq_eq_not, Bool.not_true, Bool.not_false, ne_eq, Decidable.not_not, Int.not_lt, Int.not_le, gt_iff_lt, ge_iff_le] at h0
    simp only [Bool.or_eq_true, decide_eq_true_eq] at h0
    omega
  · skip
    refine WPC.skip ?_
    refine thenQ_n ?_
    refine WPC.seqR ?_
    refine L_s (q_move rfl) rfl ?_
    refine L_s (q_move rfl) rfl ?_
    refine WPL.nil ?_
    rw [show xs.map u8 = (xs ++ le v 0).map u8 by simp [le]]
    refine WPC.block ?_
    refine WPC.loopS (fun m e Γ => ∃ (i : Nat) (a2 : Option Addr) (c2 : Nat), m = k - i ∧ i ≤ k ∧ e = [(0, .pointer (some ⟨b, o, none⟩)), (1, .int .u64 (v : Int)), (13, .int .i64 (k : Int)), (14, .int .i64 (i : Int))] ∧ Γ = [cells true b o [.slice a2 (xs.length + i) c2], buf 1 a2 (xs.length + i) c2 ((xs ++ le v i).map u8)]) (k) ⟨0, a, c, rfl, by omega, rfl, rfl⟩ (by repeat (first | exact trivial | refine ⟨rfl, ?_⟩)) (Imp.pick (by repeat (first | exact Pick.nil | apply Pick.keep (by repeat (first | exact List.Mem.head _ | apply List.Mem.tail)) (by first | exact Pers.cells _ _ _ | exact Pers.slv _ _ _) | apply Pick.cons (by repeat (first | exact Pick1.here | apply Pick1.there))))) ?_
    rintro m e Γ ⟨i, a2, c2, rfl, hi, rfl, rfl⟩
    refine WPC.seqR ?_
    refine L_s (q_int rfl rfl rfl) rfl ?_
    refine WPL.nil ?_
    refine WPC.seq ?_
    refine WPC.cond rfl (fun h1 => ?_) (fun h1 => ?_)
    · simp only [decide_eq_true_eq, Int.ofNat_lt] at h1
      have hi' : i < k := by omega
      refine WPC.skip ?_
      refine thenQ_n ?_
      refine WPC.seq ?_
      refine WPC.block ?_
      refine WPC.seqR ?_
      refine L_s (q_move rfl) rfl ?_
      refine L_s (q_assign rfl) rfl ?_
      refine WPL.nil ?_
      refine WPC.draw mixed ?_
      refine WPA.takeP 0 rfl (q_move rfl) (by kernel_rfl) (by kernel_rfl) (by kernel_rfl) rfl rfl (.nil _) ?_
      refine WPA.putS ?_
      refine WPA.takeP 1 rfl (q_move rfl) (by kernel_rfl) (by kernel_rfl) (by kernel_rfl) rfl rfl (.nil _) ?_
      refine WPA.putS ?_
      first | refine WPA.takeP 2 rfl (q_nilP rfl) (by kernel_rfl) (by kernel_rfl) (by kernel_rfl) rfl rfl (.nil _) ?_ | refine WPA.takeP 2 rfl (q_nilF rfl) (by kernel_rfl) (by kernel_rfl) (by kernel_rfl) rfl rfl (.nil _) ?_
      refine WPA.putS ?_
      first | refine WPA.takeP 3 rfl (q_faK fa_pack_Writer_b rfl) (by kernel_rfl) (by kernel_rfl) (by kernel_rfl) rfl rfl (.nil _) ?_ | refine WPA.takeP 3 rfl (q_fa fa_pack_Writer_b rfl) (by kernel_rfl) (by kernel_rfl) (by kernel_rfl) rfl rfl (.nil _) ?_
      refine WPA.putS ?_
      first | refine WPA.takeL 4 rfl (Ent.mem (by repeat (first | exact List.Mem.head _ | apply List.Mem.tail))) (q_load1z ld_sl_uint8 rfl (.head _) (by rfl)) (by kernel_rfl) (by kernel_rfl) (by kernel_rfl) rfl rfl (.nil _) ?_ | refine WPA.takeL 4 rfl (Ent.mem (by repeat (first | exact List.Mem.head _ | apply List.Mem.tail))) (q_load1 ld_sl_uint8 rfl (.head _) rfl (by rfl)) (by kernel_rfl) (by kernel_rfl) (by kernel_rfl) rfl rfl (.nil _) ?_
      refine WPA.putS ?_
      refine WPA.takeP 5 rfl (q_move rfl) (by kernel_rfl) (by kernel_rfl) (by kernel_rfl) rfl rfl (.cons (Ent.mem (by repeat (first | exact List.Mem.head _ | apply List.Mem.tail))) (.nil _)) ?_
      refine WPA.putS ?_
      refine WPA.takeP 6 rfl (q_move rfl) (by kernel_rfl) (by kernel_rfl) (by kernel_rfl) rfl rfl (.cons (Ent.mem (by repeat (first | exact List.Mem.head _ | apply List.Mem.tail))) (.nil _)) ?_
      refine WPA.putS ?_
      refine WPA.takeP 7 rfl (q_mulN (a := 8) (b := i) rfl rfl (by omega)) (by kernel_rfl) (by kernel_rfl) (by kernel_rfl) rfl rfl (.cons (Ent.mem (by repeat (first | exact List.Mem.head _ | apply List.Mem.tail))) (.nil _)) ?_
      refine WPA.putS ?_
      refine WPA.takeP 8 rfl (q_shrN (a := v) (b := 8 * i) rfl rfl (show 8 * i < 64 by omega)) (by kernel_rfl) (by kernel_rfl) (by kernel_rfl) rfl rfl (.cons (Ent.mem (by repeat (first | exact List.Mem.head _ | apply List.Mem.tail))) (.nil _)) ?_
      refine WPA.putS ?_
      refine WPA.takeP 9 rfl (q_conv8 in_uint64 in_uint8 rfl) (by kernel_rfl) (by kernel_rfl) (by kernel_rfl) rfl rfl (.cons (Ent.mem (by repeat (first | exact List.Mem.head _ | apply List.Mem.tail))) (.nil _)) ?_
      refine WPA.putS ?_
      refine WPA.oneE 10 [(4, [_])] (by kernel_rfl) rfl rfl (by repeat (first | exact .nil | refine .anc rfl ?_ | refine .keep (by repeat (first | exact List.Mem.head _ | apply List.Mem.tail)) ?_)) (E1.wpo (e_buildSlice mk_sl_uint8 (by decide) rfl rfl rfl) rfl ?_)
      rintro _ _ ⟨bE, rfl, rfl⟩
      refine ⟨(.cons (Ent.mem (by repeat (first | exact List.Mem.head _ | apply List.Mem.tail))) (.nil _)), ?_⟩
      refine WPA.putS ?_
      refine WPA.oneE 11 [] (by kernel_rfl) rfl rfl (by repeat (first | exact .nil | refine .anc rfl ?_ | refine .keep (by repeat (first | exact List.Mem.head _ | apply List.Mem.tail)) ?_)) (E1.wpo (e_append (m := 1) (news := [by_ (v / 2 ^ (8 * i))].map u8) mk_sl_uint8 (by decide) rfl rfl (by repeat (first | exact Pick1.here | apply Pick1.there)) (Rd.part (i := 0) (b := bE) (o := 0) (vs := [by_ (v / 2 ^ (8 * i))].map u8) (by repeat (first | exact List.Mem.head _ | apply List.Mem.tail)) rfl rfl rfl) (u8_one _) (by omega) (by omega)) rfl ?_)
      rintro _ _ ⟨a3, c3, rfl, -, rfl⟩
      refine ⟨(.nil _), ?_⟩
      refine WPA.putS ?_
      first | refine WPA.takeP 12 rfl (q_nilP rfl) (by kernel_rfl) (by kernel_rfl) (by kernel_rfl) rfl rfl (.nil _) ?_ | refine WPA.takeP 12 rfl (q_nilF rfl) (by kernel_rfl) (by kernel_rfl) (by kernel_rfl) rfl rfl (.nil _) ?_
      refine WPA.putS ?_
      first | refine WPA.takeP 13 rfl (q_faK fa_pack_Writer_b rfl) (by kernel_rfl) (by kernel_rfl) (by kernel_rfl) rfl rfl (.nil _) ?_ | refine WPA.takeP 13 rfl (q_fa fa_pack_Writer_b rfl) (by kernel_rfl) (by kernel_rfl) (by kernel_rfl) rfl rfl (.nil _) ?_
      refine WPA.putS ?_
      refine WPA.oneE 14 [] (by kernel_rfl) rfl rfl (by repeat (first | exact .nil | refine .anc rfl ?_ | refine .keep (by repeat (first | exact List.Mem.head _ | apply List.Mem.tail)) ?_)) (S1.wpo (s_store1z sz_sl_uint8 rfl rfl rfl rfl (by repeat (first | exact Upd.here | apply Upd.there)) (by repeat constructor)) rfl ?_)
      refine ⟨(.nil _), ?_⟩
      refine WPA.putN ?_
      refine WPA.done (by kernel_rfl) ?_
      refine blockQ_n ?_
      refine thenQ_n ?_
      refine WPC.region ?_
      first | refine L_s (q_inc rfl rfl (by omega)) rfl ?_ | refine L_s (q_addI rfl rfl (by omega)) rfl ?_ | refine L_s (q_int rfl rfl rfl) rfl ?_
      refine L_s (q_move rfl) rfl ?_
      refine WPL.nil ?_
      refine thenQ_n ?_
      exact ⟨rfl, _, _, _, by omega, ⟨i + 1, a3, c3, rfl, by omega, rfl, by rw [le_succ, ← List.append_assoc, List.map_append (l₁ := xs ++ le v i)]⟩, (by repeat (first | exact trivial | refine ⟨rfl, ?_⟩)), Imp.pick (by repeat (first | exact Pick.nil | apply Pick.keep (by repeat (first | exact List.Mem.head _ | apply List.Mem.tail)) (by first | exact Pers.cells _ _ _ | exact Pers.slv _ _ _) | apply Pick.cons (by repeat (first | exact Pick1.here | apply Pick1.there))))⟩
    · simp only [decide_eq_false_iff_not] at h1
      have hi' : i = k := by omega
      subst hi'
      refine WPC.exit ?_
      refine thenQ_e ?_
      refine thenQ_e ?_
      refine blockQ_here ?_
      exact endR_n rfl .nil ((Imp.pick (by repeat (first | exact Pick.nil | apply Pick.keep (by repeat (first | exact List.Mem.head _ | apply List.Mem.tail)) (by first | exact Pers.cells _ _ _ | exact Pers.slv _ _ _ | exact Pers.bytes _) | apply Pick.cons (by repeat (first | exact Pick1.here | apply Pick1.there))))).trans (wr_close a2 (xs.length + i) c2 (Γ := []))) ⟨rfl, rfl⟩

theorem c_WOut {b o : Nat} {xs : List By} (hx : xs.length ≤ 1000) : Trip Tryd.prog 60 #[.pointer (some ⟨b, o, none⟩)] [wr b o xs] fun r Δ => ∃ a c, r = .slice a xs.length c ∧ Sok 1 a xs.length c (xs.map u8) ∧ Δ = [sl false a (xs.map u8), wr b o xs] := by
  refine wr_open fun a c hs => ?_
  refine Trip.start 8 [.tmp 2] [(0, .pointer (some ⟨b, o, none⟩))] Tryd.func60 rfl Tryd.ntmps60 rfl ⟨rfl, trivial⟩ rfl ?_
  refine WPC.seqR ?_
  refine L_s (q_assign rfl) rfl ?_
  refine WPL.nil ?_
  refine WPC.seqR ?_
  refine L_s (q_move rfl) rfl ?_
  first | refine L_s (q_nilP rfl) rfl ?_ | refine L_s (q_nilF rfl) rfl ?_
  first | refine L_s (q_faK fa_pack_Writer_b rfl) rfl ?_ | refine L_s (q_fa fa_pack_Writer_b rfl) rfl ?_
  first | refine L_s (q_load1z ld_sl_uint8 rfl (by repeat (first | exact List.Mem.head _ | apply List.Mem.tail)) (by rfl)) rfl ?_ | refine L_s (q_load1 ld_sl_uint8 rfl (by repeat (first | exact List.Mem.head _ | apply List.Mem.tail)) rfl (by rfl)) rfl ?_
  refine WPL.imp (Imp.perm (.swap _ _ _)) ?_
  refine WPL.bufOpen fun sp hs hsp => ?_
  refine WPL.cons rfl (C1.call (c_call Tryd.func33 rfl rfl rfl) (c_CloneB (p := true) hs (by omega)) (by repeat (first | exact Pick.nil | apply Pick.keep (by repeat (first | exact List.Mem.head _ | apply List.Mem.tail)) (by first | exact Pers.cells _ _ _ | exact Pers.slv _ _ _) | apply Pick.cons (by repeat (first | exact Pick1.here | apply Pick1.there)))) rfl ?_)
  rintro _ _ ⟨a', c', rfl, rfl⟩
  refine WPL.bufRo fun hs' => ?_
  refine WPL.putS ?_
  refine L_s (q_assign rfl) rfl ?_
  refine WPL.nil ?_
  refine WPC.ret ?_
  exact endR_r rfl (.tmp rfl .nil) ((Imp.pick (Δ := [sl true a (xs.map u8), cells true (blk a) (off a + (xs.map u8).length) sp, cells true b o [.slice a xs.length c], sl false a' (xs.map u8)]) (by repeat (first | exact Pick.nil | apply Pick.keep (by repeat (first | exact List.Mem.head _ | apply List.Mem.tail)) (by first | exact Pers.cells _ _ _ | exact Pers.slv _ _ _ | exact Pers.bytes _) | apply Pick.cons (by repeat (first | exact Pick1.here | apply Pick1.there))))).trans ((Imp.bufClose hs hsp).trans ((Imp.perm (.swap _ _ _)).trans ((wr_close a xs.length c).trans (Imp.perm (.swap _ _ _)))))) ⟨a', c', rfl, hs', rfl⟩

theorem c_Read {a : Option Addr} {n c : Nat} {xs : List By} (hs : Sok 1 a n c (xs.map u8)) : Trip Tryd.prog 65 #[.slice a n c] [sl false a (xs.map u8)] fun r Δ => ∃ b, r = .pointer (some ⟨b, 0, none⟩) ∧ Δ = [rd b 0 xs false] := by
  refine Trip.start 6 [.tmp 2] [(0, .slice a n c)] Tryd.func65 rfl Tryd.ntmps65 rfl ⟨rfl, trivial⟩ rfl ?_
  refine WPC.seqR ?_
  refine L_s (q_assign rfl) rfl ?_
  refine WPL.nil ?_
  refine WPC.seqR ?_
  refine L_s (q_move rfl) rfl ?_
  refine L_s (q_build (cs := [_, _]) pl_pack_Reader rfl rfl) rfl ?_
  first | refine WPL.cons rfl (E1.wpo (e_boxN rfl) rfl ?_) | refine WPL.cons rfl (E1.wpo (e_box1 rfl rfl) rfl ?_)
  rintro _ _ ⟨b1, rfl, rfl⟩
  refine WPL.putS ?_
  refine L_s (q_assign rfl) rfl ?_
  refine WPL.nil ?_
  refine WPC.ret ?_
  exact endR_r rfl (.tmp rfl .nil) ((Imp.pick (by repeat (first | exact Pick.nil | apply Pick.keep (by repeat (first | exact List.Mem.head _ | apply List.Mem.tail)) (by first | exact Pers.cells _ _ _ | exact Pers.slv _ _ _ | exact Pers.bytes _) | apply Pick.cons (by repeat (first | exact Pick1.here | apply Pick1.there))))).trans (rd_close (b := b1) (o := 0) (sh := false) a n c hs (Γ := []))) ⟨b1, rfl, rfl⟩

theorem c_take {b o k : Nat} {xs : List By} {sh : Bool} (hk : k < 1000000) (hx : xs.length < 1000000) : Trip Tryd.prog 76 #[.pointer (some ⟨b, o, none⟩), .int .i64 (k : Int)] [rd b o xs sh] fun r Δ => ∃ a c, r = .slice a (rtake xs sh k).1.length c ∧ Sok 1 a (rtake xs sh k).1.length c ((rtake xs sh k).1.map u8) ∧ Δ = [rd b o (rtake xs sh k).2.1 (rtake xs sh k).2.2, sl false a ((rtake xs sh k).1.map u8)] := by
  refine rd_open fun a c hs => ?_
  have hcap := hs.cap
  refine Trip.start 45 [.tmp 4] [(0, .pointer (some ⟨b, o, none⟩)), (1, .int .i64 (k : Int))] Tryd.func76 rfl Tryd.ntmps76 rfl ⟨rfl, rfl, trivial⟩ rfl ?_
  refine WPC.seqR ?_
  refine L_s (q_assign rfl) rfl ?_
  refine WPL.nil ?_
  refine WPC.seqR ?_
  refine L_s (q_move rfl) rfl ?_
  refine L_s (q_move rfl) rfl ?_
  first | refine L_s (q_nilP rfl) rfl ?_ | refine L_s (q_nilF rfl) rfl ?_
  first | refine L_s (q_faK fa_pack_Reader_shut rfl) rfl ?_ | refine L_s (q_fa fa_pack_Reader_shut rfl) rfl ?_
  first | refine L_s (q_load1z ld_bool rfl (by repeat (first | exact List.Mem.head _ | apply List.Mem.tail)) (by rfl)) rfl ?_ | refine L_s (q_load1 ld_bool rfl (by repeat (first | exact List.Mem.head _ | apply List.Mem.tail)) rfl (by rfl)) rfl ?_
  refine L_s (q_move rfl) rfl ?_
  apply WPL.joinO (e' := [(0, _), (1, _), (4, _), (6, _)]) 11 19 8 rfl
  · intro g1_5
    try simp only [decide_eq_true_eq, decide_eq_false_iff_not, beq_iff_eq, bne_iff_ne, beq_eq_false_iff_ne, bne_eq_false_iff_eq, Bool.not_eq_true', Bool.not_eq_false', Bool.not_eq_eq_eq_not, Bool.not_true, Bool.not_false, ne_eq, Decidable.not_not, Int.not_lt, Int.not_le, gt_iff_lt, ge_iff_le] at g1_5
    refine L_no rfl rfl rfl rfl ?_
    refine L_no rfl rfl rfl rfl ?_
    refine L_no rfl rfl rfl rfl ?_
    refine L_no rfl rfl rfl rfl ?_
    refine L_no rfl rfl rfl rfl ?_
    refine L_no rfl rfl rfl rfl ?_
    refine L_no rfl rfl rfl rfl ?_
    first | refine L_s (q_pickT rfl rfl) rfl ?_ | refine L_s (q_pickF rfl rfl) rfl ?_
    first | exact WPL.jn rfl rfl (by repeat (first | exact trivial | refine ⟨rfl, ?_⟩)) | exact WPL.jnI rfl rfl (by repeat (first | exact trivial | refine ⟨rfl, ?_⟩)) (Imp.pick (by repeat (first | exact Pick.nil | apply Pick.keep (by repeat (first | exact List.Mem.head _ | apply List.Mem.tail)) (by first | exact Pers.cells _ _ _ | exact Pers.slv _ _ _) | apply Pick.cons (by repeat (first | exact Pick1.here | apply Pick1.there)))))
  · intro g1_5
    try simp only [decide_eq_true_eq, decide_eq_false_iff_not, beq_iff_eq, bne_iff_ne, beq_eq_false_iff_ne, bne_eq_false_iff_eq, Bool.not_eq_true', Bool.not_eq_false', Bool.not_eq_eq_eq_not, Bool.not_true, Bool.not_false, ne_eq, Decidable.not_not, Int.not_lt, Int.not_le, gt_iff_lt, ge_iff_le] at g1_5
    refine L_yes rfl rfl (q_move rfl) rfl ?_
    refine L_yes rfl rfl (q_move rfl) rfl ?_
    first | refine L_yes rfl rfl (q_nilP rfl) rfl ?_ | refine L_yes rfl rfl (q_nilF rfl) rfl ?_
    first | refine L_yes rfl rfl (q_faK fa_pack_Reader_b rfl) rfl ?_ | refine L_yes rfl rfl (q_fa fa_pack_Reader_b rfl) rfl ?_
    first | refine L_yes rfl rfl (q_load1z ld_sl_uint8 rfl (by repeat (first | exact List.Mem.head _ | apply List.Mem.tail)) (by rfl)) rfl ?_ | refine L_yes rfl rfl (q_load1 ld_sl_uint8 rfl (by repeat (first | exact List.Mem.head _ | apply List.Mem.tail)) rfl (by rfl)) rfl ?_
    refine L_yes rfl rfl (q_len rfl un_sl_uint8 rfl) rfl ?_
    refine L_yes rfl rfl (q_int rfl rfl rfl) rfl ?_
    first | refine L_s (q_pickT rfl rfl) rfl ?_ | refine L_s (q_pickF rfl rfl) rfl ?_
    first | exact WPL.jn rfl rfl (by repeat (first | exact trivial | refine ⟨rfl, ?_⟩)) | exact WPL.jnI rfl rfl (by repeat (first | exact trivial | refine ⟨rfl, ?_⟩)) (Imp.pick (by repeat (first | exact Pick.nil | apply Pick.keep (by repeat (first | exact List.Mem.head _ | apply List.Mem.tail)) (by first | exact Pers.cells _ _ _ | exact Pers.slv _ _ _) | apply Pick.cons (by repeat (first | exact Pick1.here | apply Pick1.there)))))
  first | refine L_s (q_nilP rfl) rfl ?_ | refine L_s (q_nilF rfl) rfl ?_
  first | refine L_s (q_faK fa_pack_Reader_shut rfl) rfl ?_ | refine L_s (q_fa fa_pack_Reader_shut rfl) rfl ?_
  refine WPL.cons rfl (S1.wpo (s_store1k sz_bool rfl rfl rfl rfl (by repeat (first | exact Upd.here | apply Upd.there)) (by repeat constructor)) rfl ?_)
  refine WPL.putN ?_
  refine WPL.nil ?_
  refine WPC.seq ?_
  refine WPC.seqR ?_
  refine L_s (q_move rfl) rfl ?_
  first | refine L_s (q_nilP rfl) rfl ?_ | refine L_s (q_nilF rfl) rfl ?_
  first | refine L_s (q_faK fa_pack_Reader_shut rfl) rfl ?_ | refine L_s (q_fa fa_pack_Reader_shut rfl) rfl ?_
  first | refine L_s (q_load1z ld_bool rfl (by repeat (first | exact List.Mem.head _ | apply List.Mem.tail)) (by rfl)) rfl ?_ | refine L_s (q_load1 ld_bool rfl (by repeat (first | exact List.Mem.head _ | apply List.Mem.tail)) rfl (by rfl)) rfl ?_
  refine WPL.nil ?_
  refine WPC.cond rfl (fun h0 => ?_) (fun h0 => ?_)
  · rw [h0]
    have e1 : rtake xs sh k = ([], [], true) := by unfold rtake; rw [if_pos (by simpa using h0)]
    rw [e1]
    refine WPC.seqR ?_
    refine L_s (q_move rfl) rfl ?_
    first | refine L_s (q_nilP rfl) rfl ?_ | refine L_s (q_nilF rfl) rfl ?_
    first | refine L_s (q_faK fa_pack_Reader_b rfl) rfl ?_ | refine L_s (q_fa fa_pack_Reader_b rfl) rfl ?_
    refine WPL.cons rfl (S1.wpo (s_store1z sz_sl_uint8 rfl rfl rfl rfl (by repeat (first | exact Upd.here | apply Upd.there)) (by repeat constructor)) rfl ?_)
    refine WPL.putN ?_
    refine WPL.nil ?_
    refine WPC.seqR ?_
    refine L_s (q_assign rfl) rfl ?_
    refine WPL.nil ?_
    refine WPC.ret ?_
    refine thenQ_r ?_
    exact endR_r rfl (.tmp rfl .nil) ((Imp.slEmpty (p := false) (a := none)).trans ((Imp.slEmpty (p := false) (a := none)).trans ((Imp.pick (by repeat (first | exact Pick.nil | apply Pick.keep (by repeat (first | exact List.Mem.head _ | apply List.Mem.tail)) (by first | exact Pers.cells _ _ _ | exact Pers.slv _ _ _ | exact Pers.bytes _) | apply Pick.cons (by repeat (first | exact Pick1.here | apply Pick1.there))))).trans (rd_close (xs := []) (b := b) (o := o) (sh := true) none 0 0 ⟨rfl, Nat.le_refl _, .inl rfl⟩ (Γ := [sl false none []]))))) ⟨none, 0, rfl, ⟨rfl, Nat.le_refl _, .inl rfl⟩, rfl⟩
  · rw [h0]
    have e1 : rtake xs sh k = (xs.take k, xs.drop k, false) := by unfold rtake; rw [if_neg (by simp at h0 ⊢; exact h0)]
    have e2 : sh = false ∧ k ≤ xs.length := by simp at h0; exact ⟨h0.1, by omega⟩
    obtain ⟨rfl, hkl⟩ := e2
    rw [e1]
    refine WPC.skip ?_
    refine thenQ_n ?_
    refine WPC.seqR ?_
    refine L_s (q_move rfl) rfl ?_
    first | refine L_s (q_nilP rfl) rfl ?_ | refine L_s (q_nilF rfl) rfl ?_
    first | refine L_s (q_faK fa_pack_Reader_b rfl) rfl ?_ | refine L_s (q_fa fa_pack_Reader_b rfl) rfl ?_
    first | refine L_s (q_load1z ld_sl_uint8 rfl (by repeat (first | exact List.Mem.head _ | apply List.Mem.tail)) (by rfl)) rfl ?_ | refine L_s (q_load1 ld_sl_uint8 rfl (by repeat (first | exact List.Mem.head _ | apply List.Mem.tail)) rfl (by rfl)) rfl ?_
    refine L_s (q_move rfl) rfl ?_
    refine L_s (q_sliceHi sl_sl_uint8 rfl rfl (by omega)) rfl ?_
    refine L_s (q_assign rfl) rfl ?_
    refine WPL.nil ?_
    refine WPC.seqR ?_
    refine L_s (q_move rfl) rfl ?_
    refine L_s (q_move rfl) rfl ?_
    first | refine L_s (q_nilP rfl) rfl ?_ | refine L_s (q_nilF rfl) rfl ?_
    first | refine L_s (q_faK fa_pack_Reader_b rfl) rfl ?_ | refine L_s (q_fa fa_pack_Reader_b rfl) rfl ?_
    first | refine L_s (q_load1z ld_sl_uint8 rfl (by repeat (first | exact List.Mem.head _ | apply List.Mem.tail)) (by rfl)) rfl ?_ | refine L_s (q_load1 ld_sl_uint8 rfl (by repeat (first | exact List.Mem.head _ | apply List.Mem.tail)) rfl (by rfl)) rfl ?_
    refine L_s (q_move rfl) rfl ?_
    refine L_s (q_sliceLoC sl_sl_uint8 rfl rfl (by omega) (by omega)) rfl ?_
    first | refine L_s (q_nilP rfl) rfl ?_ | refine L_s (q_nilF rfl) rfl ?_
    first | refine L_s (q_faK fa_pack_Reader_b rfl) rfl ?_ | refine L_s (q_fa fa_pack_Reader_b rfl) rfl ?_
    refine WPL.cons rfl (S1.wpo (s_store1z sz_sl_uint8 rfl rfl rfl rfl (by repeat (first | exact Upd.here | apply Upd.there)) (by repeat constructor)) rfl ?_)
    refine WPL.putN ?_
    refine WPL.nil ?_
    refine WPC.prune [(4, _), (5, _)] (by repeat (first | exact trivial | refine ⟨rfl, ?_⟩)) ?_
    refine WPC.seqR ?_
    refine L_s (q_move rfl) rfl ?_
    refine L_s (q_assign rfl) rfl ?_
    refine WPL.nil ?_
    refine WPC.ret ?_
    have s1 := hs.cutB (l := 0) (k := k) (m := c) (by omega) hkl (by omega)
    have s2 := hs.cutB (l := k) (k := xs.length) (m := c) hkl (by omega) (by omega)
    simp only [List.drop_zero, Nat.sub_zero, Nat.zero_mul, cut_zero] at s1
    rw [List.take_of_length_le (i := xs.length - k) (by simp)] at s2
    have i1 := Imp.cutRo hs (l := 0) (k := k) (m := c) (Γ := [cells true b o [.slice (cut a c k (k * 1)) (xs.length - k) (c - k), .bool false]]) (by omega) hkl (by omega)
    simp only [List.drop_zero, Nat.sub_zero, Nat.zero_mul, cut_zero] at i1
    have i2 := Imp.cutRo hs (l := k) (k := xs.length) (m := c) (Γ := [cells true b o [.slice (cut a c k (k * 1)) (xs.length - k) (c - k), .bool false], sl false a ((xs.take k).map u8)]) hkl (by omega) (by omega)
    rw [List.take_of_length_le (i := xs.length - k) (by simp)] at i2
    exact endR_r rfl (.tmp rfl .nil) ((Imp.pick (by repeat (first | exact Pick.nil | apply Pick.keep (by repeat (first | exact List.Mem.head _ | apply List.Mem.tail)) (by first | exact Pers.cells _ _ _ | exact Pers.slv _ _ _ | exact Pers.bytes _) | apply Pick.cons (by repeat (first | exact Pick1.here | apply Pick1.there))))).trans (i1.trans ((Imp.pick (by repeat (first | exact Pick.nil | apply Pick.keep (by repeat (first | exact List.Mem.head _ | apply List.Mem.tail)) (by first | exact Pers.cells _ _ _ | exact Pers.slv _ _ _ | exact Pers.bytes _) | apply Pick.cons (by repeat (first | exact Pick1.here | apply Pick1.there))))).trans (i2.trans ((Imp.pick (by repeat (first | exact Pick.nil | apply Pick.keep (by repeat (first | exact List.Mem.head _ | apply List.Mem.tail)) (by first | exact Pers.cells _ _ _ | exact Pers.slv _ _ _ | exact Pers.bytes _) | apply Pick.cons (by repeat (first | exact Pick1.here | apply Pick1.there))))).trans (rd_close (xs := xs.drop k) (b := b) (o := o) (sh := false) (cut a c k (k * 1)) (xs.length - k) (c - k) s2 (Γ := [sl false a ((xs.take k).map u8)]))))))) ⟨a, c, by simp only [packV]; rw [show (xs.take k).length = k by simp; omega], by rw [show (xs.take k).length = k by simp; omega]; exact s1, rfl⟩

end Go.Sl
