/- Walks: journals. -/
import Derived.Test.YtdbpjcplmfkgaaaDoorJH
namespace Go.Sl
open Go Go.RowKit Go.Proofs
set_option linter.unusedSimpArgs false
set_option linter.unusedVariables false
attribute [local irreducible] faB szB ldB zB zL slB mkB arB plB intB cells objc star stars buf slv grp whole Sat WPC WPL WPA WPO Trip

theorem c_next {b db : Nat} {j : JN} {L : JL} (hl : L.rs.length = j.held.length) (h1 : j.first < 4294967296) (h2 : j.held.length ≤ 1000) : Trip Tryd.prog 34 #[.pointer (some ⟨b, 0, none⟩)] [cells true b 0 (jourC db j L)] fun r Δ => r = .int .u64 (j.next : Int) ∧ Δ = [cells true b 0 (jourC db j L)] := by
  refine Trip.start 15 [.tmp 2] [(0, .pointer (some ⟨b, 0, none⟩))] Tryd.func34 rfl Tryd.ntmps34 rfl ⟨rfl, trivial⟩ rfl ?_
  refine WPC.seqR ?_
  refine L_s (q_assign rfl) rfl ?_
  refine WPL.nil ?_
  refine WPC.seqQ mixed (by kernel_rfl) ?_
  refine WPQ.cons (q_move rfl) rfl ?_
  first | refine WPQ.cons (q_nilP rfl) rfl ?_ | refine WPQ.cons (q_nilF rfl) rfl ?_
  first | refine WPQ.cons (q_faK fa_journal_Journal_first rfl) rfl ?_ | refine WPQ.cons (q_fa fa_journal_Journal_first rfl) rfl ?_
  first | refine WPQ.cons (q_load1z ld_uint32 rfl (by repeat (first | exact List.Mem.head _ | apply List.Mem.tail)) (by rfl)) rfl ?_ | refine WPQ.cons (q_load1 ld_uint32 rfl (by repeat (first | exact List.Mem.head _ | apply List.Mem.tail)) rfl (by rfl)) rfl ?_
  first | refine WPQ.cons (q_convU in_uint32 in_uint64 rfl (by omega)) rfl ?_ | refine WPQ.cons (q_conv in_uint32 in_uint64 rfl) rfl ?_
  refine WPQ.cons (q_move rfl) rfl ?_
  first | refine WPQ.cons (q_nilP rfl) rfl ?_ | refine WPQ.cons (q_nilF rfl) rfl ?_
  first | refine WPQ.cons (q_faK fa_journal_Journal_held rfl) rfl ?_ | refine WPQ.cons (q_fa fa_journal_Journal_held rfl) rfl ?_
  first | refine WPQ.cons (q_load1z ld_sl_journal_record rfl (by repeat (first | exact List.Mem.head _ | apply List.Mem.tail)) (by rfl)) rfl ?_ | refine WPQ.cons (q_load1 ld_sl_journal_record rfl (by repeat (first | exact List.Mem.head _ | apply List.Mem.tail)) rfl (by rfl)) rfl ?_
  refine WPQ.cons (q_len rfl un_sl_journal_record rfl) rfl ?_
  first | refine WPQ.cons (q_convU in_int in_uint64 rfl (by omega)) rfl ?_ | refine WPQ.cons (q_conv in_int in_uint64 rfl) rfl ?_
  refine WPQ.cons (q_addUN (a := j.first) (b := L.rs.length) rfl rfl (by omega)) rfl ?_
  refine WPQ.cons (q_assign rfl) rfl ?_
  refine WPQ.nil ?_
  refine WPC.ret ?_
  exact endR_r rfl (.tmp rfl .nil) (Imp.pick (by repeat (first | exact Pick.nil | apply Pick.keep (by repeat (first | exact List.Mem.head _ | apply List.Mem.tail)) (by first | exact Pers.cells _ _ _ | exact Pers.slv _ _ _ | exact Pers.bytes _) | apply Pick.cons (by repeat (first | exact Pick1.here | apply Pick1.there))))) ⟨by simp only [packV, JN.next, hl], rfl⟩

theorem c_sector {b db : Nat} {j : JN} {L : JL} {seq : Nat} (hs : seq < 4294967296) (hn : 1 ≤ j.n ∧ j.n ≤ 100) (ha : j.at_ ≤ 1000) : Trip Tryd.prog 37 #[.pointer (some ⟨b, 0, none⟩), .int .u32 (seq : Int)] [cells true b 0 (jourC db j L)] fun r Δ => r = .int .i64 (j.place seq : Int) ∧ Δ = [cells true b 0 (jourC db j L)] := by
  have hm := Nat.mod_lt seq (show 0 < j.n by omega)
  refine Trip.start 19 [.tmp 4] [(0, .pointer (some ⟨b, 0, none⟩)), (1, .int .u32 (seq : Int))] Tryd.func37 rfl Tryd.ntmps37 rfl ⟨rfl, rfl, trivial⟩ rfl ?_
  refine WPC.seqR ?_
  refine L_s (q_assign rfl) rfl ?_
  refine WPL.nil ?_
  refine WPC.seqQ mixed (by kernel_rfl) ?_
  refine WPQ.cons (q_move rfl) rfl ?_
  first | refine WPQ.cons (q_nilP rfl) rfl ?_ | refine WPQ.cons (q_nilF rfl) rfl ?_
  first | refine WPQ.cons (q_faK fa_journal_Journal_at rfl) rfl ?_ | refine WPQ.cons (q_fa fa_journal_Journal_at rfl) rfl ?_
  first | refine WPQ.cons (q_load1z ld_int rfl (by repeat (first | exact List.Mem.head _ | apply List.Mem.tail)) (by rfl)) rfl ?_ | refine WPQ.cons (q_load1 ld_int rfl (by repeat (first | exact List.Mem.head _ | apply List.Mem.tail)) rfl (by rfl)) rfl ?_
  first | refine WPQ.cons (q_inc rfl rfl (by omega)) rfl ?_ | refine WPQ.cons (q_addI rfl rfl (by omega)) rfl ?_ | refine WPQ.cons (q_int rfl rfl rfl) rfl ?_
  refine WPQ.cons (q_move rfl) rfl ?_
  refine WPQ.cons (q_move rfl) rfl ?_
  first | refine WPQ.cons (q_nilP rfl) rfl ?_ | refine WPQ.cons (q_nilF rfl) rfl ?_
  first | refine WPQ.cons (q_faK fa_journal_Journal_n rfl) rfl ?_ | refine WPQ.cons (q_fa fa_journal_Journal_n rfl) rfl ?_
  first | refine WPQ.cons (q_load1z ld_int rfl (by repeat (first | exact List.Mem.head _ | apply List.Mem.tail)) (by rfl)) rfl ?_ | refine WPQ.cons (q_load1 ld_int rfl (by repeat (first | exact List.Mem.head _ | apply List.Mem.tail)) rfl (by rfl)) rfl ?_
  first | refine WPQ.cons (q_conv32 in_int in_uint32 rfl (by omega)) rfl ?_ | refine WPQ.cons (q_conv in_int in_uint32 rfl) rfl ?_
  refine WPQ.cons (q_remNN (a := seq) (b := j.n) rfl rfl (by omega)) rfl ?_
  first | refine WPQ.cons (q_convI in_uint32 in_int rfl (by omega)) rfl ?_ | refine WPQ.cons (q_conv in_uint32 in_int rfl) rfl ?_
  first | refine WPQ.cons (q_inc rfl rfl (by omega)) rfl ?_ | refine WPQ.cons (q_addI rfl rfl (by omega)) rfl ?_ | refine WPQ.cons (q_int rfl rfl rfl) rfl ?_
  refine WPQ.cons (q_assign rfl) rfl ?_
  refine WPQ.nil ?_
  refine WPC.ret ?_
  exact endR_r rfl (.tmp rfl .nil) (Imp.pick (by repeat (first | exact Pick.nil | apply Pick.keep (by repeat (first | exact List.Mem.head _ | apply List.Mem.tail)) (by first | exact Pers.cells _ _ _ | exact Pers.slv _ _ _ | exact Pers.bytes _) | apply Pick.cons (by repeat (first | exact Pick1.here | apply Pick1.there))))) ⟨by simp [packV, JN.place], rfl⟩

theorem c_meta {b db : Nat} {j : JN} {L : JL} {a : Option Addr} {c : Nat} {xs : List By} (hs : Sok 1 a xs.length c (xs.map u8)) (hx : xs.length < 1000) : Trip Tryd.prog 41 #[.pointer (some ⟨b, 0, none⟩), .slice a xs.length c] [cells true b 0 (jourC db j L), sl false a (xs.map u8)] fun r Δ => ∃ v : Bool, r = .bool v ∧ (v = true ↔ xs.length = 12 ∧ 0 < num xs 0 4 ∧ num xs 8 4 ≤ num xs 4 4) ∧ Δ = [cells true b 0 (jourC db (j.withMeta xs) L)] := by
  have hT := T_len xs
  have hb1 := rnum_lt xs false
  have hb2 := rnum_lt (T1 xs).2.1 (T1 xs).2.2
  have hb3 := rnum_lt (T2 xs).2.1 (T2 xs).2.2
  change ofLE (T1 xs).1 < _ at hb1
  change ofLE (T2 xs).1 < _ at hb2
  change ofLE (T3 xs).1 < _ at hb3
  refine Trip.start 47 [.tmp 4] [(0, .pointer (some ⟨b, 0, none⟩)), (1, .slice a xs.length c)] Tryd.func41 rfl Tryd.ntmps41 rfl ⟨rfl, rfl, trivial⟩ rfl ?_
  refine WPC.seqR ?_
  refine L_s (q_assign rfl) rfl ?_
  refine WPL.nil ?_
  refine WPC.seqR ?_
  refine L_s (q_move rfl) rfl ?_
  refine WPL.cons rfl (C1.call (c_call Tryd.func65 rfl rfl rfl) (c_Read hs) (by repeat (first | exact Pick.nil | apply Pick.keep (by repeat (first | exact List.Mem.head _ | apply List.Mem.tail)) (by first | exact Pers.cells _ _ _ | exact Pers.slv _ _ _) | apply Pick.cons (by repeat (first | exact Pick1.here | apply Pick1.there)))) rfl ?_)
  rintro _ _ ⟨br, rfl, rfl⟩
  refine WPL.putS ?_
  refine L_s (q_assign rfl) rfl ?_
  refine WPL.nil ?_
  refine WPC.seqR ?_
  refine L_s (q_move rfl) rfl ?_
  refine L_s (q_move rfl) rfl ?_
  refine L_s (q_move rfl) rfl ?_
  refine L_s (q_move rfl) rfl ?_
  refine WPL.cons rfl (C1.call (c_call Tryd.func66 rfl rfl rfl) (show Trip _ _ _ [rd br 0 xs false] (fun r Δ => r = .int .u64 ((ofLE (T1 xs).1 : Nat) : Int) ∧ Δ = [rd br 0 (T1 xs).2.1 (T1 xs).2.2]) from c_RNumber (k := 4) (by omega) (by omega)) (by repeat (first | exact Pick.nil | apply Pick.keep (by repeat (first | exact List.Mem.head _ | apply List.Mem.tail)) (by first | exact Pers.cells _ _ _ | exact Pers.slv _ _ _) | apply Pick.cons (by repeat (first | exact Pick1.here | apply Pick1.there)))) rfl ?_)
  rintro _ _ ⟨rfl, rfl⟩
  refine WPL.putS ?_
  first | refine L_s (q_conv32 in_uint64 in_uint32 rfl (by omega)) rfl ?_ | refine L_s (q_conv in_uint64 in_uint32 rfl) rfl ?_
  refine L_s (q_move rfl) rfl ?_
  refine WPL.cons rfl (C1.call (c_call Tryd.func66 rfl rfl rfl) (show Trip _ _ _ [rd br 0 (T1 xs).2.1 (T1 xs).2.2] (fun r Δ => r = .int .u64 ((ofLE (T2 xs).1 : Nat) : Int) ∧ Δ = [rd br 0 (T2 xs).2.1 (T2 xs).2.2]) from c_RNumber (k := 4) (by omega) (by omega)) (by repeat (first | exact Pick.nil | apply Pick.keep (by repeat (first | exact List.Mem.head _ | apply List.Mem.tail)) (by first | exact Pers.cells _ _ _ | exact Pers.slv _ _ _) | apply Pick.cons (by repeat (first | exact Pick1.here | apply Pick1.there)))) rfl ?_)
  rintro _ _ ⟨rfl, rfl⟩
  refine WPL.putS ?_
  first | refine L_s (q_conv32 in_uint64 in_uint32 rfl (by omega)) rfl ?_ | refine L_s (q_conv in_uint64 in_uint32 rfl) rfl ?_
  refine L_s (q_move rfl) rfl ?_
  refine WPL.cons rfl (C1.call (c_call Tryd.func66 rfl rfl rfl) (show Trip _ _ _ [rd br 0 (T2 xs).2.1 (T2 xs).2.2] (fun r Δ => r = .int .u64 ((ofLE (T3 xs).1 : Nat) : Int) ∧ Δ = [rd br 0 (T3 xs).2.1 (T3 xs).2.2]) from c_RNumber (k := 4) (by omega) (by omega)) (by repeat (first | exact Pick.nil | apply Pick.keep (by repeat (first | exact List.Mem.head _ | apply List.Mem.tail)) (by first | exact Pers.cells _ _ _ | exact Pers.slv _ _ _) | apply Pick.cons (by repeat (first | exact Pick1.here | apply Pick1.there)))) rfl ?_)
  rintro _ _ ⟨rfl, rfl⟩
  refine WPL.putS ?_
  first | refine L_s (q_conv32 in_uint64 in_uint32 rfl (by omega)) rfl ?_ | refine L_s (q_conv in_uint64 in_uint32 rfl) rfl ?_
  first | refine L_s (q_nilP rfl) rfl ?_ | refine L_s (q_nilF rfl) rfl ?_
  first | refine L_s (q_faK fa_journal_Journal_first rfl) rfl ?_ | refine L_s (q_fa fa_journal_Journal_first rfl) rfl ?_
  refine WPL.cons rfl (S1.wpo (s_store1k sz_uint32 rfl rfl rfl rfl (by repeat (first | exact Upd.here | apply Upd.there)) (by repeat constructor)) rfl ?_)
  refine WPL.putN ?_
  first | refine L_s (q_nilP rfl) rfl ?_ | refine L_s (q_nilF rfl) rfl ?_
  first | refine L_s (q_faK fa_journal_Journal_epoch rfl) rfl ?_ | refine L_s (q_fa fa_journal_Journal_epoch rfl) rfl ?_
  refine WPL.cons rfl (S1.wpo (s_store1k sz_uint32 rfl rfl rfl rfl (by repeat (first | exact Upd.here | apply Upd.there)) (by repeat constructor)) rfl ?_)
  refine WPL.putN ?_
  first | refine L_s (q_nilP rfl) rfl ?_ | refine L_s (q_nilF rfl) rfl ?_
  first | refine L_s (q_faK fa_journal_Journal_low rfl) rfl ?_ | refine L_s (q_fa fa_journal_Journal_low rfl) rfl ?_
  refine WPL.cons rfl (S1.wpo (s_store1k sz_uint32 rfl rfl rfl rfl (by repeat (first | exact Upd.here | apply Upd.there)) (by repeat constructor)) rfl ?_)
  refine WPL.putN ?_
  refine WPL.nil ?_
  refine WPC.seqD mixed ?_
  refine WPA.takeP 0 rfl (q_move rfl) (by kernel_rfl) (by kernel_rfl) (by kernel_rfl) rfl rfl (.nil _) ?_
  refine WPA.putS ?_
  refine WPA.oneE 1 [] (by kernel_rfl) rfl rfl (by repeat (first | exact .nil | refine .anc rfl ?_ | refine .keep (by repeat (first | exact List.Mem.head _ | apply List.Mem.tail)) ?_)) (C1.call (c_call Tryd.func67 rfl rfl rfl) (c_REnd (b := br) (o := 0) (xs := (T3 xs).2.1) (sh := (T3 xs).2.2)) (by repeat (first | exact Pick.nil | apply Pick.keep (by repeat (first | exact List.Mem.head _ | apply List.Mem.tail)) (by first | exact Pers.cells _ _ _ | exact Pers.slv _ _ _) | apply Pick.cons (by repeat (first | exact Pick1.here | apply Pick1.there)))) rfl ?_)
  rintro _ _ ⟨v, rfl, hv, rfl⟩
  refine ⟨(.nil _), ?_⟩
  refine WPA.putS ?_
  refine WPA.takeP 2 rfl (q_int rfl rfl rfl) (by kernel_rfl) (by kernel_rfl) (by kernel_rfl) rfl rfl (.nil _) ?_
  refine WPA.putS ?_
  refine WPA.takeP 3 rfl (q_move rfl) (by kernel_rfl) (by kernel_rfl) (by kernel_rfl) rfl rfl (.nil _) ?_
  refine WPA.putS ?_
  refine WPA.split 29 _ rfl (fun g3_3 => ?_) (fun g3_3 => ?_)
  · have h0 : v = 0 := by simpa using g3_3
    have h12 := T3_only (hv.1 h0).1 (hv.1 h0).2
    obtain ⟨-, -, e1, e2, e3⟩ := T3_twelve h12
    refine WPA.takePY 4 rfl rfl rfl rfl (q_move rfl) (by kernel_rfl) (by kernel_rfl) (by kernel_rfl) rfl (.nil _) ?_
    refine WPA.putS ?_
    first | refine WPA.takePY 5 rfl rfl rfl rfl (q_nilP rfl) (by kernel_rfl) (by kernel_rfl) (by kernel_rfl) rfl (.nil _) ?_ | refine WPA.takePY 5 rfl rfl rfl rfl (q_nilF rfl) (by kernel_rfl) (by kernel_rfl) (by kernel_rfl) rfl (.nil _) ?_
    refine WPA.putS ?_
    first | refine WPA.takePY 6 rfl rfl rfl rfl (q_faK fa_journal_Journal_first rfl) (by kernel_rfl) (by kernel_rfl) (by kernel_rfl) rfl (.nil _) ?_ | refine WPA.takePY 6 rfl rfl rfl rfl (q_fa fa_journal_Journal_first rfl) (by kernel_rfl) (by kernel_rfl) (by kernel_rfl) rfl (.nil _) ?_
    refine WPA.putS ?_
    first | refine WPA.takeLY 7 rfl (Ent.mem (by repeat (first | exact List.Mem.head _ | apply List.Mem.tail))) rfl rfl rfl (q_load1z ld_uint32 rfl (.head _) (by rfl)) (by kernel_rfl) (by kernel_rfl) (by kernel_rfl) rfl (.nil _) ?_ | refine WPA.takeLY 7 rfl (Ent.mem (by repeat (first | exact List.Mem.head _ | apply List.Mem.tail))) rfl rfl rfl (q_load1 ld_uint32 rfl (.head _) rfl (by rfl)) (by kernel_rfl) (by kernel_rfl) (by kernel_rfl) rfl (.nil _) ?_
    refine WPA.putS ?_
    refine WPA.takePY 8 rfl rfl rfl rfl (q_int rfl rfl rfl) (by kernel_rfl) (by kernel_rfl) (by kernel_rfl) rfl (.cons (Ent.mem (by repeat (first | exact List.Mem.head _ | apply List.Mem.tail))) (.nil _)) ?_
    refine WPA.putS ?_
    first | refine WPA.takeP 9 rfl (q_pickT rfl rfl) (by kernel_rfl) (by kernel_rfl) (by kernel_rfl) rfl rfl (.cons (Ent.mem (by repeat (first | exact List.Mem.head _ | apply List.Mem.tail))) (.nil _)) ?_ | refine WPA.takeP 9 rfl (q_pickF rfl rfl) (by kernel_rfl) (by kernel_rfl) (by kernel_rfl) rfl rfl (.cons (Ent.mem (by repeat (first | exact List.Mem.head _ | apply List.Mem.tail))) (.nil _)) ?_
    refine WPA.putS ?_
    refine WPA.takeP 10 rfl (q_move rfl) (by kernel_rfl) (by kernel_rfl) (by kernel_rfl) rfl rfl (.cons (Ent.mem (by repeat (first | exact List.Mem.head _ | apply List.Mem.tail))) (.nil _)) ?_
    refine WPA.putS ?_
    refine WPA.split 36 _ rfl (fun g3_10 => ?_) (fun g3_10 => ?_)
    · skip
      refine WPA.takePY 11 rfl rfl rfl rfl (q_move rfl) (by kernel_rfl) (by kernel_rfl) (by kernel_rfl) rfl (.cons (Ent.mem (by repeat (first | exact List.Mem.head _ | apply List.Mem.tail))) (.nil _)) ?_
      refine WPA.putS ?_
      first | refine WPA.takePY 12 rfl rfl rfl rfl (q_nilP rfl) (by kernel_rfl) (by kernel_rfl) (by kernel_rfl) rfl (.cons (Ent.mem (by repeat (first | exact List.Mem.head _ | apply List.Mem.tail))) (.nil _)) ?_ | refine WPA.takePY 12 rfl rfl rfl rfl (q_nilF rfl) (by kernel_rfl) (by kernel_rfl) (by kernel_rfl) rfl (.cons (Ent.mem (by repeat (first | exact List.Mem.head _ | apply List.Mem.tail))) (.nil _)) ?_
      refine WPA.putS ?_
      first | refine WPA.takePY 13 rfl rfl rfl rfl (q_faK fa_journal_Journal_low rfl) (by kernel_rfl) (by kernel_rfl) (by kernel_rfl) rfl (.cons (Ent.mem (by repeat (first | exact List.Mem.head _ | apply List.Mem.tail))) (.nil _)) ?_ | refine WPA.takePY 13 rfl rfl rfl rfl (q_fa fa_journal_Journal_low rfl) (by kernel_rfl) (by kernel_rfl) (by kernel_rfl) rfl (.cons (Ent.mem (by repeat (first | exact List.Mem.head _ | apply List.Mem.tail))) (.nil _)) ?_
      refine WPA.putS ?_
      first | refine WPA.takeLY 14 rfl (Ent.mem (by repeat (first | exact List.Mem.head _ | apply List.Mem.tail))) rfl rfl rfl (q_load1z ld_uint32 rfl (.head _) (by rfl)) (by kernel_rfl) (by kernel_rfl) (by kernel_rfl) rfl (.cons (Ent.mem (by repeat (first | exact List.Mem.head _ | apply List.Mem.tail))) (.nil _)) ?_ | refine WPA.takeLY 14 rfl (Ent.mem (by repeat (first | exact List.Mem.head _ | apply List.Mem.tail))) rfl rfl rfl (q_load1 ld_uint32 rfl (.head _) rfl (by rfl)) (by kernel_rfl) (by kernel_rfl) (by kernel_rfl) rfl (.cons (Ent.mem (by repeat (first | exact List.Mem.head _ | apply List.Mem.tail))) (.nil _)) ?_
      refine WPA.putS ?_
      refine WPA.takePY 15 rfl rfl rfl rfl (q_move rfl) (by kernel_rfl) (by kernel_rfl) (by kernel_rfl) rfl (.cons (Ent.mem (by repeat (first | exact List.Mem.head _ | apply List.Mem.tail))) (.cons (Ent.mem (by repeat (first | exact List.Mem.head _ | apply List.Mem.tail))) (.nil _))) ?_
      refine WPA.putS ?_
      first | refine WPA.takePY 16 rfl rfl rfl rfl (q_nilP rfl) (by kernel_rfl) (by kernel_rfl) (by kernel_rfl) rfl (.cons (Ent.mem (by repeat (first | exact List.Mem.head _ | apply List.Mem.tail))) (.cons (Ent.mem (by repeat (first | exact List.Mem.head _ | apply List.Mem.tail))) (.nil _))) ?_ | refine WPA.takePY 16 rfl rfl rfl rfl (q_nilF rfl) (by kernel_rfl) (by kernel_rfl) (by kernel_rfl) rfl (.cons (Ent.mem (by repeat (first | exact List.Mem.head _ | apply List.Mem.tail))) (.cons (Ent.mem (by repeat (first | exact List.Mem.head _ | apply List.Mem.tail))) (.nil _))) ?_
      refine WPA.putS ?_
      first | refine WPA.takePY 17 rfl rfl rfl rfl (q_faK fa_journal_Journal_epoch rfl) (by kernel_rfl) (by kernel_rfl) (by kernel_rfl) rfl (.cons (Ent.mem (by repeat (first | exact List.Mem.head _ | apply List.Mem.tail))) (.cons (Ent.mem (by repeat (first | exact List.Mem.head _ | apply List.Mem.tail))) (.nil _))) ?_ | refine WPA.takePY 17 rfl rfl rfl rfl (q_fa fa_journal_Journal_epoch rfl) (by kernel_rfl) (by kernel_rfl) (by kernel_rfl) rfl (.cons (Ent.mem (by repeat (first | exact List.Mem.head _ | apply List.Mem.tail))) (.cons (Ent.mem (by repeat (first | exact List.Mem.head _ | apply List.Mem.tail))) (.nil _))) ?_
      refine WPA.putS ?_
      first | refine WPA.takeLY 18 rfl (Ent.mem (by repeat (first | exact List.Mem.head _ | apply List.Mem.tail))) rfl rfl rfl (q_load1z ld_uint32 rfl (.head _) (by rfl)) (by kernel_rfl) (by kernel_rfl) (by kernel_rfl) rfl (.cons (Ent.mem (by repeat (first | exact List.Mem.head _ | apply List.Mem.tail))) (.cons (Ent.mem (by repeat (first | exact List.Mem.head _ | apply List.Mem.tail))) (.nil _))) ?_ | refine WPA.takeLY 18 rfl (Ent.mem (by repeat (first | exact List.Mem.head _ | apply List.Mem.tail))) rfl rfl rfl (q_load1 ld_uint32 rfl (.head _) rfl (by rfl)) (by kernel_rfl) (by kernel_rfl) (by kernel_rfl) rfl (.cons (Ent.mem (by repeat (first | exact List.Mem.head _ | apply List.Mem.tail))) (.cons (Ent.mem (by repeat (first | exact List.Mem.head _ | apply List.Mem.tail))) (.nil _))) ?_
      refine WPA.putS ?_
      refine WPA.takePY 19 rfl rfl rfl rfl (q_int rfl rfl rfl) (by kernel_rfl) (by kernel_rfl) (by kernel_rfl) rfl (.cons (Ent.mem (by repeat (first | exact List.Mem.head _ | apply List.Mem.tail))) (.cons (Ent.mem (by repeat (first | exact List.Mem.head _ | apply List.Mem.tail))) (.cons (Ent.mem (by repeat (first | exact List.Mem.head _ | apply List.Mem.tail))) (.nil _)))) ?_
      refine WPA.putS ?_
      first | refine WPA.takeP 20 rfl (q_pickT rfl rfl) (by kernel_rfl) (by kernel_rfl) (by kernel_rfl) rfl rfl (.cons (Ent.mem (by repeat (first | exact List.Mem.head _ | apply List.Mem.tail))) (.cons (Ent.mem (by repeat (first | exact List.Mem.head _ | apply List.Mem.tail))) (.cons (Ent.mem (by repeat (first | exact List.Mem.head _ | apply List.Mem.tail))) (.nil _)))) ?_ | refine WPA.takeP 20 rfl (q_pickF rfl rfl) (by kernel_rfl) (by kernel_rfl) (by kernel_rfl) rfl rfl (.cons (Ent.mem (by repeat (first | exact List.Mem.head _ | apply List.Mem.tail))) (.cons (Ent.mem (by repeat (first | exact List.Mem.head _ | apply List.Mem.tail))) (.cons (Ent.mem (by repeat (first | exact List.Mem.head _ | apply List.Mem.tail))) (.nil _)))) ?_
      refine WPA.putS ?_
      refine WPA.takeP 21 rfl (q_assign rfl) (by kernel_rfl) (by kernel_rfl) (by kernel_rfl) rfl rfl (.cons (Ent.mem (by repeat (first | exact List.Mem.head _ | apply List.Mem.tail))) (.cons (Ent.mem (by repeat (first | exact List.Mem.head _ | apply List.Mem.tail))) (.cons (Ent.mem (by repeat (first | exact List.Mem.head _ | apply List.Mem.tail))) (.nil _)))) ?_
      refine WPA.putS ?_
      refine WPA.done (by kernel_rfl) ?_
      refine WPC.ret ?_
      exact endR_r rfl (.tmp rfl .nil) (Imp.pick (by repeat (first | exact Pick.nil | apply Pick.keep (by repeat (first | exact List.Mem.head _ | apply List.Mem.tail)) (by first | exact Pers.cells _ _ _ | exact Pers.slv _ _ _ | exact Pers.bytes _) | apply Pick.cons (by repeat (first | exact Pick1.here | apply Pick1.there))))) ⟨_, rfl, by simp only [decide_eq_true_eq]; rw [e2, e3]; rw [e1] at g3_10; simp at g3_10; omega, rfl⟩
    · skip
      refine WPA.takeN 11 rfl rfl rfl rfl rfl (by kernel_rfl) (by kernel_rfl) (by kernel_rfl) rfl (.cons (Ent.mem (by repeat (first | exact List.Mem.head _ | apply List.Mem.tail))) (.nil _)) ?_
      refine WPA.putS ?_
      refine WPA.takeN 12 rfl rfl rfl rfl rfl (by kernel_rfl) (by kernel_rfl) (by kernel_rfl) rfl (.cons (Ent.mem (by repeat (first | exact List.Mem.head _ | apply List.Mem.tail))) (.nil _)) ?_
      refine WPA.putS ?_
      refine WPA.takeN 13 rfl rfl rfl rfl rfl (by kernel_rfl) (by kernel_rfl) (by kernel_rfl) rfl (.cons (Ent.mem (by repeat (first | exact List.Mem.head _ | apply List.Mem.tail))) (.nil _)) ?_
      refine WPA.putS ?_
      refine WPA.takeN 14 rfl rfl rfl rfl rfl (by kernel_rfl) (by kernel_rfl) (by kernel_rfl) rfl (.cons (Ent.mem (by repeat (first | exact List.Mem.head _ | apply List.Mem.tail))) (.nil _)) ?_
      refine WPA.putS ?_
      refine WPA.takeN 15 rfl rfl rfl rfl rfl (by kernel_rfl) (by kernel_rfl) (by kernel_rfl) rfl (.cons (Ent.mem (by repeat (first | exact List.Mem.head _ | apply List.Mem.tail))) (.nil _)) ?_
      refine WPA.putS ?_
      refine WPA.takeN 16 rfl rfl rfl rfl rfl (by kernel_rfl) (by kernel_rfl) (by kernel_rfl) rfl (.cons (Ent.mem (by repeat (first | exact List.Mem.head _ | apply List.Mem.tail))) (.nil _)) ?_
      refine WPA.putS ?_
      refine WPA.takeN 17 rfl rfl rfl rfl rfl (by kernel_rfl) (by kernel_rfl) (by kernel_rfl) rfl (.cons (Ent.mem (by repeat (first | exact List.Mem.head _ | apply List.Mem.tail))) (.nil _)) ?_
      refine WPA.putS ?_
      refine WPA.takeN 18 rfl rfl rfl rfl rfl (by kernel_rfl) (by kernel_rfl) (by kernel_rfl) rfl (.cons (Ent.mem (by repeat (first | exact List.Mem.head _ | apply List.Mem.tail))) (.nil _)) ?_
      refine WPA.putS ?_
      refine WPA.takeN 19 rfl rfl rfl rfl rfl (by kernel_rfl) (by kernel_rfl) (by kernel_rfl) rfl (.cons (Ent.mem (by repeat (first | exact List.Mem.head _ | apply List.Mem.tail))) (.nil _)) ?_
      refine WPA.putS ?_
      first | refine WPA.takeP 20 rfl (q_pickT rfl rfl) (by kernel_rfl) (by kernel_rfl) (by kernel_rfl) rfl rfl (.cons (Ent.mem (by repeat (first | exact List.Mem.head _ | apply List.Mem.tail))) (.nil _)) ?_ | refine WPA.takeP 20 rfl (q_pickF rfl rfl) (by kernel_rfl) (by kernel_rfl) (by kernel_rfl) rfl rfl (.cons (Ent.mem (by repeat (first | exact List.Mem.head _ | apply List.Mem.tail))) (.nil _)) ?_
      refine WPA.putS ?_
      refine WPA.takeP 21 rfl (q_assign rfl) (by kernel_rfl) (by kernel_rfl) (by kernel_rfl) rfl rfl (.cons (Ent.mem (by repeat (first | exact List.Mem.head _ | apply List.Mem.tail))) (.nil _)) ?_
      refine WPA.putS ?_
      refine WPA.done (by kernel_rfl) ?_
      refine WPC.ret ?_
      exact endR_r rfl (.tmp rfl .nil) (Imp.pick (by repeat (first | exact Pick.nil | apply Pick.keep (by repeat (first | exact List.Mem.head _ | apply List.Mem.tail)) (by first | exact Pers.cells _ _ _ | exact Pers.slv _ _ _ | exact Pers.bytes _) | apply Pick.cons (by repeat (first | exact Pick1.here | apply Pick1.there))))) ⟨_, rfl, by rw [e1] at g3_10; simp at g3_10 ⊢; omega, rfl⟩
  · have h0 : v ≠ 0 := by simpa using g3_3
    have h12 : xs.length ≠ 12 := fun h => h0 (hv.2 ⟨(T3_twelve h).1, (T3_twelve h).2.1⟩)
    refine WPA.takeN 4 rfl rfl rfl rfl rfl (by kernel_rfl) (by kernel_rfl) (by kernel_rfl) rfl (.nil _) ?_
    refine WPA.putS ?_
    refine WPA.takeN 5 rfl rfl rfl rfl rfl (by kernel_rfl) (by kernel_rfl) (by kernel_rfl) rfl (.nil _) ?_
    refine WPA.putS ?_
    refine WPA.takeN 6 rfl rfl rfl rfl rfl (by kernel_rfl) (by kernel_rfl) (by kernel_rfl) rfl (.nil _) ?_
    refine WPA.putS ?_
    refine WPA.takeN 7 rfl rfl rfl rfl rfl (by kernel_rfl) (by kernel_rfl) (by kernel_rfl) rfl (.nil _) ?_
    refine WPA.putS ?_
    refine WPA.takeN 8 rfl rfl rfl rfl rfl (by kernel_rfl) (by kernel_rfl) (by kernel_rfl) rfl (.nil _) ?_
    refine WPA.putS ?_
    first | refine WPA.takeP 9 rfl (q_pickT rfl rfl) (by kernel_rfl) (by kernel_rfl) (by kernel_rfl) rfl rfl (.nil _) ?_ | refine WPA.takeP 9 rfl (q_pickF rfl rfl) (by kernel_rfl) (by kernel_rfl) (by kernel_rfl) rfl rfl (.nil _) ?_
    refine WPA.putS ?_
    refine WPA.takeP 10 rfl (q_move rfl) (by kernel_rfl) (by kernel_rfl) (by kernel_rfl) rfl rfl (.nil _) ?_
    refine WPA.putS ?_
    refine WPA.split 36 _ rfl (fun g3_10 => ?_) (fun g3_10 => ?_)
    · skip
      simp at g3_10
    · skip
      refine WPA.takeN 11 rfl rfl rfl rfl rfl (by kernel_rfl) (by kernel_rfl) (by kernel_rfl) rfl (.nil _) ?_
      refine WPA.putS ?_
      refine WPA.takeN 12 rfl rfl rfl rfl rfl (by kernel_rfl) (by kernel_rfl) (by kernel_rfl) rfl (.nil _) ?_
      refine WPA.putS ?_
      refine WPA.takeN 13 rfl rfl rfl rfl rfl (by kernel_rfl) (by kernel_rfl) (by kernel_rfl) rfl (.nil _) ?_
      refine WPA.putS ?_
      refine WPA.takeN 14 rfl rfl rfl rfl rfl (by kernel_rfl) (by kernel_rfl) (by kernel_rfl) rfl (.nil _) ?_
      refine WPA.putS ?_
      refine WPA.takeN 15 rfl rfl rfl rfl rfl (by kernel_rfl) (by kernel_rfl) (by kernel_rfl) rfl (.nil _) ?_
      refine WPA.putS ?_
      refine WPA.takeN 16 rfl rfl rfl rfl rfl (by kernel_rfl) (by kernel_rfl) (by kernel_rfl) rfl (.nil _) ?_
      refine WPA.putS ?_
      refine WPA.takeN 17 rfl rfl rfl rfl rfl (by kernel_rfl) (by kernel_rfl) (by kernel_rfl) rfl (.nil _) ?_
      refine WPA.putS ?_
      refine WPA.takeN 18 rfl rfl rfl rfl rfl (by kernel_rfl) (by kernel_rfl) (by kernel_rfl) rfl (.nil _) ?_
      refine WPA.putS ?_
      refine WPA.takeN 19 rfl rfl rfl rfl rfl (by kernel_rfl) (by kernel_rfl) (by kernel_rfl) rfl (.nil _) ?_
      refine WPA.putS ?_
      first | refine WPA.takeP 20 rfl (q_pickT rfl rfl) (by kernel_rfl) (by kernel_rfl) (by kernel_rfl) rfl rfl (.nil _) ?_ | refine WPA.takeP 20 rfl (q_pickF rfl rfl) (by kernel_rfl) (by kernel_rfl) (by kernel_rfl) rfl rfl (.nil _) ?_
      refine WPA.putS ?_
      refine WPA.takeP 21 rfl (q_assign rfl) (by kernel_rfl) (by kernel_rfl) (by kernel_rfl) rfl rfl (.nil _) ?_
      refine WPA.putS ?_
      refine WPA.done (by kernel_rfl) ?_
      refine WPC.ret ?_
      exact endR_r rfl (.tmp rfl .nil) (Imp.pick (by repeat (first | exact Pick.nil | apply Pick.keep (by repeat (first | exact List.Mem.head _ | apply List.Mem.tail)) (by first | exact Pers.cells _ _ _ | exact Pers.slv _ _ _ | exact Pers.bytes _) | apply Pick.cons (by repeat (first | exact Pick1.here | apply Pick1.there))))) ⟨_, rfl, by simp [h12], rfl⟩

theorem c_jsave {b db : Nat} {j : JN} {L : JL} {d : DK} (hj : j.ok d) (hd : d.ok) (hpl : d.pend.length < 900000) : Trip Tryd.prog 43 #[.pointer (some ⟨b, 0, none⟩)] [cells true b 0 (jourC db j L), disk db d, tblA] fun r Δ => r = .int .i64 (jsave d j).2 ∧ Δ = [cells true b 0 (jourC db j L), disk db (jsave d j).1] := by
  have h1 := hj.first
  have h2 := hj.epoch
  have h3 := hj.low
  have h4 := hj.at_
  have h5 := hd.n
  have hml : j.metaB.length = 12 := by simp [JN.metaB, le_length]
  refine Trip.start 32 [.tmp 2] [(0, .pointer (some ⟨b, 0, none⟩))] Tryd.func43 rfl Tryd.ntmps43 rfl ⟨rfl, trivial⟩ rfl ?_
  refine WPC.seqR ?_
  refine L_s (q_assign rfl) rfl ?_
  refine WPL.nil ?_
  refine WPC.seqR ?_
  refine WPL.cons rfl (E1.wpo (e_allocL zl_pack_Writer) rfl ?_)
  rintro _ _ ⟨bW, rfl, rfl⟩
  refine WPL.putS ?_
  refine WPL.nil ?_
  refine WPC.imp (Imp.bufNil (sz := 1)) ?_
  refine WPC.imp ((Imp.pick (Δ := [cells true bW 0 [.slice none 0 0], buf 1 none 0 0 (([] : List By).map u8), cells true b 0 (jourC db j L), disk db d, tblA]) (by repeat (first | exact Pick.nil | apply Pick.keep (by repeat (first | exact List.Mem.head _ | apply List.Mem.tail)) (by first | exact Pers.cells _ _ _ | exact Pers.slv _ _ _ | exact Pers.bytes _) | apply Pick.cons (by repeat (first | exact Pick1.here | apply Pick1.there))))).trans (wr_close (b := bW) (o := 0) (xs := []) none 0 0 (Γ := [cells true b 0 (jourC db j L), disk db d, tblA]))) ?_
  refine WPC.seqR ?_
  refine L_s (q_move rfl) rfl ?_
  first | refine L_s (q_nilP rfl) rfl ?_ | refine L_s (q_nilF rfl) rfl ?_
  first | refine L_s (q_faK fa_journal_Journal_first rfl) rfl ?_ | refine L_s (q_fa fa_journal_Journal_first rfl) rfl ?_
  first | refine L_s (q_load1z ld_uint32 rfl (by repeat (first | exact List.Mem.head _ | apply List.Mem.tail)) (by rfl)) rfl ?_ | refine L_s (q_load1 ld_uint32 rfl (by repeat (first | exact List.Mem.head _ | apply List.Mem.tail)) rfl (by rfl)) rfl ?_
  first | refine L_s (q_convU in_uint32 in_uint64 rfl (by omega)) rfl ?_ | refine L_s (q_conv in_uint32 in_uint64 rfl) rfl ?_
  refine WPL.cons rfl (C1.call (c_call Tryd.func58 rfl rfl rfl) (c_WNumber (xs := []) (v := j.first) (k := 4) (by omega) (by simp)) (by repeat (first | exact Pick.nil | apply Pick.keep (by repeat (first | exact List.Mem.head _ | apply List.Mem.tail)) (by first | exact Pers.cells _ _ _ | exact Pers.slv _ _ _) | apply Pick.cons (by repeat (first | exact Pick1.here | apply Pick1.there)))) rfl ?_)
  rintro _ _ ⟨rfl, rfl⟩
  rw [List.nil_append]
  refine WPL.putS ?_
  refine WPL.nil ?_
  refine WPC.seqR ?_
  refine L_s (q_move rfl) rfl ?_
  first | refine L_s (q_nilP rfl) rfl ?_ | refine L_s (q_nilF rfl) rfl ?_
  first | refine L_s (q_faK fa_journal_Journal_epoch rfl) rfl ?_ | refine L_s (q_fa fa_journal_Journal_epoch rfl) rfl ?_
  first | refine L_s (q_load1z ld_uint32 rfl (by repeat (first | exact List.Mem.head _ | apply List.Mem.tail)) (by rfl)) rfl ?_ | refine L_s (q_load1 ld_uint32 rfl (by repeat (first | exact List.Mem.head _ | apply List.Mem.tail)) rfl (by rfl)) rfl ?_
  first | refine L_s (q_convU in_uint32 in_uint64 rfl (by omega)) rfl ?_ | refine L_s (q_conv in_uint32 in_uint64 rfl) rfl ?_
  refine WPL.cons rfl (C1.call (c_call Tryd.func58 rfl rfl rfl) (c_WNumber (xs := le j.first 4) (v := j.epoch) (k := 4) (by omega) (by simp [le_length])) (by repeat (first | exact Pick.nil | apply Pick.keep (by repeat (first | exact List.Mem.head _ | apply List.Mem.tail)) (by first | exact Pers.cells _ _ _ | exact Pers.slv _ _ _) | apply Pick.cons (by repeat (first | exact Pick1.here | apply Pick1.there)))) rfl ?_)
  rintro _ _ ⟨rfl, rfl⟩
  refine WPL.putS ?_
  refine WPL.nil ?_
  refine WPC.seqR ?_
  refine L_s (q_move rfl) rfl ?_
  first | refine L_s (q_nilP rfl) rfl ?_ | refine L_s (q_nilF rfl) rfl ?_
  first | refine L_s (q_faK fa_journal_Journal_low rfl) rfl ?_ | refine L_s (q_fa fa_journal_Journal_low rfl) rfl ?_
  first | refine L_s (q_load1z ld_uint32 rfl (by repeat (first | exact List.Mem.head _ | apply List.Mem.tail)) (by rfl)) rfl ?_ | refine L_s (q_load1 ld_uint32 rfl (by repeat (first | exact List.Mem.head _ | apply List.Mem.tail)) rfl (by rfl)) rfl ?_
  first | refine L_s (q_convU in_uint32 in_uint64 rfl (by omega)) rfl ?_ | refine L_s (q_conv in_uint32 in_uint64 rfl) rfl ?_
  refine WPL.cons rfl (C1.call (c_call Tryd.func58 rfl rfl rfl) (c_WNumber (xs := le j.first 4 ++ le j.epoch 4) (v := j.low) (k := 4) (by omega) (by simp [le_length])) (by repeat (first | exact Pick.nil | apply Pick.keep (by repeat (first | exact List.Mem.head _ | apply List.Mem.tail)) (by first | exact Pers.cells _ _ _ | exact Pers.slv _ _ _) | apply Pick.cons (by repeat (first | exact Pick1.here | apply Pick1.there)))) rfl ?_)
  rintro _ _ ⟨rfl, rfl⟩
  refine WPL.putS ?_
  refine WPL.nil ?_
  refine WPC.seqD mixed ?_
  refine WPA.takeP 0 rfl (q_move rfl) (by kernel_rfl) (by kernel_rfl) (by kernel_rfl) rfl rfl (.nil _) ?_
  refine WPA.putS ?_
  first | refine WPA.takeP 1 rfl (q_nilP rfl) (by kernel_rfl) (by kernel_rfl) (by kernel_rfl) rfl rfl (.nil _) ?_ | refine WPA.takeP 1 rfl (q_nilF rfl) (by kernel_rfl) (by kernel_rfl) (by kernel_rfl) rfl rfl (.nil _) ?_
  refine WPA.putS ?_
  first | refine WPA.takeP 2 rfl (q_faK fa_journal_Journal_d rfl) (by kernel_rfl) (by kernel_rfl) (by kernel_rfl) rfl rfl (.nil _) ?_ | refine WPA.takeP 2 rfl (q_fa fa_journal_Journal_d rfl) (by kernel_rfl) (by kernel_rfl) (by kernel_rfl) rfl rfl (.nil _) ?_
  refine WPA.putS ?_
  first | refine WPA.takeL 3 rfl (Ent.mem (by repeat (first | exact List.Mem.head _ | apply List.Mem.tail))) (q_load1z ld_ptr_disk_Disk rfl (.head _) (by rfl)) (by kernel_rfl) (by kernel_rfl) (by kernel_rfl) rfl rfl (.nil _) ?_ | refine WPA.takeL 3 rfl (Ent.mem (by repeat (first | exact List.Mem.head _ | apply List.Mem.tail))) (q_load1 ld_ptr_disk_Disk rfl (.head _) rfl (by rfl)) (by kernel_rfl) (by kernel_rfl) (by kernel_rfl) rfl rfl (.nil _) ?_
  refine WPA.putS ?_
  refine WPA.takeP 4 rfl (q_move rfl) (by kernel_rfl) (by kernel_rfl) (by kernel_rfl) rfl rfl (.cons (Ent.mem (by repeat (first | exact List.Mem.head _ | apply List.Mem.tail))) (.nil _)) ?_
  refine WPA.putS ?_
  first | refine WPA.takeP 5 rfl (q_nilP rfl) (by kernel_rfl) (by kernel_rfl) (by kernel_rfl) rfl rfl (.cons (Ent.mem (by repeat (first | exact List.Mem.head _ | apply List.Mem.tail))) (.nil _)) ?_ | refine WPA.takeP 5 rfl (q_nilF rfl) (by kernel_rfl) (by kernel_rfl) (by kernel_rfl) rfl rfl (.cons (Ent.mem (by repeat (first | exact List.Mem.head _ | apply List.Mem.tail))) (.nil _)) ?_
  refine WPA.putS ?_
  first | refine WPA.takeP 6 rfl (q_faK fa_journal_Journal_at rfl) (by kernel_rfl) (by kernel_rfl) (by kernel_rfl) rfl rfl (.cons (Ent.mem (by repeat (first | exact List.Mem.head _ | apply List.Mem.tail))) (.nil _)) ?_ | refine WPA.takeP 6 rfl (q_fa fa_journal_Journal_at rfl) (by kernel_rfl) (by kernel_rfl) (by kernel_rfl) rfl rfl (.cons (Ent.mem (by repeat (first | exact List.Mem.head _ | apply List.Mem.tail))) (.nil _)) ?_
  refine WPA.putS ?_
  first | refine WPA.takeL 7 rfl (Ent.mem (by repeat (first | exact List.Mem.head _ | apply List.Mem.tail))) (q_load1z ld_int rfl (.head _) (by rfl)) (by kernel_rfl) (by kernel_rfl) (by kernel_rfl) rfl rfl (.cons (Ent.mem (by repeat (first | exact List.Mem.head _ | apply List.Mem.tail))) (.nil _)) ?_ | refine WPA.takeL 7 rfl (Ent.mem (by repeat (first | exact List.Mem.head _ | apply List.Mem.tail))) (q_load1 ld_int rfl (.head _) rfl (by rfl)) (by kernel_rfl) (by kernel_rfl) (by kernel_rfl) rfl rfl (.cons (Ent.mem (by repeat (first | exact List.Mem.head _ | apply List.Mem.tail))) (.nil _)) ?_
  refine WPA.putS ?_
  refine WPA.oneE 8 [(7, [_]), (3, [_])] (by kernel_rfl) rfl rfl (by repeat (first | exact .nil | refine .anc rfl ?_ | refine .keep (by repeat (first | exact List.Mem.head _ | apply List.Mem.tail)) ?_)) (C1.call (c_call Tryd.func60 rfl rfl rfl) (show Trip _ _ _ [wr bW 0 (le j.first 4 ++ le j.epoch 4 ++ le j.low 4)] (fun r Δ => ∃ a c, r = .slice a j.metaB.length c ∧ Sok 1 a j.metaB.length c (j.metaB.map u8) ∧ Δ = [sl false a (j.metaB.map u8), wr bW 0 j.metaB]) from c_WOut (xs := j.metaB) (by omega)) (by repeat (first | exact Pick.nil | apply Pick.keep (by repeat (first | exact List.Mem.head _ | apply List.Mem.tail)) (by first | exact Pers.cells _ _ _ | exact Pers.slv _ _ _) | apply Pick.cons (by repeat (first | exact Pick1.here | apply Pick1.there)))) rfl ?_)
  rintro _ _ ⟨a, c, rfl, hs, rfl⟩
  refine ⟨(.cons (Ent.mem (by repeat (first | exact List.Mem.head _ | apply List.Mem.tail))) (.cons (Ent.mem (by repeat (first | exact List.Mem.head _ | apply List.Mem.tail))) (.nil _))), ?_⟩
  refine WPA.putS ?_
  refine WPA.oneE 9 [] (by kernel_rfl) rfl rfl (by repeat (first | exact .nil | refine .anc rfl ?_ | refine .keep (by repeat (first | exact List.Mem.head _ | apply List.Mem.tail)) ?_)) (C1.call (c_call Tryd.func70 rfl rfl rfl) (show Trip _ _ _ [disk db d, sl false a (j.metaB.map u8), tblA] (fun r Δ => r = .int .i64 (jsave d j).2 ∧ Δ = [disk db (jsave d j).1]) from c_Save (i := (j.at_ : Int)) (by omega) hd hpl (by omega) hs) (by repeat (first | exact Pick.nil | apply Pick.keep (by repeat (first | exact List.Mem.head _ | apply List.Mem.tail)) (by first | exact Pers.cells _ _ _ | exact Pers.slv _ _ _) | apply Pick.cons (by repeat (first | exact Pick1.here | apply Pick1.there)))) rfl ?_)
  rintro _ _ ⟨rfl, rfl⟩
  refine ⟨(.nil _), ?_⟩
  refine WPA.putS ?_
  refine WPA.takeP 10 rfl (q_assign rfl) (by kernel_rfl) (by kernel_rfl) (by kernel_rfl) rfl rfl (.nil _) ?_
  refine WPA.putS ?_
  refine WPA.done (by kernel_rfl) ?_
  refine WPC.ret ?_
  exact endR_r rfl (.tmp rfl .nil) (Imp.pick (by repeat (first | exact Pick.nil | apply Pick.keep (by repeat (first | exact List.Mem.head _ | apply List.Mem.tail)) (by first | exact Pers.cells _ _ _ | exact Pers.slv _ _ _ | exact Pers.bytes _) | apply Pick.cons (by repeat (first | exact Pick1.here | apply Pick1.there))))) ⟨rfl, rfl⟩

theorem c_All_ {b db : Nat} {j : JN} {L : JL} (hL : JOk j L) (hn : L.rs.length ≤ 1000) (hb : ∀ r ∈ L.rs, r.x.bs.length ≤ 1000) (hs : Sok 2 L.a L.rs.length L.c (L.rs.flatMap encR)) : Trip Tryd.prog 11 #[.pointer (some ⟨b, 0, none⟩)] [cells true b 0 (jourC db j L), sl true L.a (L.rs.flatMap encR), bytes (L.rs.map (·.x))] fun r Δ => ∃ (a c : _) (ys : List BS), r = .slice a ys.length c ∧ Sok 1 a ys.length c (ys.map bsV) ∧ ys.map BS.bs = j.held.map (·.2) ∧ (∀ y ∈ ys, y.ok) ∧ Δ = [cells true b 0 (jourC db j L), sl true L.a (L.rs.flatMap encR), buf 1 a ys.length c (ys.map bsV), bytes ys] := by
  refine Trip.start 23 [.tmp 2] [(0, .pointer (some ⟨b, 0, none⟩))] Tryd.func11 rfl Tryd.ntmps11 rfl ⟨rfl, trivial⟩ rfl ?_
  refine WPC.seqR ?_
  refine L_s (q_assign rfl) rfl ?_
  refine WPL.nil ?_
  refine WPC.seqR ?_
  refine L_s (q_assign rfl) rfl ?_
  refine WPL.nil ?_
  refine WPC.imp ((Imp.bufNil (sz := 1)).trans bytes_nil) ?_
  refine WPC.seq ?_
  refine WPC.seqR ?_
  refine L_s (q_move rfl) rfl ?_
  first | refine L_s (q_nilP rfl) rfl ?_ | refine L_s (q_nilF rfl) rfl ?_
  first | refine L_s (q_faK fa_journal_Journal_held rfl) rfl ?_ | refine L_s (q_fa fa_journal_Journal_held rfl) rfl ?_
  first | refine L_s (q_load1z ld_sl_journal_record rfl (by repeat (first | exact List.Mem.head _ | apply List.Mem.tail)) (by rfl)) rfl ?_ | refine L_s (q_load1 ld_sl_journal_record rfl (by repeat (first | exact List.Mem.head _ | apply List.Mem.tail)) rfl (by rfl)) rfl ?_
  refine L_s (q_len rfl un_sl_journal_record rfl) rfl ?_
  refine L_s (q_move rfl) rfl ?_
  refine WPL.nil ?_
  refine WPC.block ?_
  refine WPC.loopS (fun m e Γ => ∃ (k : Nat) (a2 : Option Addr) (c2 : Nat) (ys : List BS), m = L.rs.length - k ∧ k ≤ L.rs.length ∧ ys.length = k ∧ ys.map BS.bs = (L.rs.take k).map (·.x.bs) ∧ (∀ y ∈ ys, y.ok) ∧ e = [(0, .pointer (some ⟨b, 0, none⟩)), (3, .slice a2 k c2), (9, .slice L.a L.rs.length L.c), (10, .int .i64 (L.rs.length : Int)), (11, .int .i64 (k : Int))] ∧ Γ = [cells true b 0 (jourC db j L), sl true L.a (L.rs.flatMap encR), bytes (L.rs.map (·.x)), buf 1 a2 k c2 (ys.map bsV), bytes ys]) (L.rs.length) ⟨0, none, 0, [], rfl, by omega, rfl, rfl, by simp, rfl, rfl⟩ (by repeat (first | exact trivial | refine ⟨rfl, ?_⟩)) (Imp.pick (by repeat (first | exact Pick.nil | apply Pick.keep (by repeat (first | exact List.Mem.head _ | apply List.Mem.tail)) (by first | exact Pers.cells _ _ _ | exact Pers.slv _ _ _) | apply Pick.cons (by repeat (first | exact Pick1.here | apply Pick1.there))))) ?_
  rintro m e Γ ⟨k, a2, c2, ys, rfl, hk, hyl, hye, hyo, rfl, rfl⟩
  refine WPC.seqR ?_
  refine L_s (q_int rfl rfl rfl) rfl ?_
  refine WPL.nil ?_
  refine WPC.seq ?_
  refine WPC.cond rfl (fun h0 => ?_) (fun h0 => ?_)
  · simp only [decide_eq_true_eq, Int.ofNat_lt] at h0
    have hp : Pl L.a := hs.at (by omega) (by omega)
    obtain ⟨r, hr⟩ : ∃ r, L.rs[k]? = some r := ⟨L.rs[k], by simp [h0]⟩
    have hrm := List.mem_of_getElem? hr
    have hro := hL.ok r hrm
    have hrn := hro.n
    have hrl := hb r hrm
    refine WPC.skip ?_
    refine thenQ_n ?_
    refine WPC.seq ?_
    refine WPC.block ?_
    refine WPC.seqR ?_
    refine L_s (q_idxN (i := k) sl_sl_journal_record rfl rfl h0 hp) rfl ?_
    refine L_s (q_ldFlat ld_journal_record rfl (by repeat (first | exact List.Mem.head _ | apply List.Mem.tail)) encR_len hr) rfl ?_
    refine WPL.cons rfl (E1.wpo (e_allocL zl_journal_record) rfl ?_)
    rintro _ _ ⟨bw, rfl, rfl⟩
    refine WPL.putS ?_
    refine WPL.cons rfl (S1.wpo (s_storeNz sz_journal_record rfl rfl (by simp [Value.oneCell']) rfl (by repeat (first | exact Upd.here | apply Upd.there)) (by repeat constructor)) rfl ?_)
    refine WPL.putN ?_
    refine WPL.nil ?_
    refine WPC.region ?_
    refine L_s (q_move rfl) rfl ?_
    first | refine L_s (q_faK fa_journal_record_b rfl) rfl ?_ | refine L_s (q_fa fa_journal_record_b rfl) rfl ?_
    first | refine L_s (q_load1z ld_sl_uint8 rfl (by repeat (first | exact List.Mem.head _ | apply List.Mem.tail)) (by rfl)) rfl ?_ | refine L_s (q_load1 ld_sl_uint8 rfl (by repeat (first | exact List.Mem.head _ | apply List.Mem.tail)) rfl (by rfl)) rfl ?_
    refine WPL.imp ((Imp.pick (Δ := [bytes (L.rs.map (·.x)), cells true bw 0 (encR r), cells true b 0 (jourC db j L), sl true L.a (L.rs.flatMap encR), buf 1 a2 k c2 (ys.map bsV), bytes ys]) (by repeat (first | exact Pick.nil | apply Pick.keep (by repeat (first | exact List.Mem.head _ | apply List.Mem.tail)) (by first | exact Pers.cells _ _ _ | exact Pers.slv _ _ _ | exact Pers.bytes _) | apply Pick.cons (by repeat (first | exact Pick1.here | apply Pick1.there))))).trans (bytes_one (List.mem_map.2 ⟨r, hrm, rfl⟩))) ?_
    refine WPL.cons rfl (C1.call (c_call Tryd.func33 rfl rfl rfl) (c_CloneB (p := false) hro (by omega)) (by repeat (first | exact Pick.nil | apply Pick.keep (by repeat (first | exact List.Mem.head _ | apply List.Mem.tail)) (by first | exact Pers.cells _ _ _ | exact Pers.slv _ _ _) | apply Pick.cons (by repeat (first | exact Pick1.here | apply Pick1.there)))) rfl ?_)
    rintro _ _ ⟨a3, c3, rfl, rfl⟩
    refine WPL.bufRo fun hs3 => ?_
    refine WPL.putS ?_
    refine WPL.cons rfl (E1.wpo (e_buildSlice mk_sl_sl_uint8 (by decide) rfl rfl rfl) rfl ?_)
    rintro _ _ ⟨bE, rfl, rfl⟩
    refine WPL.putS ?_
    refine WPL.cons rfl (E1.wpo (e_append (m := 1) (news := [bsV ⟨r.x.bs, a3, r.x.n, c3⟩]) mk_sl_sl_uint8 (by decide) rfl rfl (by repeat (first | exact Pick1.here | apply Pick1.there)) (Rd.part (i := 0) (b := bE) (o := 0) (vs := [bsV ⟨r.x.bs, a3, r.x.n, c3⟩]) (by repeat (first | exact List.Mem.head _ | apply List.Mem.tail)) rfl rfl rfl) (by simp [Value.oneCell']) (by omega) (by omega)) rfl ?_)
    rintro _ _ ⟨a4, c4, rfl, -, rfl⟩
    rw [show ys.map bsV ++ [bsV ⟨r.x.bs, a3, r.x.n, c3⟩] = (ys ++ [(⟨r.x.bs, a3, r.x.n, c3⟩ : BS)]).map bsV by simp]
    refine WPL.putS ?_
    refine L_s (q_assign rfl) rfl ?_
    refine WPL.nil ?_
    refine blockQ_n ?_
    refine thenQ_n ?_
    refine WPC.region ?_
    refine WPL.imp ((Imp.pick (Δ := [BS.at_ ⟨r.x.bs, a3, r.x.n, c3⟩, bytes ys, cells true b 0 (jourC db j L), sl true L.a (L.rs.flatMap encR), bytes (L.rs.map (·.x)), buf 1 a4 (k + 1) c4 ((ys ++ [(⟨r.x.bs, a3, r.x.n, c3⟩ : BS)]).map bsV)]) (by repeat (first | exact Pick.nil | apply Pick.keep (by repeat (first | exact List.Mem.head _ | apply List.Mem.tail)) (by first | exact Pers.cells _ _ _ | exact Pers.slv _ _ _ | exact Pers.bytes _) | apply Pick.cons (by repeat (first | exact Pick1.here | apply Pick1.there))))).trans bytes_snoc) ?_
    first | refine L_s (q_inc rfl rfl (by omega)) rfl ?_ | refine L_s (q_addI rfl rfl (by omega)) rfl ?_ | refine L_s (q_int rfl rfl rfl) rfl ?_
    refine L_s (q_move rfl) rfl ?_
    refine WPL.nil ?_
    refine thenQ_n ?_
    exact ⟨rfl, _, _, _, by omega, ⟨k + 1, a4, c4, ys ++ [⟨r.x.bs, a3, r.x.n, c3⟩], rfl, by omega, by simp [hyl], by rw [take_succ hr]; simp [hye], by intro y hy; rcases List.mem_append.1 hy with hy | hy; exact hyo y hy; rw [List.mem_singleton.1 hy]; exact hs3, rfl, rfl⟩, (by repeat (first | exact trivial | refine ⟨rfl, ?_⟩)), Imp.pick (by repeat (first | exact Pick.nil | apply Pick.keep (by repeat (first | exact List.Mem.head _ | apply List.Mem.tail)) (by first | exact Pers.cells _ _ _ | exact Pers.slv _ _ _) | apply Pick.cons (by repeat (first | exact Pick1.here | apply Pick1.there))))⟩
  · simp only [decide_eq_false_iff_not, Int.ofNat_lt] at h0
    have hk2 : k = L.rs.length := by omega
    refine WPC.exit ?_
    refine thenQ_e ?_
    refine thenQ_e ?_
    refine blockQ_here ?_
    refine thenQ_n ?_
    refine WPC.seqR ?_
    refine L_s (q_move rfl) rfl ?_
    refine L_s (q_assign rfl) rfl ?_
    refine WPL.nil ?_
    refine WPC.bufFact (by repeat (first | exact List.Mem.head _ | apply List.Mem.tail)) fun hsb => ?_
    refine WPC.ret ?_
    rw [List.take_of_length_le (by omega)] at hye
    have hye2 : ys.map BS.bs = j.held.map (·.2) := by rw [hye, ← hL.held]; simp
    subst hyl
    exact endR_r rfl (.tmp rfl .nil) (Imp.pick (by repeat (first | exact Pick.nil | apply Pick.keep (by repeat (first | exact List.Mem.head _ | apply List.Mem.tail)) (by first | exact Pers.cells _ _ _ | exact Pers.slv _ _ _ | exact Pers.bytes _) | apply Pick.cons (by repeat (first | exact Pick1.here | apply Pick1.there))))) ⟨a2, c2, ys, rfl, hsb, hye2, hyo, rfl⟩

end Go.Sl
