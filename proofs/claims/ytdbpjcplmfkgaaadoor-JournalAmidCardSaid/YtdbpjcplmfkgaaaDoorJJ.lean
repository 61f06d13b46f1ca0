/- Walks: journals that change. -/
import Derived.Test.YtdbpjcplmfkgaaaDoorJI
namespace Go.Sl
open Go Go.RowKit Go.Proofs
set_option linter.unusedSimpArgs false
set_option linter.unusedVariables false
attribute [local irreducible] faB szB ldB zB zL slB mkB arB plB intB cells objc star stars buf slv grp whole Sat WPC WPL WPA WPO Trip

theorem c_Delete {a : Option Addr} {n c k : Nat} {rs : List JR} {sp : List Value} (hs : Sok 2 a n c (rs.flatMap encR)) (hn : rs.length = n) (hk : k ≤ n) (hn2 : n ≤ 1000) (hsp : sp.length = (c - n) * 2) : Trip Tryd.prog 45 #[.slice a n c, .int .i64 0, .int .i64 (k : Int)] [cells true (blk a) (off a) (rs.flatMap encR ++ sp)] fun r Δ => ∃ sp', r = .slice a (n - k) c ∧ sp'.length = (c - (n - k)) * 2 ∧ Δ = [cells true (blk a) (off a) (((rs.drop k).flatMap encR) ++ sp')] := by
  have hcap := hs.cap
  refine Trip.start 33 [.tmp 6] [(0, .slice a n c), (1, .int .i64 0), (2, .int .i64 (k : Int))] Tryd.func45 rfl Tryd.ntmps45 rfl ⟨rfl, rfl, rfl, trivial⟩ rfl ?_
  refine WPC.seqR ?_
  refine L_s (q_assign rfl) rfl ?_
  refine WPL.nil ?_
  refine WPC.seqR ?_
  refine L_s (q_move rfl) rfl ?_
  refine L_s (q_move rfl) rfl ?_
  refine L_s (q_move rfl) rfl ?_
  refine L_s (q_move rfl) rfl ?_
  refine L_s (q_len rfl un_sl_journal_record rfl) rfl ?_
  refine L_s (q_slice sl_sl_journal_record rfl rfl rfl rfl (by first | (simp; done) | (simp; omega)) (by first | (simp; done) | (simp; omega)) (by first | (simp; done) | (simp; omega)) (by first | (simp; done) | (simp; omega)) (by simp)) rfl ?_
  refine WPL.nil ?_
  refine WPC.seq ?_
  refine WPC.seqR ?_
  refine L_s (q_move rfl) rfl ?_
  refine L_s (q_move rfl) rfl ?_
  refine L_s (q_int rfl rfl rfl) rfl ?_
  refine WPL.nil ?_
  refine WPC.cond rfl (fun h0 => ?_) (fun h0 => ?_)
  · have hk0 : k = 0 := by simp at h0; omega
    subst hk0
    refine WPC.seqR ?_
    refine L_s (q_move rfl) rfl ?_
    refine L_s (q_assign rfl) rfl ?_
    refine WPL.nil ?_
    refine WPC.ret ?_
    refine thenQ_r ?_
    exact endR_r rfl (.tmp rfl .nil) (Imp.pick (by repeat (first | exact Pick.nil | apply Pick.keep (by repeat (first | exact List.Mem.head _ | apply List.Mem.tail)) (by first | exact Pers.cells _ _ _ | exact Pers.slv _ _ _ | exact Pers.bytes _) | apply Pick.cons (by repeat (first | exact Pick1.here | apply Pick1.there))))) ⟨sp, rfl, hsp, rfl⟩
  · have hk0 : 0 < k := by simp at h0; omega
    have hp : Pl a := hs.at (by omega) (by omega)
    obtain ⟨ab, ao, rfl⟩ : ∃ ab ao, a = some ⟨ab, ao, none⟩ := ⟨blk a, off a, hp⟩
    dsimp only [blk, off]
    refine WPC.skip ?_
    refine thenQ_n ?_
    refine WPC.seqR ?_
    refine L_s (q_move rfl) rfl ?_
    refine L_s (q_len rfl un_sl_journal_record rfl) rfl ?_
    refine L_s (q_assign rfl) rfl ?_
    refine WPL.nil ?_
    refine WPC.seqD mixed ?_
    refine WPA.takeP 0 rfl (q_move rfl) (by kernel_rfl) (by kernel_rfl) (by kernel_rfl) rfl rfl (.nil _) ?_
    refine WPA.putS ?_
    refine WPA.takeP 1 rfl (q_move rfl) (by kernel_rfl) (by kernel_rfl) (by kernel_rfl) rfl rfl (.nil _) ?_
    refine WPA.putS ?_
    refine WPA.takeP 2 rfl (q_sliceHi (j := 0) sl_sl_journal_record rfl rfl (by omega)) (by kernel_rfl) (by kernel_rfl) (by kernel_rfl) rfl rfl (.nil _) ?_
    refine WPA.putS ?_
    refine WPA.takeP 3 rfl (q_move rfl) (by kernel_rfl) (by kernel_rfl) (by kernel_rfl) rfl rfl (.nil _) ?_
    refine WPA.putS ?_
    refine WPA.takeP 4 rfl (q_move rfl) (by kernel_rfl) (by kernel_rfl) (by kernel_rfl) rfl rfl (.nil _) ?_
    refine WPA.putS ?_
    refine WPA.takeP 5 rfl (q_sliceLoC (l := k) sl_sl_journal_record rfl rfl hk hcap) (by kernel_rfl) (by kernel_rfl) (by kernel_rfl) rfl rfl (.nil _) ?_
    refine WPA.putS ?_
    refine WPA.oneE 6 [] (by kernel_rfl) rfl rfl (by repeat (first | exact .nil | refine .anc rfl ?_ | refine .keep (by repeat (first | exact List.Mem.head _ | apply List.Mem.tail)) ?_)) (E1.wpo (e_appendRoom (b := ab) (o := ao) (i := 0) (n := 0) (c := c) (m := n - k) (vs := (rs.flatMap encR ++ sp)) (news := ((rs.drop k).flatMap encR)) mk_sl_journal_record rfl rfl (rd_cut (by repeat (first | exact List.Mem.head _ | apply List.Mem.tail)) hk hn hcap) (encR_one _) (by omega) (by show 0 + (0 + (n - k)) * 2 ≤ _; rw [List.length_append, flat_length encR_len, hn, hsp]; omega) (by repeat (first | exact Upd.here | apply Upd.there))) rfl ?_)
    rintro _ _ ⟨rfl, rfl⟩
    rw [show ao + 0 = ao from rfl, show 0 + (n - k) = n - k by omega, show ((rs.flatMap encR ++ sp).take (0 + 0 * [Value.int .u32 0, Value.slice none 0 0].length) ++ ((rs.drop k).flatMap encR) ++ (rs.flatMap encR ++ sp).drop (0 + (n - k) * [Value.int .u32 0, Value.slice none 0 0].length)) = (((rs.drop k).flatMap encR) ++ (rs.flatMap encR ++ sp).drop ((n - k) * 2)) by simp]
    refine ⟨(.nil _), ?_⟩
    refine WPA.putS ?_
    refine WPA.takeP 7 rfl (q_assign rfl) (by kernel_rfl) (by kernel_rfl) (by kernel_rfl) rfl rfl (.nil _) ?_
    refine WPA.putS ?_
    refine WPA.done (by kernel_rfl) ?_
    refine WPC.seqR ?_
    refine L_s (q_move rfl) rfl ?_
    refine L_s (q_move rfl) rfl ?_
    refine L_s (q_len rfl un_sl_journal_record rfl) rfl ?_
    refine L_s (q_move rfl) rfl ?_
    refine L_s (q_sliceLH (l := n - k) (j := n) sl_sl_journal_record rfl rfl rfl (by omega) hcap) rfl ?_
    rw [cut_pl (Pl.mk ab ao) (show c ≠ n - k by omega)]
    simp only [blk_some, off_some]
    refine WPL.cons rfl (E1.wpo (e_clear (b := ab) (o := ao) (i := (n - k) * 2) (m := n - (n - k)) (vs := (((rs.drop k).flatMap encR) ++ (rs.flatMap encR ++ sp).drop ((n - k) * 2))) mk_sl_journal_record (by decide) (by simp [Value.oneCell']) rfl (by omega) (by show (n - k) * 2 + (n - (n - k)) * 2 ≤ _; rw [List.length_append, List.length_drop, List.length_append, flat_length encR_len, flat_length encR_len, List.length_drop, hn, hsp]; omega) (by repeat (first | exact Upd.here | apply Upd.there))) rfl ?_)
    rintro _ _ ⟨rfl, rfl⟩
    rw [show n - (n - k) = k by omega, show ((((rs.drop k).flatMap encR) ++ (rs.flatMap encR ++ sp).drop ((n - k) * 2)).take ((n - k) * 2) ++ repZ [Value.int .u32 0, Value.slice none 0 0] k ++ (((rs.drop k).flatMap encR) ++ (rs.flatMap encR ++ sp).drop ((n - k) * 2)).drop ((n - k) * 2 + k * [Value.int .u32 0, Value.slice none 0 0].length)) = ((rs.drop k).flatMap encR) ++ (repZ [Value.int .u32 0, Value.slice none 0 0] k ++ sp) from del_list hk hn]
    refine WPL.putN ?_
    refine WPL.nil ?_
    refine WPC.prune [(0, _), (6, _)] (by repeat (first | exact trivial | refine ⟨rfl, ?_⟩)) ?_
    refine WPC.seqR ?_
    refine L_s (q_move rfl) rfl ?_
    refine L_s (q_assign rfl) rfl ?_
    refine WPL.nil ?_
    refine WPC.ret ?_
    exact endR_r rfl (.tmp rfl .nil) (Imp.pick (by repeat (first | exact Pick.nil | apply Pick.keep (by repeat (first | exact List.Mem.head _ | apply List.Mem.tail)) (by first | exact Pers.cells _ _ _ | exact Pers.slv _ _ _ | exact Pers.bytes _) | apply Pick.cons (by repeat (first | exact Pick1.here | apply Pick1.there))))) ⟨repZ [Value.int .u32 0, Value.slice none 0 0] k ++ sp, rfl, by rw [List.length_append, repZ_length, hsp]; show k * 2 + _ = _; omega, rfl⟩

theorem c_JAppend {b db : Nat} {j : JN} {d : DK} (hj : j.ok d) (hd : d.ok) (hpl : d.pend.length < 800000) {a : Option Addr} {c : Nat} {xs : List By} (hs : Sok 1 a xs.length c (xs.map u8)) : Trip Tryd.prog 12 #[.pointer (some ⟨b, 0, none⟩), .slice a xs.length c] [jour b db j, disk db d, tblA, sl false a (xs.map u8)] fun r Δ => r = .int .i64 (jappend d j xs).2.2 ∧ Δ = [jour b db (jappend d j xs).2.1, disk db (jappend d j xs).1] := by
  refine jour_open fun L hL => ?_
  obtain ⟨rs, la, lc⟩ := L
  obtain ⟨hheld, hrok⟩ := hL
  dsimp only at hheld hrok
  have hlen : rs.length = j.held.length := by rw [← hheld, List.length_map]
  have q1 := hj.first
  have q2 := hj.epoch
  have q3 := hj.low
  have q4 := hj.at_
  have q5 := hj.n
  have q6 := hj.held
  have q7 := hd.n
  refine Trip.start 66 [.tmp 4] [(0, .pointer (some ⟨b, 0, none⟩)), (1, .slice a xs.length c)] Tryd.func12 rfl Tryd.ntmps12 rfl ⟨rfl, rfl, trivial⟩ rfl ?_
  refine WPC.seqR ?_
  refine L_s (q_assign rfl) rfl ?_
  refine WPL.nil ?_
  refine WPC.seq ?_
  refine WPC.block ?_
  refine WPC.seqR ?_
  refine L_s (q_move rfl) rfl ?_
  refine L_s (q_len rfl un_sl_uint8 rfl) rfl ?_
  refine L_s (q_int rfl rfl rfl) rfl ?_
  refine L_s (q_assign rfl) rfl ?_
  refine WPL.nil ?_
  refine WPC.cond rfl (fun h0 => ?_) (fun h0 => ?_)
  · have ea : jappend d j xs = (d, j, 2) := by unfold jappend; rw [if_pos (by simp at h0; omega)]
    rw [ea]
    refine WPC.seqR ?_
    refine L_s (q_assign rfl) rfl ?_
    refine WPL.nil ?_
    refine WPC.ret ?_
    refine blockQ_r ?_
    refine thenQ_r ?_
    exact endR_r rfl (.tmp rfl .nil) ((Imp.pick (by repeat (first | exact Pick.nil | apply Pick.keep (by repeat (first | exact List.Mem.head _ | apply List.Mem.tail)) (by first | exact Pers.cells _ _ _ | exact Pers.slv _ _ _ | exact Pers.bytes _) | apply Pick.cons (by repeat (first | exact Pick1.here | apply Pick1.there))))).trans (jour_close (b := b) (db := db) (j := j) ⟨rs, la, lc⟩ ⟨hheld, hrok⟩ (Γ := [disk db d]))) ⟨rfl, rfl⟩
  · have hx43 : xs.length ≤ 43 := by simp at h0; omega
    refine WPC.seqD mixed ?_
    refine WPA.takeP 0 rfl (q_move rfl) (by kernel_rfl) (by kernel_rfl) (by kernel_rfl) rfl rfl (.nil _) ?_
    refine WPA.putS ?_
    first | refine WPA.takeP 1 rfl (q_nilP rfl) (by kernel_rfl) (by kernel_rfl) (by kernel_rfl) rfl rfl (.nil _) ?_ | refine WPA.takeP 1 rfl (q_nilF rfl) (by kernel_rfl) (by kernel_rfl) (by kernel_rfl) rfl rfl (.nil _) ?_
    refine WPA.putS ?_
    first | refine WPA.takeP 2 rfl (q_faK fa_journal_Journal_held rfl) (by kernel_rfl) (by kernel_rfl) (by kernel_rfl) rfl rfl (.nil _) ?_ | refine WPA.takeP 2 rfl (q_fa fa_journal_Journal_held rfl) (by kernel_rfl) (by kernel_rfl) (by kernel_rfl) rfl rfl (.nil _) ?_
    refine WPA.putS ?_
    first | refine WPA.takeL 3 rfl (Ent.mem (by repeat (first | exact List.Mem.head _ | apply List.Mem.tail))) (q_load1z ld_sl_journal_record rfl (.head _) (by rfl)) (by kernel_rfl) (by kernel_rfl) (by kernel_rfl) rfl rfl (.nil _) ?_ | refine WPA.takeL 3 rfl (Ent.mem (by repeat (first | exact List.Mem.head _ | apply List.Mem.tail))) (q_load1 ld_sl_journal_record rfl (.head _) rfl (by rfl)) (by kernel_rfl) (by kernel_rfl) (by kernel_rfl) rfl rfl (.nil _) ?_
    refine WPA.putS ?_
    refine WPA.takeP 4 rfl (q_len rfl un_sl_journal_record rfl) (by kernel_rfl) (by kernel_rfl) (by kernel_rfl) rfl rfl (.cons (Ent.mem (by repeat (first | exact List.Mem.head _ | apply List.Mem.tail))) (.nil _)) ?_
    refine WPA.putS ?_
    refine WPA.takeP 5 rfl (q_move rfl) (by kernel_rfl) (by kernel_rfl) (by kernel_rfl) rfl rfl (.cons (Ent.mem (by repeat (first | exact List.Mem.head _ | apply List.Mem.tail))) (.nil _)) ?_
    refine WPA.putS ?_
    first | refine WPA.takeP 6 rfl (q_nilP rfl) (by kernel_rfl) (by kernel_rfl) (by kernel_rfl) rfl rfl (.cons (Ent.mem (by repeat (first | exact List.Mem.head _ | apply List.Mem.tail))) (.nil _)) ?_ | refine WPA.takeP 6 rfl (q_nilF rfl) (by kernel_rfl) (by kernel_rfl) (by kernel_rfl) rfl rfl (.cons (Ent.mem (by repeat (first | exact List.Mem.head _ | apply List.Mem.tail))) (.nil _)) ?_
    refine WPA.putS ?_
    first | refine WPA.takeP 7 rfl (q_faK fa_journal_Journal_n rfl) (by kernel_rfl) (by kernel_rfl) (by kernel_rfl) rfl rfl (.cons (Ent.mem (by repeat (first | exact List.Mem.head _ | apply List.Mem.tail))) (.nil _)) ?_ | refine WPA.takeP 7 rfl (q_fa fa_journal_Journal_n rfl) (by kernel_rfl) (by kernel_rfl) (by kernel_rfl) rfl rfl (.cons (Ent.mem (by repeat (first | exact List.Mem.head _ | apply List.Mem.tail))) (.nil _)) ?_
    refine WPA.putS ?_
    first | refine WPA.takeL 8 rfl (Ent.mem (by repeat (first | exact List.Mem.head _ | apply List.Mem.tail))) (q_load1z ld_int rfl (.head _) (by rfl)) (by kernel_rfl) (by kernel_rfl) (by kernel_rfl) rfl rfl (.cons (Ent.mem (by repeat (first | exact List.Mem.head _ | apply List.Mem.tail))) (.nil _)) ?_ | refine WPA.takeL 8 rfl (Ent.mem (by repeat (first | exact List.Mem.head _ | apply List.Mem.tail))) (q_load1 ld_int rfl (.head _) rfl (by rfl)) (by kernel_rfl) (by kernel_rfl) (by kernel_rfl) rfl rfl (.cons (Ent.mem (by repeat (first | exact List.Mem.head _ | apply List.Mem.tail))) (.nil _)) ?_
    refine WPA.putS ?_
    refine WPA.takeP 9 rfl (q_int rfl rfl rfl) (by kernel_rfl) (by kernel_rfl) (by kernel_rfl) rfl rfl (.cons (Ent.mem (by repeat (first | exact List.Mem.head _ | apply List.Mem.tail))) (.cons (Ent.mem (by repeat (first | exact List.Mem.head _ | apply List.Mem.tail))) (.nil _))) ?_
    refine WPA.putS ?_
    refine WPA.takeP 10 rfl (q_move rfl) (by kernel_rfl) (by kernel_rfl) (by kernel_rfl) rfl rfl (.cons (Ent.mem (by repeat (first | exact List.Mem.head _ | apply List.Mem.tail))) (.cons (Ent.mem (by repeat (first | exact List.Mem.head _ | apply List.Mem.tail))) (.nil _))) ?_
    refine WPA.putS ?_
    refine WPA.split 23 _ rfl (fun g3_10 => ?_) (fun g3_10 => ?_)
    · skip
      refine WPA.takeN 11 rfl rfl rfl rfl rfl (by kernel_rfl) (by kernel_rfl) (by kernel_rfl) rfl (.cons (Ent.mem (by repeat (first | exact List.Mem.head _ | apply List.Mem.tail))) (.cons (Ent.mem (by repeat (first | exact List.Mem.head _ | apply List.Mem.tail))) (.nil _))) ?_
      refine WPA.putS ?_
      refine WPA.takeN 12 rfl rfl rfl rfl rfl (by kernel_rfl) (by kernel_rfl) (by kernel_rfl) rfl (.cons (Ent.mem (by repeat (first | exact List.Mem.head _ | apply List.Mem.tail))) (.cons (Ent.mem (by repeat (first | exact List.Mem.head _ | apply List.Mem.tail))) (.nil _))) ?_
      refine WPA.putS ?_
      refine WPA.takeN 13 rfl rfl rfl rfl rfl (by kernel_rfl) (by kernel_rfl) (by kernel_rfl) rfl (.cons (Ent.mem (by repeat (first | exact List.Mem.head _ | apply List.Mem.tail))) (.cons (Ent.mem (by repeat (first | exact List.Mem.head _ | apply List.Mem.tail))) (.nil _))) ?_
      refine WPA.putS ?_
      first | refine WPA.takeP 14 rfl (q_pickT rfl rfl) (by kernel_rfl) (by kernel_rfl) (by kernel_rfl) rfl rfl (.cons (Ent.mem (by repeat (first | exact List.Mem.head _ | apply List.Mem.tail))) (.cons (Ent.mem (by repeat (first | exact List.Mem.head _ | apply List.Mem.tail))) (.nil _))) ?_ | refine WPA.takeP 14 rfl (q_pickF rfl rfl) (by kernel_rfl) (by kernel_rfl) (by kernel_rfl) rfl rfl (.cons (Ent.mem (by repeat (first | exact List.Mem.head _ | apply List.Mem.tail))) (.cons (Ent.mem (by repeat (first | exact List.Mem.head _ | apply List.Mem.tail))) (.nil _))) ?_
      refine WPA.putS ?_
      refine WPA.takeP 15 rfl (q_assign rfl) (by kernel_rfl) (by kernel_rfl) (by kernel_rfl) rfl rfl (.cons (Ent.mem (by repeat (first | exact List.Mem.head _ | apply List.Mem.tail))) (.cons (Ent.mem (by repeat (first | exact List.Mem.head _ | apply List.Mem.tail))) (.nil _))) ?_
      refine WPA.putS ?_
      refine WPA.done (by kernel_rfl) ?_
      refine WPC.cond rfl (fun h1 => ?_) (fun h1 => ?_)
      · have ea : jappend d j xs = (d, j, 42) := by unfold jappend; rw [if_neg (by omega), if_pos (by simp at g3_10; omega)]
        rw [ea]
        refine WPC.seqR ?_
        refine L_s (q_assign rfl) rfl ?_
        refine WPL.nil ?_
        refine WPC.ret ?_
        refine blockQ_r ?_
        refine thenQ_r ?_
        exact endR_r rfl (.tmp rfl .nil) ((Imp.pick (by repeat (first | exact Pick.nil | apply Pick.keep (by repeat (first | exact List.Mem.head _ | apply List.Mem.tail)) (by first | exact Pers.cells _ _ _ | exact Pers.slv _ _ _ | exact Pers.bytes _) | apply Pick.cons (by repeat (first | exact Pick1.here | apply Pick1.there))))).trans (jour_close (b := b) (db := db) (j := j) ⟨rs, la, lc⟩ ⟨hheld, hrok⟩ (Γ := [disk db d]))) ⟨rfl, rfl⟩
      · skip
        simp at h1
    · skip
      refine WPA.takePY 11 rfl rfl rfl rfl (q_move rfl) (by kernel_rfl) (by kernel_rfl) (by kernel_rfl) rfl (.cons (Ent.mem (by repeat (first | exact List.Mem.head _ | apply List.Mem.tail))) (.cons (Ent.mem (by repeat (first | exact List.Mem.head _ | apply List.Mem.tail))) (.nil _))) ?_
      refine WPA.putS ?_
      refine WPA.oneY 12 [] (by kernel_rfl) rfl rfl rfl rfl (by repeat (first | exact .nil | refine .anc rfl ?_ | refine .keep (by repeat (first | exact List.Mem.head _ | apply List.Mem.tail)) ?_)) (C1.call (c_call Tryd.func34 rfl rfl rfl) (c_next (L := ⟨rs, la, lc⟩) hlen q1 (by omega)) (by repeat (first | exact Pick.nil | apply Pick.keep (by repeat (first | exact List.Mem.head _ | apply List.Mem.tail)) (by first | exact Pers.cells _ _ _ | exact Pers.slv _ _ _) | apply Pick.cons (by repeat (first | exact Pick1.here | apply Pick1.there)))) rfl ?_)
      rintro _ _ ⟨rfl, rfl⟩
      refine ⟨(.nil _), ?_⟩
      refine WPA.putS ?_
      refine WPA.takePY 13 rfl rfl rfl rfl (q_int rfl rfl rfl) (by kernel_rfl) (by kernel_rfl) (by kernel_rfl) rfl (.nil _) ?_
      refine WPA.putS ?_
      first | refine WPA.takeP 14 rfl (q_pickT rfl rfl) (by kernel_rfl) (by kernel_rfl) (by kernel_rfl) rfl rfl (.nil _) ?_ | refine WPA.takeP 14 rfl (q_pickF rfl rfl) (by kernel_rfl) (by kernel_rfl) (by kernel_rfl) rfl rfl (.nil _) ?_
      refine WPA.putS ?_
      refine WPA.takeP 15 rfl (q_assign rfl) (by kernel_rfl) (by kernel_rfl) (by kernel_rfl) rfl rfl (.nil _) ?_
      refine WPA.putS ?_
      refine WPA.done (by kernel_rfl) ?_
      refine WPC.cond rfl (fun h1 => ?_) (fun h1 => ?_)
      · have ea : jappend d j xs = (d, j, 42) := by unfold jappend; rw [if_neg (by omega), if_pos (by simp at h1; omega)]
        rw [ea]
        refine WPC.seqR ?_
        refine L_s (q_assign rfl) rfl ?_
        refine WPL.nil ?_
        refine WPC.ret ?_
        refine blockQ_r ?_
        refine thenQ_r ?_
        exact endR_r rfl (.tmp rfl .nil) ((Imp.pick (by repeat (first | exact Pick.nil | apply Pick.keep (by repeat (first | exact List.Mem.head _ | apply List.Mem.tail)) (by first | exact Pers.cells _ _ _ | exact Pers.slv _ _ _ | exact Pers.bytes _) | apply Pick.cons (by repeat (first | exact Pick1.here | apply Pick1.there))))).trans (jour_close (b := b) (db := db) (j := j) ⟨rs, la, lc⟩ ⟨hheld, hrok⟩ (Γ := [disk db d]))) ⟨rfl, rfl⟩
      · have hnm : j.next ≤ 4294967295 := by simp at h1; omega
        have hnn : j.held.length ≠ j.n := by simp at g3_10; omega
        have ea : jappend d j xs = ((d.write (j.place j.next) (stamp j.next j.epoch xs)).1, ({ j with held := j.held ++ [(j.epoch, xs)] } : JN), (d.write (j.place j.next) (stamp j.next j.epoch xs)).2) := by unfold jappend; rw [if_neg (by omega), if_neg (by omega)]
        rw [ea]
        refine WPC.skip ?_
        refine blockQ_n ?_
        refine thenQ_n ?_
        refine WPC.seqR ?_
        refine L_s (q_move rfl) rfl ?_
        refine WPL.cons rfl (C1.call (c_call Tryd.func34 rfl rfl rfl) (c_next (L := ⟨rs, la, lc⟩) hlen q1 (by omega)) (by repeat (first | exact Pick.nil | apply Pick.keep (by repeat (first | exact List.Mem.head _ | apply List.Mem.tail)) (by first | exact Pers.cells _ _ _ | exact Pers.slv _ _ _) | apply Pick.cons (by repeat (first | exact Pick1.here | apply Pick1.there)))) rfl ?_)
        rintro _ _ ⟨rfl, rfl⟩
        refine WPL.putS ?_
        first | refine L_s (q_conv32 in_uint64 in_uint32 rfl (by omega)) rfl ?_ | refine L_s (q_conv in_uint64 in_uint32 rfl) rfl ?_
        refine L_s (q_assign rfl) rfl ?_
        refine WPL.nil ?_
        refine WPC.prune [(0, _), (1, _), (4, _), (5, _)] (by repeat (first | exact trivial | refine ⟨rfl, ?_⟩)) ?_
        refine WPC.seqR ?_
        refine L_s (q_move rfl) rfl ?_
        refine L_s (q_move rfl) rfl ?_
        first | refine L_s (q_nilP rfl) rfl ?_ | refine L_s (q_nilF rfl) rfl ?_
        first | refine L_s (q_faK fa_journal_Journal_epoch rfl) rfl ?_ | refine L_s (q_fa fa_journal_Journal_epoch rfl) rfl ?_
        first | refine L_s (q_load1z ld_uint32 rfl (by repeat (first | exact List.Mem.head _ | apply List.Mem.tail)) (by rfl)) rfl ?_ | refine L_s (q_load1 ld_uint32 rfl (by repeat (first | exact List.Mem.head _ | apply List.Mem.tail)) rfl (by rfl)) rfl ?_
        refine L_s (q_move rfl) rfl ?_
        refine WPL.cons rfl (C1.call (c_call Tryd.func35 rfl rfl rfl) (c_Stamp (seq := j.next) (epoch := j.epoch) hs (by omega) q2 hx43) (by repeat (first | exact Pick.nil | apply Pick.keep (by repeat (first | exact List.Mem.head _ | apply List.Mem.tail)) (by first | exact Pers.cells _ _ _ | exact Pers.slv _ _ _) | apply Pick.cons (by repeat (first | exact Pick1.here | apply Pick1.there)))) rfl ?_)
        rintro _ _ ⟨a2, c2, rfl, hs2, rfl⟩
        refine WPL.putS ?_
        refine L_s (q_move rfl) rfl ?_
        refine L_s (q_extract rfl rfl) rfl ?_
        refine L_s (q_extract rfl rfl) rfl ?_
        refine L_s (q_assign rfl) rfl ?_
        refine L_s (q_assign rfl) rfl ?_
        refine WPL.nil ?_
        refine WPC.seqD mixed ?_
        refine WPA.takeP 0 rfl (q_move rfl) (by kernel_rfl) (by kernel_rfl) (by kernel_rfl) rfl rfl (.nil _) ?_
        refine WPA.putS ?_
        refine WPA.takeP 1 rfl (q_move rfl) (by kernel_rfl) (by kernel_rfl) (by kernel_rfl) rfl rfl (.nil _) ?_
        refine WPA.putS ?_
        first | refine WPA.takeP 2 rfl (q_nilP rfl) (by kernel_rfl) (by kernel_rfl) (by kernel_rfl) rfl rfl (.nil _) ?_ | refine WPA.takeP 2 rfl (q_nilF rfl) (by kernel_rfl) (by kernel_rfl) (by kernel_rfl) rfl rfl (.nil _) ?_
        refine WPA.putS ?_
        first | refine WPA.takeP 3 rfl (q_faK fa_journal_Journal_held rfl) (by kernel_rfl) (by kernel_rfl) (by kernel_rfl) rfl rfl (.nil _) ?_ | refine WPA.takeP 3 rfl (q_fa fa_journal_Journal_held rfl) (by kernel_rfl) (by kernel_rfl) (by kernel_rfl) rfl rfl (.nil _) ?_
        refine WPA.putS ?_
        first | refine WPA.takeL 4 rfl (Ent.mem (by repeat (first | exact List.Mem.head _ | apply List.Mem.tail))) (q_load1z ld_sl_journal_record rfl (.head _) (by rfl)) (by kernel_rfl) (by kernel_rfl) (by kernel_rfl) rfl rfl (.nil _) ?_ | refine WPA.takeL 4 rfl (Ent.mem (by repeat (first | exact List.Mem.head _ | apply List.Mem.tail))) (q_load1 ld_sl_journal_record rfl (.head _) rfl (by rfl)) (by kernel_rfl) (by kernel_rfl) (by kernel_rfl) rfl rfl (.nil _) ?_
        refine WPA.putS ?_
        refine WPA.takeP 5 rfl (q_move rfl) (by kernel_rfl) (by kernel_rfl) (by kernel_rfl) rfl rfl (.cons (Ent.mem (by repeat (first | exact List.Mem.head _ | apply List.Mem.tail))) (.nil _)) ?_
        refine WPA.putS ?_
        first | refine WPA.takeP 6 rfl (q_nilP rfl) (by kernel_rfl) (by kernel_rfl) (by kernel_rfl) rfl rfl (.cons (Ent.mem (by repeat (first | exact List.Mem.head _ | apply List.Mem.tail))) (.nil _)) ?_ | refine WPA.takeP 6 rfl (q_nilF rfl) (by kernel_rfl) (by kernel_rfl) (by kernel_rfl) rfl rfl (.cons (Ent.mem (by repeat (first | exact List.Mem.head _ | apply List.Mem.tail))) (.nil _)) ?_
        refine WPA.putS ?_
        first | refine WPA.takeP 7 rfl (q_faK fa_journal_Journal_epoch rfl) (by kernel_rfl) (by kernel_rfl) (by kernel_rfl) rfl rfl (.cons (Ent.mem (by repeat (first | exact List.Mem.head _ | apply List.Mem.tail))) (.nil _)) ?_ | refine WPA.takeP 7 rfl (q_fa fa_journal_Journal_epoch rfl) (by kernel_rfl) (by kernel_rfl) (by kernel_rfl) rfl rfl (.cons (Ent.mem (by repeat (first | exact List.Mem.head _ | apply List.Mem.tail))) (.nil _)) ?_
        refine WPA.putS ?_
        first | refine WPA.takeL 8 rfl (Ent.mem (by repeat (first | exact List.Mem.head _ | apply List.Mem.tail))) (q_load1z ld_uint32 rfl (.head _) (by rfl)) (by kernel_rfl) (by kernel_rfl) (by kernel_rfl) rfl rfl (.cons (Ent.mem (by repeat (first | exact List.Mem.head _ | apply List.Mem.tail))) (.nil _)) ?_ | refine WPA.takeL 8 rfl (Ent.mem (by repeat (first | exact List.Mem.head _ | apply List.Mem.tail))) (q_load1 ld_uint32 rfl (.head _) rfl (by rfl)) (by kernel_rfl) (by kernel_rfl) (by kernel_rfl) rfl rfl (.cons (Ent.mem (by repeat (first | exact List.Mem.head _ | apply List.Mem.tail))) (.nil _)) ?_
        refine WPA.putS ?_
        refine WPA.takeP 9 rfl (q_move rfl) (by kernel_rfl) (by kernel_rfl) (by kernel_rfl) rfl rfl (.cons (Ent.mem (by repeat (first | exact List.Mem.head _ | apply List.Mem.tail))) (.cons (Ent.mem (by repeat (first | exact List.Mem.head _ | apply List.Mem.tail))) (.nil _))) ?_
        refine WPA.putS ?_
        refine WPA.oneE 10 [(8, [_]), (4, [_])] (by kernel_rfl) rfl rfl (by repeat (first | exact .nil | refine .anc rfl ?_ | refine .keep (by repeat (first | exact List.Mem.head _ | apply List.Mem.tail)) ?_)) (C1.call (c_call Tryd.func33 rfl rfl rfl) (c_CloneB (p := false) hs (by omega)) (by repeat (first | exact Pick.nil | apply Pick.keep (by repeat (first | exact List.Mem.head _ | apply List.Mem.tail)) (by first | exact Pers.cells _ _ _ | exact Pers.slv _ _ _) | apply Pick.cons (by repeat (first | exact Pick1.here | apply Pick1.there)))) rfl ?_)
        rintro _ _ ⟨a3, c3, rfl, rfl⟩
        refine ⟨(.cons (Ent.mem (by repeat (first | exact List.Mem.head _ | apply List.Mem.tail))) (.cons (Ent.mem (by repeat (first | exact List.Mem.head _ | apply List.Mem.tail))) (.nil _))), ?_⟩
        refine WPA.putS ?_
        refine WPA.bufRo fun hs3 => ?_
        refine WPA.takeP 11 rfl (q_build (cs := [_, _]) pl_journal_record rfl rfl) (by kernel_rfl) (by kernel_rfl) (by kernel_rfl) rfl rfl (.cons (Ent.mem (by repeat (first | exact List.Mem.head _ | apply List.Mem.tail))) (.cons (Ent.mem (by repeat (first | exact List.Mem.head _ | apply List.Mem.tail))) (.nil _))) ?_
        refine WPA.putS ?_
        refine WPA.oneE 12 [(4, [_])] (by kernel_rfl) rfl rfl (by repeat (first | exact .nil | refine .anc rfl ?_ | refine .keep (by repeat (first | exact List.Mem.head _ | apply List.Mem.tail)) ?_)) (E1.wpo (e_buildSlice mk_sl_journal_record (by decide) rfl rfl rfl) rfl ?_)
        rintro _ _ ⟨bE, rfl, rfl⟩
        refine ⟨(.cons (Ent.mem (by repeat (first | exact List.Mem.head _ | apply List.Mem.tail))) (.nil _)), ?_⟩
        refine WPA.putS ?_
        refine WPA.oneE 13 [] (by kernel_rfl) rfl rfl (by repeat (first | exact .nil | refine .anc rfl ?_ | refine .keep (by repeat (first | exact List.Mem.head _ | apply List.Mem.tail)) ?_)) (E1.wpo (e_append (m := 1) (news := encR (⟨j.epoch, ⟨xs, a3, xs.length, c3⟩⟩ : JR)) mk_sl_journal_record (by decide) rfl rfl (by repeat (first | exact Pick1.here | apply Pick1.there)) (Rd.part (i := 0) (b := bE) (o := 0) (vs := encR (⟨j.epoch, ⟨xs, a3, xs.length, c3⟩⟩ : JR)) (by repeat (first | exact List.Mem.head _ | apply List.Mem.tail)) rfl rfl rfl) (by simp [Value.oneCell']) (by show rs.length + 1 ≤ _; omega) (by show (rs.length + 1) * _ ≤ _; omega)) rfl ?_)
        rintro _ _ ⟨a4, c4, rfl, -, rfl⟩
        refine ⟨(.nil _), ?_⟩
        refine WPA.putS ?_
        first | refine WPA.takeP 14 rfl (q_nilP rfl) (by kernel_rfl) (by kernel_rfl) (by kernel_rfl) rfl rfl (.nil _) ?_ | refine WPA.takeP 14 rfl (q_nilF rfl) (by kernel_rfl) (by kernel_rfl) (by kernel_rfl) rfl rfl (.nil _) ?_
        refine WPA.putS ?_
        first | refine WPA.takeP 15 rfl (q_faK fa_journal_Journal_held rfl) (by kernel_rfl) (by kernel_rfl) (by kernel_rfl) rfl rfl (.nil _) ?_ | refine WPA.takeP 15 rfl (q_fa fa_journal_Journal_held rfl) (by kernel_rfl) (by kernel_rfl) (by kernel_rfl) rfl rfl (.nil _) ?_
        refine WPA.putS ?_
        refine WPA.oneE 16 [] (by kernel_rfl) rfl rfl (by repeat (first | exact .nil | refine .anc rfl ?_ | refine .keep (by repeat (first | exact List.Mem.head _ | apply List.Mem.tail)) ?_)) (S1.wpo (s_store1k sz_sl_journal_record rfl rfl rfl rfl (by repeat (first | exact Upd.here | apply Upd.there)) (by repeat constructor)) rfl ?_)
        refine ⟨(.nil _), ?_⟩
        refine WPA.putN ?_
        refine WPA.done (by kernel_rfl) ?_
        have eb : rs.map (·.x) ++ [(⟨xs, a3, xs.length, c3⟩ : BS)] = (rs ++ [(⟨j.epoch, ⟨xs, a3, xs.length, c3⟩⟩ : JR)]).map (·.x) := by simp
        have el : rs.length + 1 = (rs ++ [(⟨j.epoch, ⟨xs, a3, xs.length, c3⟩⟩ : JR)]).length := by simp
        rw [el]
        refine WPC.imp ((Imp.pick (Δ := [BS.at_ ⟨xs, a3, xs.length, c3⟩, bytes (rs.map (·.x)), cells true b 0 (jourC db ({ j with held := j.held ++ [(j.epoch, xs)] } : JN) ⟨(rs ++ [(⟨j.epoch, ⟨xs, a3, xs.length, c3⟩⟩ : JR)]), a4, c4⟩), buf 2 a4 (rs ++ [(⟨j.epoch, ⟨xs, a3, xs.length, c3⟩⟩ : JR)]).length c4 (rs.flatMap encR ++ encR (⟨j.epoch, ⟨xs, a3, xs.length, c3⟩⟩ : JR)), disk db d, tblA, sl false a2 ((stamp j.next j.epoch xs).map u8)]) (by repeat (first | exact Pick.nil | apply Pick.keep (by repeat (first | exact List.Mem.head _ | apply List.Mem.tail)) (by first | exact Pers.cells _ _ _ | exact Pers.slv _ _ _ | exact Pers.bytes _) | apply Pick.cons (by repeat (first | exact Pick1.here | apply Pick1.there))))).trans bytes_snoc) ?_
        rw [eb]
        refine WPC.seqD mixed ?_
        refine WPA.takeP 0 rfl (q_move rfl) (by kernel_rfl) (by kernel_rfl) (by kernel_rfl) rfl rfl (.nil _) ?_
        refine WPA.putS ?_
        first | refine WPA.takeP 1 rfl (q_nilP rfl) (by kernel_rfl) (by kernel_rfl) (by kernel_rfl) rfl rfl (.nil _) ?_ | refine WPA.takeP 1 rfl (q_nilF rfl) (by kernel_rfl) (by kernel_rfl) (by kernel_rfl) rfl rfl (.nil _) ?_
        refine WPA.putS ?_
        first | refine WPA.takeP 2 rfl (q_faK fa_journal_Journal_d rfl) (by kernel_rfl) (by kernel_rfl) (by kernel_rfl) rfl rfl (.nil _) ?_ | refine WPA.takeP 2 rfl (q_fa fa_journal_Journal_d rfl) (by kernel_rfl) (by kernel_rfl) (by kernel_rfl) rfl rfl (.nil _) ?_
        refine WPA.putS ?_
        first | refine WPA.takeL 3 rfl (Ent.mem (by repeat (first | exact List.Mem.head _ | apply List.Mem.tail))) (q_load1z ld_ptr_disk_Disk rfl (.head _) (by rfl)) (by kernel_rfl) (by kernel_rfl) (by kernel_rfl) rfl rfl (.nil _) ?_ | refine WPA.takeL 3 rfl (Ent.mem (by repeat (first | exact List.Mem.head _ | apply List.Mem.tail))) (q_load1 ld_ptr_disk_Disk rfl (.head _) rfl (by rfl)) (by kernel_rfl) (by kernel_rfl) (by kernel_rfl) rfl rfl (.nil _) ?_
        refine WPA.putS ?_
        refine WPA.takeP 4 rfl (q_move rfl) (by kernel_rfl) (by kernel_rfl) (by kernel_rfl) rfl rfl (.cons (Ent.mem (by repeat (first | exact List.Mem.head _ | apply List.Mem.tail))) (.nil _)) ?_
        refine WPA.putS ?_
        refine WPA.takeP 5 rfl (q_move rfl) (by kernel_rfl) (by kernel_rfl) (by kernel_rfl) rfl rfl (.cons (Ent.mem (by repeat (first | exact List.Mem.head _ | apply List.Mem.tail))) (.nil _)) ?_
        refine WPA.putS ?_
        refine WPA.takeP 7 rfl (q_move rfl) (by kernel_rfl) (by kernel_rfl) (by kernel_rfl) rfl rfl (.cons (Ent.mem (by repeat (first | exact List.Mem.head _ | apply List.Mem.tail))) (.nil _)) ?_
        refine WPA.putS ?_
        refine WPA.oneE 6 [(3, [_])] (by kernel_rfl) rfl rfl (by repeat (first | exact .nil | refine .anc rfl ?_ | refine .keep (by repeat (first | exact List.Mem.head _ | apply List.Mem.tail)) ?_)) (C1.call (c_call Tryd.func37 rfl rfl rfl) (c_sector (j := ({ j with held := j.held ++ [(j.epoch, xs)] } : JN)) (L := ⟨rs ++ [(⟨j.epoch, ⟨xs, a3, xs.length, c3⟩⟩ : JR)], a4, c4⟩) (seq := j.next) (by omega) q5 (show j.at_ ≤ 1000 by omega)) (by repeat (first | exact Pick.nil | apply Pick.keep (by repeat (first | exact List.Mem.head _ | apply List.Mem.tail)) (by first | exact Pers.cells _ _ _ | exact Pers.slv _ _ _) | apply Pick.cons (by repeat (first | exact Pick1.here | apply Pick1.there)))) rfl ?_)
        rintro _ _ ⟨rfl, rfl⟩
        refine ⟨(.cons (Ent.mem (by repeat (first | exact List.Mem.head _ | apply List.Mem.tail))) (.nil _)), ?_⟩
        refine WPA.putS ?_
        refine WPA.oneE 8 [] (by kernel_rfl) rfl rfl (by repeat (first | exact .nil | refine .anc rfl ?_ | refine .keep (by repeat (first | exact List.Mem.head _ | apply List.Mem.tail)) ?_)) (C1.call (c_call Tryd.func36 rfl rfl rfl) (c_Write64 hd (by omega) (stamp_length hx43) hs2) (by repeat (first | exact Pick.nil | apply Pick.keep (by repeat (first | exact List.Mem.head _ | apply List.Mem.tail)) (by first | exact Pers.cells _ _ _ | exact Pers.slv _ _ _) | apply Pick.cons (by repeat (first | exact Pick1.here | apply Pick1.there)))) rfl ?_)
        rintro _ _ ⟨rfl, rfl⟩
        refine ⟨(.nil _), ?_⟩
        refine WPA.putS ?_
        refine WPA.takeP 9 rfl (q_assign rfl) (by kernel_rfl) (by kernel_rfl) (by kernel_rfl) rfl rfl (.nil _) ?_
        refine WPA.putS ?_
        refine WPA.done (by kernel_rfl) ?_
        refine WPC.ret ?_
        rw [← flat_snoc]
        exact endR_r rfl (.tmp rfl .nil) ((Imp.pick (by repeat (first | exact Pick.nil | apply Pick.keep (by repeat (first | exact List.Mem.head _ | apply List.Mem.tail)) (by first | exact Pers.cells _ _ _ | exact Pers.slv _ _ _ | exact Pers.bytes _) | apply Pick.cons (by repeat (first | exact Pick1.here | apply Pick1.there))))).trans (jour_close (b := b) (db := db) (j := ({ j with held := j.held ++ [(j.epoch, xs)] } : JN)) ⟨rs ++ [(⟨j.epoch, ⟨xs, a3, xs.length, c3⟩⟩ : JR)], a4, c4⟩ ⟨by simp [hheld], by intro r hr; rcases List.mem_append.1 hr with hr | hr; exact hrok r hr; rw [List.mem_singleton.1 hr]; exact hs3⟩ (Γ := [disk db (d.write (j.place j.next) (stamp j.next j.epoch xs)).1]))) ⟨rfl, rfl⟩

theorem c_JTrim {b db : Nat} {j : JN} {d : DK} (hj : j.ok d) (hd : d.ok) (hpl : d.pend.length < 800000) {i : Int} (hnx : j.next < 4294967296) : Trip Tryd.prog 16 #[.pointer (some ⟨b, 0, none⟩), .int .i64 i] [jour b db j, disk db d, tblA] fun r Δ => r = .int .i64 (jtrim d j i).2.2 ∧ Δ = [jour b db (jtrim d j i).2.1, disk db (jtrim d j i).1] := by
  refine jour_open fun L hL => ?_
  obtain ⟨rs, la, lc⟩ := L
  obtain ⟨hheld, hrok⟩ := hL
  dsimp only at hheld hrok
  have hlen : rs.length = j.held.length := by rw [← hheld, List.length_map]
  have q1 := hj.first
  have q2 := hj.epoch
  have q3 := hj.low
  have q4 := hj.at_
  have q5 := hj.n
  have q6 := hj.held
  have q7 := hd.n
  have q8 := hj.eps
  unfold JN.next at hnx
  refine Trip.start 50 [.tmp 4] [(0, .pointer (some ⟨b, 0, none⟩)), (1, .int .i64 i)] Tryd.func16 rfl Tryd.ntmps16 rfl ⟨rfl, rfl, trivial⟩ rfl ?_
  refine WPC.seqR ?_
  refine L_s (q_assign rfl) rfl ?_
  refine WPL.nil ?_
  refine WPC.seq ?_
  refine WPC.seqR ?_
  refine L_s (q_move rfl) rfl ?_
  refine L_s (q_int rfl rfl rfl) rfl ?_
  refine L_s (q_move rfl) rfl ?_
  apply WPL.joinO (e' := [(0, _), (1, _), (4, _)]) 7 15 8 rfl
  · intro g1_2
    try simp only [decide_eq_true_eq, decide_eq_false_iff_not, beq_iff_eq, bne_iff_ne, beq_eq_false_iff_ne, bne_eq_false_iff_eq, Bool.not_eq_true', Bool.not_eq_false', Bool.not_eq_eq_eq_not, Bool.not_true, Bool.not_false, ne_eq, Decidable.not_not, Int.not_lt, Int.not_le, gt_iff_lt, ge_iff_le] at g1_2
    refine L_no rfl rfl rfl rfl ?_
    refine L_no rfl rfl rfl rfl ?_
    refine L_no rfl rfl rfl rfl ?_
    refine L_no rfl rfl rfl rfl ?_
    refine L_no rfl rfl rfl rfl ?_
    refine L_no rfl rfl rfl rfl ?_
    refine L_no rfl rfl rfl rfl ?_
    first | refine L_s (q_pickT rfl rfl) rfl ?_ | refine L_s (q_pickF rfl rfl) rfl ?_
    first | exact WPL.jn rfl rfl (by repeat (first | exact trivial | refine ⟨rfl, ?_⟩)) | exact WPL.jnI rfl rfl (by repeat (first | exact trivial | refine ⟨rfl, ?_⟩)) (Imp.pick (by repeat (first | exact Pick.nil | apply Pick.keep (by repeat (first | exact List.Mem.head _ | apply List.Mem.tail)) (by first | exact Pers.cells _ _ _ | exact Pers.slv _ _ _) | apply Pick.cons (by repeat (first | exact Pick1.here | apply Pick1.there)))))
  · intro g1_2
    try simp only [decide_eq_true_eq, decide_eq_false_iff_not, beq_iff_eq, bne_iff_ne, beq_eq_false_iff_ne, bne_eq_false_iff_eq, Bool.not_eq_true', Bool.not_eq_false', Bool.not_eq_eq_eq_not, Bool.not_true, Bool.not_false, ne_eq, Decidable.not_not, Int.not_lt, Int.not_le, gt_iff_lt, ge_iff_le] at g1_2
    refine L_yes rfl rfl (q_move rfl) rfl ?_
    refine L_yes rfl rfl (q_move rfl) rfl ?_
    first | refine L_yes rfl rfl (q_nilP rfl) rfl ?_ | refine L_yes rfl rfl (q_nilF rfl) rfl ?_
    first | refine L_yes rfl rfl (q_faK fa_journal_Journal_held rfl) rfl ?_ | refine L_yes rfl rfl (q_fa fa_journal_Journal_held rfl) rfl ?_
    first | refine L_yes rfl rfl (q_load1z ld_sl_journal_record rfl (by repeat (first | exact List.Mem.head _ | apply List.Mem.tail)) (by rfl)) rfl ?_ | refine L_yes rfl rfl (q_load1 ld_sl_journal_record rfl (by repeat (first | exact List.Mem.head _ | apply List.Mem.tail)) rfl (by rfl)) rfl ?_
    refine L_yes rfl rfl (q_len rfl un_sl_journal_record rfl) rfl ?_
    refine L_yes rfl rfl (q_int rfl rfl rfl) rfl ?_
    first | refine L_s (q_pickT rfl rfl) rfl ?_ | refine L_s (q_pickF rfl rfl) rfl ?_
    first | exact WPL.jn rfl rfl (by repeat (first | exact trivial | refine ⟨rfl, ?_⟩)) | exact WPL.jnI rfl rfl (by repeat (first | exact trivial | refine ⟨rfl, ?_⟩)) (Imp.pick (by repeat (first | exact Pick.nil | apply Pick.keep (by repeat (first | exact List.Mem.head _ | apply List.Mem.tail)) (by first | exact Pers.cells _ _ _ | exact Pers.slv _ _ _) | apply Pick.cons (by repeat (first | exact Pick1.here | apply Pick1.there)))))
  refine WPL.nil ?_
  refine WPC.cond rfl (fun h0 => ?_) (fun h0 => ?_)
  · have et : jtrim d j i = (d, j, 1) := by unfold jtrim; rw [if_pos (by simp at h0; omega)]
    rw [et]
    refine WPC.seqR ?_
    refine L_s (q_assign rfl) rfl ?_
    refine WPL.nil ?_
    refine WPC.ret ?_
    refine thenQ_r ?_
    exact endR_r rfl (.tmp rfl .nil) ((Imp.pick (by repeat (first | exact Pick.nil | apply Pick.keep (by repeat (first | exact List.Mem.head _ | apply List.Mem.tail)) (by first | exact Pers.cells _ _ _ | exact Pers.slv _ _ _ | exact Pers.bytes _) | apply Pick.cons (by repeat (first | exact Pick1.here | apply Pick1.there))))).trans (jour_close (b := b) (db := db) (j := j) ⟨rs, la, lc⟩ ⟨hheld, hrok⟩ (Γ := [disk db d]))) ⟨rfl, rfl⟩
  · obtain ⟨k, rfl⟩ : ∃ k : Nat, i = (k : Int) := ⟨i.toNat, by simp at h0; omega⟩
    have hk : k ≤ rs.length := by simp at h0; omega
    obtain ⟨low', hlow⟩ : ∃ l, l = (if 0 < (k : Int) then ((j.held[k - 1]?).getD (0, [])).1 else j.low) := ⟨_, rfl⟩
    have hlowlt : low' < 4294967296 := by rw [hlow]; split; exact getD_lt q8 _; exact q3
    have et : jtrim d j k = ((jsave d ({ j with low := low', first := j.first + k, held := j.held.drop k } : JN)).1, ({ j with low := low', first := j.first + k, held := j.held.drop k } : JN), (jsave d ({ j with low := low', first := j.first + k, held := j.held.drop k } : JN)).2) := by unfold jtrim; rw [if_neg (by omega)]; simp only [Int.toNat_natCast, ← hlow]
    rw [et]
    refine WPC.skip ?_
    refine thenQ_n ?_
    refine WPC.seq ?_
    refine WPC.seqR ?_
    refine WPL.imp (Imp.pick (Δ := [buf 2 la rs.length lc (rs.flatMap encR), cells true b 0 (jourC db j ⟨rs, la, lc⟩), bytes (rs.map (·.x)), disk db d, tblA]) (by repeat (first | exact Pick.nil | apply Pick.keep (by repeat (first | exact List.Mem.head _ | apply List.Mem.tail)) (by first | exact Pers.cells _ _ _ | exact Pers.slv _ _ _ | exact Pers.bytes _) | apply Pick.cons (by repeat (first | exact Pick1.here | apply Pick1.there))))) ?_
    refine WPL.bufAll fun sp hs hsp hpc => ?_
    refine L_s (q_move rfl) rfl ?_
    refine L_s (q_int rfl rfl rfl) rfl ?_
    refine WPL.nil ?_
    refine WPC.midS (fun e Γ => e = [(0, .pointer (some ⟨b, 0, none⟩)), (1, .int .i64 (k : Int))] ∧ Γ = [cells true b 0 (jourC db { j with low := low' } ⟨rs, la, lc⟩), cells true (blk la) (off la) (rs.flatMap encR ++ sp), bytes (rs.map (·.x)), disk db d, tblA]) ?_ ?_
    · refine WPC.cond rfl (fun h1 => ?_) (fun h1 => ?_)
      · have hk0 : 0 < k := by simp at h1; omega
        have hp : Pl la := hs.at (by omega) (by omega)
        obtain ⟨r, hr⟩ : ∃ r, rs[k - 1]? = some r := ⟨rs[k - 1]'(by omega), by simp⟩
        have hl2 : low' = r.ep := by rw [hlow, if_pos (by omega), ← hheld]; simp [hr]
        have hget : (rs.flatMap encR ++ sp)[(k - 1) * 2]? = some (.int .u32 (r.ep : Int)) := by rw [List.getElem?_append_left (by rw [flat_length encR_len]; omega)]; exact flat_get encR_len rs (k - 1) 0 hr (by omega)
        refine WPC.region ?_
        refine L_s (q_move rfl) rfl ?_
        refine L_s (q_move rfl) rfl ?_
        first | refine L_s (q_nilP rfl) rfl ?_ | refine L_s (q_nilF rfl) rfl ?_
        first | refine L_s (q_faK fa_journal_Journal_held rfl) rfl ?_ | refine L_s (q_fa fa_journal_Journal_held rfl) rfl ?_
        first | refine L_s (q_load1z ld_sl_journal_record rfl (by repeat (first | exact List.Mem.head _ | apply List.Mem.tail)) (by rfl)) rfl ?_ | refine L_s (q_load1 ld_sl_journal_record rfl (by repeat (first | exact List.Mem.head _ | apply List.Mem.tail)) rfl (by rfl)) rfl ?_
        refine L_s (q_move rfl) rfl ?_
        refine L_s (q_decN rfl rfl hk0 (by omega)) rfl ?_
        refine L_s (q_idxN (i := k - 1) sl_sl_journal_record rfl rfl (show k - 1 < rs.length by omega) hp) rfl ?_
        first | refine L_s (q_faK fa_journal_record_epoch rfl) rfl ?_ | refine L_s (q_fa fa_journal_record_epoch rfl) rfl ?_
        refine L_s (q_load1 (i := (k - 1) * 2) ld_uint32 rfl (by repeat (first | exact List.Mem.head _ | apply List.Mem.tail)) rfl hget) rfl ?_
        rw [← hl2]
        first | refine L_s (q_nilP rfl) rfl ?_ | refine L_s (q_nilF rfl) rfl ?_
        first | refine L_s (q_faK fa_journal_Journal_low rfl) rfl ?_ | refine L_s (q_fa fa_journal_Journal_low rfl) rfl ?_
        refine WPL.cons rfl (S1.wpo (s_store1k sz_uint32 rfl rfl rfl rfl (by repeat (first | exact Upd.here | apply Upd.there)) (by repeat constructor)) rfl ?_)
        refine WPL.putN ?_
        refine WPL.nil ?_
        refine thenQ_n ?_
        exact ⟨rfl, _, _, ⟨rfl, rfl⟩, (by repeat (first | exact trivial | refine ⟨rfl, ?_⟩)), Imp.pick (by repeat (first | exact Pick.nil | apply Pick.keep (by repeat (first | exact List.Mem.head _ | apply List.Mem.tail)) (by first | exact Pers.cells _ _ _ | exact Pers.slv _ _ _) | apply Pick.cons (by repeat (first | exact Pick1.here | apply Pick1.there))))⟩
      · have hk0 : k = 0 := by simp at h1; omega
        have hl2 : low' = j.low := by rw [hlow, if_neg (by omega)]
        dsimp only [jourC]
        rw [← hl2]
        refine WPC.skip ?_
        refine thenQ_n ?_
        exact ⟨rfl, _, _, ⟨rfl, rfl⟩, (by repeat (first | exact trivial | refine ⟨rfl, ?_⟩)), Imp.pick (by repeat (first | exact Pick.nil | apply Pick.keep (by repeat (first | exact List.Mem.head _ | apply List.Mem.tail)) (by first | exact Pers.cells _ _ _ | exact Pers.slv _ _ _) | apply Pick.cons (by repeat (first | exact Pick1.here | apply Pick1.there))))⟩
    · rintro e Γ ⟨rfl, rfl⟩
      refine WPC.seqR ?_
      refine L_s (q_move rfl) rfl ?_
      first | refine L_s (q_nilP rfl) rfl ?_ | refine L_s (q_nilF rfl) rfl ?_
      first | refine L_s (q_faK fa_journal_Journal_first rfl) rfl ?_ | refine L_s (q_fa fa_journal_Journal_first rfl) rfl ?_
      first | refine L_s (q_load1z ld_uint32 rfl (by repeat (first | exact List.Mem.head _ | apply List.Mem.tail)) (by rfl)) rfl ?_ | refine L_s (q_load1 ld_uint32 rfl (by repeat (first | exact List.Mem.head _ | apply List.Mem.tail)) rfl (by rfl)) rfl ?_
      refine L_s (q_move rfl) rfl ?_
      first | refine L_s (q_conv32 in_int in_uint32 rfl (by omega)) rfl ?_ | refine L_s (q_conv in_int in_uint32 rfl) rfl ?_
      refine L_s (q_add32 (a := j.first) (b := k) rfl rfl) rfl ?_
      rw [Nat.mod_eq_of_lt (show j.first + k < 4294967296 by omega)]
      first | refine L_s (q_nilP rfl) rfl ?_ | refine L_s (q_nilF rfl) rfl ?_
      first | refine L_s (q_faK fa_journal_Journal_first rfl) rfl ?_ | refine L_s (q_fa fa_journal_Journal_first rfl) rfl ?_
      refine WPL.cons rfl (S1.wpo (s_store1k sz_uint32 rfl rfl rfl rfl (by repeat (first | exact Upd.here | apply Upd.there)) (by repeat constructor)) rfl ?_)
      refine WPL.putN ?_
      refine WPL.nil ?_
      refine WPC.seqR ?_
      refine L_s (q_move rfl) rfl ?_
      refine L_s (q_move rfl) rfl ?_
      first | refine L_s (q_nilP rfl) rfl ?_ | refine L_s (q_nilF rfl) rfl ?_
      first | refine L_s (q_faK fa_journal_Journal_held rfl) rfl ?_ | refine L_s (q_fa fa_journal_Journal_held rfl) rfl ?_
      first | refine L_s (q_load1z ld_sl_journal_record rfl (by repeat (first | exact List.Mem.head _ | apply List.Mem.tail)) (by rfl)) rfl ?_ | refine L_s (q_load1 ld_sl_journal_record rfl (by repeat (first | exact List.Mem.head _ | apply List.Mem.tail)) rfl (by rfl)) rfl ?_
      refine L_s (q_move rfl) rfl ?_
      refine WPL.cons rfl (C1.call (c_call Tryd.func45 rfl rfl rfl) (c_Delete (n := rs.length) (c := lc) (k := k) hs rfl hk (by omega) hsp) (by repeat (first | exact Pick.nil | apply Pick.keep (by repeat (first | exact List.Mem.head _ | apply List.Mem.tail)) (by first | exact Pers.cells _ _ _ | exact Pers.slv _ _ _) | apply Pick.cons (by repeat (first | exact Pick1.here | apply Pick1.there)))) rfl ?_)
      rintro _ _ ⟨sp', rfl, hsp', rfl⟩
      rw [show rs.length - k = (rs.drop k).length by simp]
      refine WPL.putS ?_
      first | refine L_s (q_nilP rfl) rfl ?_ | refine L_s (q_nilF rfl) rfl ?_
      first | refine L_s (q_faK fa_journal_Journal_held rfl) rfl ?_ | refine L_s (q_fa fa_journal_Journal_held rfl) rfl ?_
      refine WPL.cons rfl (S1.wpo (s_store1k sz_sl_journal_record rfl rfl rfl rfl (by repeat (first | exact Upd.here | apply Upd.there)) (by repeat constructor)) rfl ?_)
      refine WPL.putN ?_
      refine WPL.nil ?_
      refine WPC.seqR ?_
      refine L_s (q_move rfl) rfl ?_
      refine WPL.cons rfl (C1.call (c_call Tryd.func43 rfl rfl rfl) (c_jsave (j := ({ j with low := low', first := j.first + k, held := j.held.drop k } : JN)) (L := ⟨rs.drop k, la, lc⟩) (d := d) ⟨q5, q4, by show j.first + k < _; omega, q2, hlowlt, by show (j.held.drop k).length ≤ _; rw [List.length_drop]; exact Nat.le_trans (Nat.sub_le _ _) q6, fun x hx => q8 x (List.mem_of_mem_drop hx)⟩ hd (by omega)) (by repeat (first | exact Pick.nil | apply Pick.keep (by repeat (first | exact List.Mem.head _ | apply List.Mem.tail)) (by first | exact Pers.cells _ _ _ | exact Pers.slv _ _ _) | apply Pick.cons (by repeat (first | exact Pick1.here | apply Pick1.there)))) rfl ?_)
      rintro _ _ ⟨rfl, rfl⟩
      refine WPL.putS ?_
      refine L_s (q_assign rfl) rfl ?_
      refine WPL.nil ?_
      refine WPC.ret ?_
      rw [show rs.length - k = (rs.drop k).length by simp] at hsp'
      have hs4 : Sok 2 la (rs.drop k).length lc ((rs.drop k).flatMap encR) := ⟨flat_length encR_len _, by rw [List.length_drop]; exact Nat.le_trans (Nat.sub_le _ _) hs.cap, by rcases hs.pl with h | h; (left; exact List.eq_nil_of_length_eq_zero (by have := congrArg List.length h; rw [flat_length encR_len] at this; rw [flat_length encR_len, List.length_drop]; simp only [List.length_nil] at this; omega)); exact .inr h⟩
      exact endR_r rfl (.tmp rfl .nil) ((Imp.pick (Δ := [cells true (blk la) (off la) ((rs.drop k).flatMap encR ++ sp'), cells true b 0 (jourC db ({ j with low := low', first := j.first + k, held := j.held.drop k } : JN) ⟨(rs.drop k), la, lc⟩), bytes (rs.map (·.x)), disk db (jsave d ({ j with low := low', first := j.first + k, held := j.held.drop k } : JN)).1]) (by repeat (first | exact Pick.nil | apply Pick.keep (by repeat (first | exact List.Mem.head _ | apply List.Mem.tail)) (by first | exact Pers.cells _ _ _ | exact Pers.slv _ _ _ | exact Pers.bytes _) | apply Pick.cons (by repeat (first | exact Pick1.here | apply Pick1.there))))).trans ((Imp.bufI hs4 hpc hsp').trans ((Imp.pick (Δ := [bytes (rs.map (·.x)), buf 2 la (rs.drop k).length lc ((rs.drop k).flatMap encR), cells true b 0 (jourC db ({ j with low := low', first := j.first + k, held := j.held.drop k } : JN) ⟨(rs.drop k), la, lc⟩), disk db (jsave d ({ j with low := low', first := j.first + k, held := j.held.drop k } : JN)).1]) (by repeat (first | exact Pick.nil | apply Pick.keep (by repeat (first | exact List.Mem.head _ | apply List.Mem.tail)) (by first | exact Pers.cells _ _ _ | exact Pers.slv _ _ _ | exact Pers.bytes _) | apply Pick.cons (by repeat (first | exact Pick1.here | apply Pick1.there))))).trans ((bytes_sub (ys := (rs.drop k).map (·.x)) (fun y hy => by obtain ⟨r, hr, rfl⟩ := List.mem_map.1 hy; exact List.mem_map.2 ⟨r, List.mem_of_mem_drop hr, rfl⟩)).trans ((Imp.pick (by repeat (first | exact Pick.nil | apply Pick.keep (by repeat (first | exact List.Mem.head _ | apply List.Mem.tail)) (by first | exact Pers.cells _ _ _ | exact Pers.slv _ _ _ | exact Pers.bytes _) | apply Pick.cons (by repeat (first | exact Pick1.here | apply Pick1.there))))).trans (jour_close (b := b) (db := db) (j := ({ j with low := low', first := j.first + k, held := j.held.drop k } : JN)) ⟨rs.drop k, la, lc⟩ ⟨by rw [← hheld, List.map_drop], fun r hr => hrok r (List.mem_of_mem_drop hr)⟩ (Γ := [disk db (jsave d ({ j with low := low', first := j.first + k, held := j.held.drop k } : JN)).1]))))))) ⟨rfl, rfl⟩

end Go.Sl
