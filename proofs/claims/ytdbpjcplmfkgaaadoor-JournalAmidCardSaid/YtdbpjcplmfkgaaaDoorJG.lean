/- Walks: slots. -/
import Derived.Test.YtdbpjcplmfkgaaaDoorJF
namespace Go.Sl
open Go Go.RowKit Go.Proofs
set_option linter.unusedSimpArgs false
set_option linter.unusedVariables false
attribute [local irreducible] faB szB ldB zB zL slB mkB arB plB intB cells objc star stars buf slv grp whole Sat WPC WPL WPA WPO Trip

theorem c_ParseU {a : Option Addr} {c : Nat} (s : Sec) (hs : Sok 1 a 64 c (s.1.map u8)) : Trip Tryd.prog 69 #[.slice a 64 c] [sl false a (s.1.map u8), tblA] fun r Δ => ∃ a' c', r = .tuple #[.int .u32 (pS s.1 : Int), .int .u32 (pE s.1 : Int), .slice a' (pB s.1).length c', .bool (pOk s.1)] ∧ Sok 1 a' (pB s.1).length c' ((pB s.1).map u8) ∧ Δ = [sl false a' ((pB s.1).map u8)] := by
  have h := c_Parse s hs
  unfold pS pE pB pOk
  cases hp : parse s.1 with
  | some t =>
    obtain ⟨x, y, z⟩ := t
    rw [hp] at h
    exact h
  | none =>
    rw [hp] at h
    unfold Trip at h ⊢
    intro F w t
    refine (h F w t).mono ?_
    rintro e w' ⟨v, Δ, rfl, ⟨rfl, rfl⟩, t', ad⟩
    exact ⟨_, _, rfl, ⟨none, 0, rfl, ⟨rfl, Nat.le_refl _, .inl rfl⟩, rfl⟩, Imp.slEmpty _ _ t', ad⟩
theorem c_DReadOk {b : Nat} {d : DK} {i : Int} {s : Sec} (hr : d.read i = some s) : Trip Tryd.prog 68 #[.pointer (some ⟨b, 0, none⟩), .int .i64 i] [disk b d] fun r Δ => ∃ a c, r = .tuple #[.slice a 64 c, .int .i64 0] ∧ Sok 1 a 64 c (s.1.map u8) ∧ Δ = [disk b d, sl false a (s.1.map u8)] := by
  have h := c_DRead (b := b) (d := d) (i := i)
  rw [hr] at h
  exact h

theorem c_right {b : Nat} {d : DK} {i : Int} (hi : i < 9223372036854775807) (hd : d.ok) : Trip Tryd.prog 63 #[.pointer (some ⟨b, 0, none⟩), .int .i64 i] [disk b d] fun r Δ => r = .bool (right_ d i) ∧ Δ = [disk b d] := by
  refine disk_open fun L hL => ?_
  have hdn := hd.n
  refine Trip.start 14 [.tmp 4] [(0, .pointer (some ⟨b, 0, none⟩)), (1, .int .i64 i)] Tryd.func63 rfl Tryd.ntmps63 rfl ⟨rfl, rfl, trivial⟩ rfl ?_
  refine WPC.seqR ?_
  refine L_s (q_assign rfl) rfl ?_
  refine WPL.nil ?_
  refine WPC.seqR ?_
  refine L_s (q_move rfl) rfl ?_
  refine L_s (q_int rfl rfl rfl) rfl ?_
  refine L_s (q_move rfl) rfl ?_
  apply WPL.joinA (e' := [(4, _)]) 7 13 6 rfl
  · intro g1_2
    try simp only [decide_eq_true_eq, decide_eq_false_iff_not, beq_iff_eq, bne_iff_ne, beq_eq_false_iff_ne, bne_eq_false_iff_eq, Bool.not_eq_true', Bool.not_eq_false', Bool.not_eq_eq_eq_not, Bool.not_true, Bool.not_false, ne_eq, Decidable.not_not, Int.not_lt, Int.not_le, gt_iff_lt, ge_iff_le] at g1_2
    refine L_yes rfl rfl (q_move rfl) rfl ?_
    refine L_yes rfl rfl (q_move rfl) rfl ?_
    refine L_eyes rfl rfl rfl (C1.call (c_call Tryd.func39 rfl rfl rfl) (c_DLen (d := d) (L := L)) (by repeat (first | exact Pick.nil | apply Pick.keep (by repeat (first | exact List.Mem.head _ | apply List.Mem.tail)) (by first | exact Pers.cells _ _ _ | exact Pers.slv _ _ _) | apply Pick.cons (by repeat (first | exact Pick1.here | apply Pick1.there)))) rfl ?_)
    rintro _ _ ⟨rfl, rfl⟩
    refine WPL.putS ?_
    first | refine L_yes rfl rfl (q_subI rfl rfl (by omega)) rfl ?_ | refine L_yes rfl rfl (q_int rfl rfl rfl) rfl ?_
    refine L_yes rfl rfl (q_int rfl rfl rfl) rfl ?_
    first | refine L_s (q_pickT rfl rfl) rfl ?_ | refine L_s (q_pickF rfl rfl) rfl ?_
    first | exact WPL.jn rfl rfl (by repeat (first | exact trivial | refine ⟨rfl, ?_⟩)) | exact WPL.jnI rfl rfl (by repeat (first | exact trivial | refine ⟨rfl, ?_⟩)) (Imp.pick (by repeat (first | exact Pick.nil | apply Pick.keep (by repeat (first | exact List.Mem.head _ | apply List.Mem.tail)) (by first | exact Pers.cells _ _ _ | exact Pers.slv _ _ _) | apply Pick.cons (by repeat (first | exact Pick1.here | apply Pick1.there)))))
  · intro g1_2
    try simp only [decide_eq_true_eq, decide_eq_false_iff_not, beq_iff_eq, bne_iff_ne, beq_eq_false_iff_ne, bne_eq_false_iff_eq, Bool.not_eq_true', Bool.not_eq_false', Bool.not_eq_eq_eq_not, Bool.not_true, Bool.not_false, ne_eq, Decidable.not_not, Int.not_lt, Int.not_le, gt_iff_lt, ge_iff_le] at g1_2
    refine L_no rfl rfl rfl rfl ?_
    refine L_no rfl rfl rfl rfl ?_
    refine L_no rfl rfl rfl rfl ?_
    refine L_no rfl rfl rfl rfl ?_
    refine L_no rfl rfl rfl rfl ?_
    first | refine L_s (q_pickT rfl rfl) rfl ?_ | refine L_s (q_pickF rfl rfl) rfl ?_
    first | exact WPL.jn rfl rfl (by repeat (first | exact trivial | refine ⟨rfl, ?_⟩)) | exact WPL.jnI rfl rfl (by repeat (first | exact trivial | refine ⟨rfl, ?_⟩)) (Imp.pick (by repeat (first | exact Pick.nil | apply Pick.keep (by repeat (first | exact List.Mem.head _ | apply List.Mem.tail)) (by first | exact Pers.cells _ _ _ | exact Pers.slv _ _ _) | apply Pick.cons (by repeat (first | exact Pick1.here | apply Pick1.there)))))
  refine L_s (q_assign rfl) rfl ?_
  refine WPL.nil ?_
  refine WPC.ret ?_
  exact endR_r rfl (.tmp rfl .nil) ((Imp.pick (by repeat (first | exact Pick.nil | apply Pick.keep (by repeat (first | exact List.Mem.head _ | apply List.Mem.tail)) (by first | exact Pers.cells _ _ _ | exact Pers.slv _ _ _ | exact Pers.bytes _) | apply Pick.cons (by repeat (first | exact Pick1.here | apply Pick1.there))))).trans (disk_close L hL (Γ := []))) ⟨by simp only [packV, right_], rfl⟩

theorem c_records1 {l bo b1 b2 db : Nat} {rec : Loop} {p1 p2 : Bool} {d : DK} {i : Int} {out : SR} (hi : 0 ≤ i ∧ i + 1 < (d.seen.length : Int)) (hd : d.ok) (hY : ∀ (x : SR) (a : Option Addr) (c : Nat) (out : SR), Sok 1 a x.b.length c (x.b.map u8) → YTrip Tryd.prog l #[(.agg #[.int .i64 x.at_, .int .u32 (x.seq : Int), .slice a x.b.length c])] [objc true l (.loop rec), outA bo out, sl false a (x.b.map u8)] (fun v Δ => v = .bool true ∧ Δ = [objc true l (.loop rec), outA bo (if out.seq < x.seq then x else out)])) : Trip Tryd.prog 80 #[.func (.yield l) #[] #[], .pointer (some ⟨b1, 0, none⟩), .pointer (some ⟨b2, 0, none⟩)] [objc true l (.loop rec), outA bo (lastK d i out 0), cells p1 b1 0 [.int .i64 i], cells p2 b2 0 [.pointer (some ⟨db, 0, none⟩)], disk db d, tblA] fun r Δ => r = .tuple #[] ∧ Δ = [objc true l (.loop rec), outA bo (lastK d i out 2), disk db d] := by
  have hdn := hd.n
  refine Trip.start 45 [] [(0, .func (.yield l) #[] #[]), (1, .pointer (some ⟨b1, 0, none⟩)), (2, .pointer (some ⟨b2, 0, none⟩))] Tryd.func80 rfl Tryd.ntmps80 rfl ⟨rfl, rfl, rfl, trivial⟩ rfl ?_
  refine WPC.seqR ?_
  first | refine L_s (q_load1z ld_int rfl (by repeat (first | exact List.Mem.head _ | apply List.Mem.tail)) (by rfl)) rfl ?_ | refine L_s (q_load1 ld_int rfl (by repeat (first | exact List.Mem.head _ | apply List.Mem.tail)) rfl (by rfl)) rfl ?_
  refine L_s (q_assign rfl) rfl ?_
  refine WPL.nil ?_
  refine WPC.block ?_
  refine WPC.loopS (fun m e Γ => ∃ (k : Nat) (v : Int), m = 3 - k ∧ k ≤ 2 ∧ v = i + (k : Int) ∧ e = [(0, .func (.yield l) #[] #[]), (1, .pointer (some ⟨b1, 0, none⟩)), (2, .pointer (some ⟨b2, 0, none⟩)), (4, .int .i64 v)] ∧ Γ = [objc true l (.loop rec), outA bo (lastK d i out k), cells p1 b1 0 [.int .i64 i], cells p2 b2 0 [.pointer (some ⟨db, 0, none⟩)], disk db d, tblA]) (3) ⟨0, i, rfl, by omega, by simp, rfl, rfl⟩ (by repeat (first | exact trivial | refine ⟨rfl, ?_⟩)) (Imp.pick (by repeat (first | exact Pick.nil | apply Pick.keep (by repeat (first | exact List.Mem.head _ | apply List.Mem.tail)) (by first | exact Pers.cells _ _ _ | exact Pers.slv _ _ _) | apply Pick.cons (by repeat (first | exact Pick1.here | apply Pick1.there))))) ?_
  rintro m e Γ ⟨k, v, rfl, hk, hv, rfl, rfl⟩
  refine WPC.seq ?_
  refine WPC.seqR ?_
  refine L_s (q_move rfl) rfl ?_
  first | refine L_s (q_load1z ld_int rfl (by repeat (first | exact List.Mem.head _ | apply List.Mem.tail)) (by rfl)) rfl ?_ | refine L_s (q_load1 ld_int rfl (by repeat (first | exact List.Mem.head _ | apply List.Mem.tail)) rfl (by rfl)) rfl ?_
  first | refine L_s (q_inc rfl rfl (by omega)) rfl ?_ | refine L_s (q_addI rfl rfl (by omega)) rfl ?_ | refine L_s (q_int rfl rfl rfl) rfl ?_
  refine L_s (q_int rfl rfl rfl) rfl ?_
  refine WPL.nil ?_
  refine WPC.cond rfl (fun h0 => ?_) (fun h0 => ?_)
  · simp only [decide_eq_true_eq] at h0
    have hk2 : k < 2 := by omega
    obtain ⟨s, hr⟩ := read_in (d := d) (i := v) (by omega)
    have hst := lastStep_of (out := lastK d i out k) hr
    refine WPC.skip ?_
    refine thenQ_n ?_
    refine WPC.seq ?_
    refine WPC.block ?_
    refine WPC.seqR ?_
    first | refine L_s (q_load1z ld_ptr_disk_Disk rfl (by repeat (first | exact List.Mem.head _ | apply List.Mem.tail)) (by rfl)) rfl ?_ | refine L_s (q_load1 ld_ptr_disk_Disk rfl (by repeat (first | exact List.Mem.head _ | apply List.Mem.tail)) rfl (by rfl)) rfl ?_
    refine L_s (q_move rfl) rfl ?_
    refine WPL.cons rfl (C1.call (c_call Tryd.func68 rfl rfl rfl) (c_DReadOk hr) (by repeat (first | exact Pick.nil | apply Pick.keep (by repeat (first | exact List.Mem.head _ | apply List.Mem.tail)) (by first | exact Pers.cells _ _ _ | exact Pers.slv _ _ _) | apply Pick.cons (by repeat (first | exact Pick1.here | apply Pick1.there)))) rfl ?_)
    rintro _ _ ⟨a, c, rfl, hs, rfl⟩
    refine WPL.putS ?_
    refine L_s (q_move rfl) rfl ?_
    refine L_s (q_extract rfl rfl) rfl ?_
    refine L_s (q_extract rfl rfl) rfl ?_
    refine L_s (q_assign rfl) rfl ?_
    refine L_s (q_assign rfl) rfl ?_
    refine WPL.nil ?_
    refine WPC.seqR ?_
    refine L_s (q_move rfl) rfl ?_
    refine WPL.cons rfl (C1.call (c_call Tryd.func69 rfl rfl rfl) (c_ParseU s hs) (by repeat (first | exact Pick.nil | apply Pick.keep (by repeat (first | exact List.Mem.head _ | apply List.Mem.tail)) (by first | exact Pers.cells _ _ _ | exact Pers.slv _ _ _) | apply Pick.cons (by repeat (first | exact Pick1.here | apply Pick1.there)))) rfl ?_)
    rintro _ _ ⟨a', c', rfl, hb, rfl⟩
    refine WPL.putS ?_
    refine L_s (q_move rfl) rfl ?_
    refine L_s (q_extract rfl rfl) rfl ?_
    refine L_s (q_extract rfl rfl) rfl ?_
    refine L_s (q_extract rfl rfl) rfl ?_
    refine L_s (q_extract rfl rfl) rfl ?_
    refine L_s (q_assign rfl) rfl ?_
    refine L_s (q_assign rfl) rfl ?_
    refine L_s (q_assign rfl) rfl ?_
    refine L_s (q_assign rfl) rfl ?_
    refine WPL.nil ?_
    refine WPC.prune [(0, _), (1, _), (2, _), (4, _), (5, _), (7, _), (8, _), (9, _), (10, _), (12, _), (13, _), (14, _), (15, _), (18, _), (19, _), (20, _), (21, _), (22, _), (23, _), (24, _), (25, _), (26, _), (27, _), (28, _), (29, _), (30, _)] (by repeat (first | exact trivial | refine ⟨rfl, ?_⟩)) ?_
    refine WPC.seqCutS (fun e Γ => e = [(0, .func (.yield l) #[] #[]), (1, .pointer (some ⟨b1, 0, none⟩)), (2, .pointer (some ⟨b2, 0, none⟩)), (4, .int .i64 v), (44, .bool false)] ∧ Γ = [objc true l (.loop rec), outA bo (lastK d i out (k + 1)), cells p1 b1 0 [.int .i64 i], cells p2 b2 0 [.pointer (some ⟨db, 0, none⟩)], disk db d, tblA]) ?_ ?_
    · rcases pcase s.1 with hc | hc | hc
      · rw [hc.1, hc.2]
        have hl : lastK d i out (k + 1) = if (lastK d i out k).seq < (⟨v, pS s.1, pB s.1⟩ : SR).seq then (⟨v, pS s.1, pB s.1⟩ : SR) else lastK d i out k := by
          show lastStep d (i + k) (lastK d i out k) = _
          rw [← hv, hst]; simp [hc.1, hc.2]
        rw [hl]
        refine WPC.regionI ?_
        refine WPI.take 11 ?_
        refine L_s (q_move rfl) rfl ?_
        refine L_s (q_move rfl) rfl ?_
        refine L_yes rfl rfl (q_move rfl) rfl ?_
        refine L_yes rfl rfl (show Q1 _ _ _ _ (.bool true) from q_int rfl rfl rfl) rfl ?_
        first | refine L_s (q_pickT rfl rfl) rfl ?_ | refine L_s (q_pickF rfl rfl) rfl ?_
        refine L_s (q_move rfl) rfl ?_
        refine L_yes rfl rfl (q_move rfl) rfl ?_
        refine L_yes rfl rfl (q_move rfl) rfl ?_
        refine L_yes rfl rfl (q_move rfl) rfl ?_
        refine L_yes rfl rfl (q_move rfl) rfl ?_
        refine L_yes rfl rfl (q_build (cs := [_, _, _]) pl_slot_record rfl rfl) rfl ?_
        refine WPL.nil ?_
        refine WPI.yield (wanted_yes rfl rfl rfl) rfl rfl (hY (⟨v, pS s.1, pB s.1⟩ : SR) a' c' (lastK d i out k) hb) (by repeat (first | exact Pick.nil | apply Pick.keep (by repeat (first | exact List.Mem.head _ | apply List.Mem.tail)) (by first | exact Pers.cells _ _ _ | exact Pers.slv _ _ _) | apply Pick.cons (by repeat (first | exact Pick1.here | apply Pick1.there)))) rfl ?_
        rintro _ _ ⟨rfl, rfl⟩
        refine WPI.all ?_
        refine WPL.putS ?_
        refine L_yes rfl rfl (q_not rfl) rfl ?_
        first | refine L_s (q_pickT rfl rfl) rfl ?_ | refine L_s (q_pickF rfl rfl) rfl ?_
        refine WPL.nil ?_
        refine thenQ_n ?_
        exact ⟨rfl, _, _, ⟨rfl, rfl⟩, (by repeat (first | exact trivial | refine ⟨rfl, ?_⟩)), Imp.pick (by repeat (first | exact Pick.nil | apply Pick.keep (by repeat (first | exact List.Mem.head _ | apply List.Mem.tail)) (by first | exact Pers.cells _ _ _ | exact Pers.slv _ _ _) | apply Pick.cons (by repeat (first | exact Pick1.here | apply Pick1.there))))⟩
      · rw [hc.1]
        have hE : (((pE s.1 : Nat) : Int) == 0) = false := by simp; exact hc.2
        have hl : lastK d i out (k + 1) = lastK d i out k := by
          show lastStep d (i + k) (lastK d i out k) = _
          rw [← hv, hst]; simp [hc.2]
        rw [hl]
        refine WPC.region ?_
        refine L_s (q_move rfl) rfl ?_
        refine L_s (q_move rfl) rfl ?_
        refine L_yes rfl rfl (q_move rfl) rfl ?_
        refine L_yes rfl rfl (q_int rfl rfl rfl) rfl ?_
        rw [hE]
        first | refine L_s (q_pickT rfl rfl) rfl ?_ | refine L_s (q_pickF rfl rfl) rfl ?_
        refine L_s (q_move rfl) rfl ?_
        refine L_no rfl rfl rfl rfl ?_
        refine L_no rfl rfl rfl rfl ?_
        refine L_no rfl rfl rfl rfl ?_
        refine L_no rfl rfl rfl rfl ?_
        refine L_no rfl rfl rfl rfl ?_
        refine L_no rfl rfl rfl rfl ?_
        refine L_no rfl rfl rfl rfl ?_
        first | refine L_s (q_pickT rfl rfl) rfl ?_ | refine L_s (q_pickF rfl rfl) rfl ?_
        refine WPL.nil ?_
        refine thenQ_n ?_
        exact ⟨rfl, _, _, ⟨rfl, rfl⟩, (by repeat (first | exact trivial | refine ⟨rfl, ?_⟩)), Imp.pick (by repeat (first | exact Pick.nil | apply Pick.keep (by repeat (first | exact List.Mem.head _ | apply List.Mem.tail)) (by first | exact Pers.cells _ _ _ | exact Pers.slv _ _ _) | apply Pick.cons (by repeat (first | exact Pick1.here | apply Pick1.there))))⟩
      · rw [hc]
        have hl : lastK d i out (k + 1) = lastK d i out k := by
          show lastStep d (i + k) (lastK d i out k) = _
          rw [← hv, hst]; simp [hc]
        rw [hl]
        refine WPC.region ?_
        refine L_s (q_move rfl) rfl ?_
        refine L_s (q_move rfl) rfl ?_
        refine L_no rfl rfl rfl rfl ?_
        refine L_no rfl rfl rfl rfl ?_
        first | refine L_s (q_pickT rfl rfl) rfl ?_ | refine L_s (q_pickF rfl rfl) rfl ?_
        refine L_s (q_move rfl) rfl ?_
        refine L_no rfl rfl rfl rfl ?_
        refine L_no rfl rfl rfl rfl ?_
        refine L_no rfl rfl rfl rfl ?_
        refine L_no rfl rfl rfl rfl ?_
        refine L_no rfl rfl rfl rfl ?_
        refine L_no rfl rfl rfl rfl ?_
        refine L_no rfl rfl rfl rfl ?_
        first | refine L_s (q_pickT rfl rfl) rfl ?_ | refine L_s (q_pickF rfl rfl) rfl ?_
        refine WPL.nil ?_
        refine thenQ_n ?_
        exact ⟨rfl, _, _, ⟨rfl, rfl⟩, (by repeat (first | exact trivial | refine ⟨rfl, ?_⟩)), Imp.pick (by repeat (first | exact Pick.nil | apply Pick.keep (by repeat (first | exact List.Mem.head _ | apply List.Mem.tail)) (by first | exact Pers.cells _ _ _ | exact Pers.slv _ _ _) | apply Pick.cons (by repeat (first | exact Pick1.here | apply Pick1.there))))⟩
    · rintro e Γ ⟨rfl, rfl⟩
      refine WPC.cond rfl (fun h1 => ?_) (fun h1 => ?_)
      · try simp only [decide_eq_true_eq, decide_eq_false_iff_not, beq_iff_eq, bne_iff_ne, beq_eq_false_iff_ne, bne_eq_false_iff_eq, Bool.not_eq_true', Bool.not_eq_false', Bool.not_eq_eq_eq_not, Bool.not_true, Bool.not_false, ne_eq, Decidable.not_not, Int.not_lt, Int.not_le, gt_iff_lt, ge_iff_le] at h1
        simp at h1
      · skip
        refine WPC.skip ?_
        refine blockQ_n ?_
        refine thenQ_n ?_
        refine WPC.region ?_
        refine L_s (q_move rfl) rfl ?_
        first | refine L_s (q_inc rfl rfl (by omega)) rfl ?_ | refine L_s (q_addI rfl rfl (by omega)) rfl ?_ | refine L_s (q_int rfl rfl rfl) rfl ?_
        refine L_s (q_assign rfl) rfl ?_
        refine WPL.nil ?_
        refine thenQ_n ?_
        exact ⟨rfl, _, _, _, by omega, ⟨k + 1, v + 1, rfl, by omega, by omega, rfl, rfl⟩, (by repeat (first | exact trivial | refine ⟨rfl, ?_⟩)), Imp.pick (by repeat (first | exact Pick.nil | apply Pick.keep (by repeat (first | exact List.Mem.head _ | apply List.Mem.tail)) (by first | exact Pers.cells _ _ _ | exact Pers.slv _ _ _) | apply Pick.cons (by repeat (first | exact Pick1.here | apply Pick1.there))))⟩
  · simp only [decide_eq_false_iff_not] at h0
    have hk2 : k = 2 := by omega
    subst hk2
    refine WPC.exit ?_
    refine thenQ_e ?_
    refine thenQ_e ?_
    refine blockQ_here ?_
    exact endR_n rfl .nil (Imp.pick (by repeat (first | exact Pick.nil | apply Pick.keep (by repeat (first | exact List.Mem.head _ | apply List.Mem.tail)) (by first | exact Pers.cells _ _ _ | exact Pers.slv _ _ _ | exact Pers.bytes _) | apply Pick.cons (by repeat (first | exact Pick1.here | apply Pick1.there))))) ⟨rfl, rfl⟩

theorem c_records {db : Nat} {i : Int} : Trip Tryd.prog 75 #[.pointer (some ⟨db, 0, none⟩), .int .i64 i] [] fun r Δ => ∃ b1 b2, r = .func (.func 80) #[] #[.pointer (some ⟨b1, 0, none⟩), .pointer (some ⟨b2, 0, none⟩)] ∧ Δ = [cells true b1 0 [.int .i64 i], cells true b2 0 [.pointer (some ⟨db, 0, none⟩)]] := by
  refine Trip.start 6 [.tmp 4] [(0, .pointer (some ⟨db, 0, none⟩)), (1, .int .i64 i)] Tryd.func75 rfl Tryd.ntmps75 rfl ⟨rfl, rfl, trivial⟩ rfl ?_
  refine WPC.seqR ?_
  first | refine WPL.cons rfl (E1.wpo (e_boxN rfl) rfl ?_) | refine WPL.cons rfl (E1.wpo (e_box1 rfl rfl) rfl ?_)
  rintro _ _ ⟨b1, rfl, rfl⟩
  refine WPL.putS ?_
  first | refine WPL.cons rfl (E1.wpo (e_boxN rfl) rfl ?_) | refine WPL.cons rfl (E1.wpo (e_box1 rfl rfl) rfl ?_)
  rintro _ _ ⟨b2, rfl, rfl⟩
  refine WPL.putS ?_
  refine L_s (q_assign rfl) rfl ?_
  refine WPL.nil ?_
  refine WPC.seqR ?_
  refine L_s (q_func rfl rfl) rfl ?_
  refine L_s (q_assign rfl) rfl ?_
  refine WPL.nil ?_
  refine WPC.ret ?_
  exact endR_r rfl (.tmp rfl .nil) (Imp.pick (by repeat (first | exact Pick.nil | apply Pick.keep (by repeat (first | exact List.Mem.head _ | apply List.Mem.tail)) (by first | exact Pers.cells _ _ _ | exact Pers.slv _ _ _ | exact Pers.bytes _) | apply Pick.cons (by repeat (first | exact Pick1.here | apply Pick1.there))))) ⟨b2, b1, rfl, rfl⟩

theorem c_last {db : Nat} {d : DK} {i : Int} (hi : 0 ≤ i ∧ i + 1 < (d.seen.length : Int)) (hd : d.ok) : Trip Tryd.prog 64 #[.pointer (some ⟨db, 0, none⟩), .int .i64 i] [disk db d, tblA] fun r Δ => ∃ a c, r = .agg #[.int .i64 (last d i).at_, .int .u32 ((last d i).seq : Int), .slice a (last d i).b.length c] ∧ Sok 1 a (last d i).b.length c ((last d i).b.map u8) ∧ Δ = [disk db d, sl false a ((last d i).b.map u8)] := by
  have hdn := hd.n
  refine Trip.startM 21 [.cell 4 115] [(0, .pointer (some ⟨db, 0, none⟩)), (1, .int .i64 i)] Tryd.func64 rfl Tryd.ntmps64 rfl ⟨rfl, rfl, trivial⟩ rfl ?_
  refine WPC.seqR ?_
  refine WPL.cons rfl (E1.wpo (e_allocL zl_slot_record) rfl ?_)
  rintro _ _ ⟨br, rfl, rfl⟩
  refine WPL.putS ?_
  refine WPL.nil ?_
  refine WPC.seqR ?_
  refine L_s (q_move rfl) rfl ?_
  first | refine L_s (q_inc rfl rfl (by omega)) rfl ?_ | refine L_s (q_addI rfl rfl (by omega)) rfl ?_ | refine L_s (q_int rfl rfl rfl) rfl ?_
  refine L_s (q_build (cs := [_, _, _]) pl_slot_record rfl rfl) rfl ?_
  refine WPL.cons rfl (E1.wpo (e_allocL zl_slot_record) rfl ?_)
  rintro _ _ ⟨bo, rfl, rfl⟩
  refine WPL.putS ?_
  refine WPL.cons rfl (S1.wpo (s_storeNz sz_slot_record rfl rfl (by simp [Value.oneCell']) rfl (by repeat (first | exact Upd.here | apply Upd.there)) (by repeat constructor)) rfl ?_)
  refine WPL.putN ?_
  refine WPL.nil ?_
  refine WPC.seq ?_
  refine WPC.seqR ?_
  refine L_s (q_move rfl) rfl ?_
  refine L_s (q_move rfl) rfl ?_
  refine WPL.cons rfl (C1.call (c_call Tryd.func75 rfl rfl rfl) c_records (by repeat (first | exact Pick.nil | apply Pick.keep (by repeat (first | exact List.Mem.head _ | apply List.Mem.tail)) (by first | exact Pers.cells _ _ _ | exact Pers.slv _ _ _) | apply Pick.cons (by repeat (first | exact Pick1.here | apply Pick1.there)))) rfl ?_)
  rintro _ _ ⟨b1, b2, rfl, rfl⟩
  refine WPL.putS ?_
  refine WPL.nil ?_
  refine WPC.block ?_
  refine WPC.rangeFunc rfl Tryd.func80 rfl rfl (fun l D rec hst hpd hps has hbo hokk => ?_)
  have hY : ∀ (x : SR) (a : Option Addr) (c : Nat) (out : SR), Sok 1 a x.b.length c (x.b.map u8) → YTrip Tryd.prog l #[(.agg #[.int .i64 x.at_, .int .u32 (x.seq : Int), .slice a x.b.length c])] [objc true l (.loop rec), outA bo out, sl false a (x.b.map u8)] (fun v Δ => v = .bool true ∧ Δ = [objc true l (.loop rec), outA bo (if out.seq < x.seq then x else out)]) := by
    intro x a c out hsx
    refine YTrip.round hst hpd hps rfl hokk ?_
    rw [has]
    refine WPR.region rfl ?_
    refine WPL.imp (Imp.pick (Δ := [outA bo out, objc true l (.loop rec), sl false a (x.b.map u8)]) (by repeat (first | exact Pick.nil | apply Pick.keep (by repeat (first | exact List.Mem.head _ | apply List.Mem.tail)) (by first | exact Pers.cells _ _ _ | exact Pers.slv _ _ _ | exact Pers.bytes _) | apply Pick.cons (by repeat (first | exact Pick1.here | apply Pick1.there))))) ?_
    refine WPL.exg (L := fun L => outL bo out L) fun L => WPL.pure fun hL => ?_
    refine WPL.cons rfl (E1.wpo (e_allocL zl_slot_record) rfl ?_)
    rintro _ _ ⟨bx, rfl, rfl⟩
    refine WPL.putS ?_
    refine WPL.cons rfl (S1.wpo (s_storeNz sz_slot_record rfl rfl (by simp [Value.oneCell']) rfl (by repeat (first | exact Upd.here | apply Upd.there)) (by repeat constructor)) rfl ?_)
    refine WPL.putN ?_
    refine WPL.nil ?_
    refine assignQ_n [cells true bx 0 [.int .i64 x.at_, .int .u32 (x.seq : Int), .slice a x.b.length c], cells true bo 0 [.int .i64 out.at_, .int .u32 (out.seq : Int), .slice L.1 out.b.length L.2], sl false L.1 (out.b.map u8), sl false a (x.b.map u8)] (Imp.pick (by repeat (first | exact Pick.nil | apply Pick.keep (by repeat (first | exact List.Mem.head _ | apply List.Mem.tail)) (by first | exact Pers.cells _ _ _ | exact Pers.slv _ _ _ | exact Pers.bytes _) | apply Pick.cons (by repeat (first | exact Pick1.here | apply Pick1.there))))) hbo ?_
    refine WPR.block ?_
    refine WPR.seq ?_
    refine WPR.region rfl ?_
    first | refine L_s (q_faK fa_slot_record_seq rfl) rfl ?_ | refine L_s (q_fa fa_slot_record_seq rfl) rfl ?_
    first | refine L_s (q_load1z ld_uint32 rfl (by repeat (first | exact List.Mem.head _ | apply List.Mem.tail)) (by rfl)) rfl ?_ | refine L_s (q_load1 ld_uint32 rfl (by repeat (first | exact List.Mem.head _ | apply List.Mem.tail)) rfl (by rfl)) rfl ?_
    first | refine L_s (q_faK fa_slot_record_seq rfl) rfl ?_ | refine L_s (q_fa fa_slot_record_seq rfl) rfl ?_
    first | refine L_s (q_load1z ld_uint32 rfl (by repeat (first | exact List.Mem.head _ | apply List.Mem.tail)) (by rfl)) rfl ?_ | refine L_s (q_load1 ld_uint32 rfl (by repeat (first | exact List.Mem.head _ | apply List.Mem.tail)) rfl (by rfl)) rfl ?_
    refine L_s (q_int rfl rfl rfl) rfl ?_
    refine WPL.nil ?_
    refine thenQ_n ?_
    refine WPR.cond rfl (fun h0 => ?_) (fun h0 => ?_)
    · simp only [decide_eq_true_eq] at h0
      refine WPR.region rfl ?_
      first | refine L_s (q_loadNz (us := [_, _, _]) ld_slot_record rfl (by repeat (first | exact List.Mem.head _ | apply List.Mem.tail)) (by exact ⟨rfl, rfl⟩)) rfl ?_ | refine L_s (q_loadNk (us := [_, _, _]) ld_slot_record rfl (by repeat (first | exact List.Mem.head _ | apply List.Mem.tail)) (by exact ⟨rfl, rfl⟩)) rfl ?_
      refine WPL.cons rfl (S1.wpo (s_storeNz sz_slot_record rfl rfl (by simp [Value.oneCell']) rfl (by repeat (first | exact Upd.here | apply Upd.there)) (by repeat constructor)) rfl ?_)
      refine WPL.putN ?_
      refine WPL.nil ?_
      refine blockQ_n ?_
      refine roundQ_n [outA bo x] ((Imp.pick (Δ := [cells true bo 0 [.int .i64 x.at_, .int .u32 (x.seq : Int), .slice a x.b.length c], sl false a (x.b.map u8), objc true l (.loop { rec with state := .busy })]) (by repeat (first | exact Pick.nil | apply Pick.keep (by repeat (first | exact List.Mem.head _ | apply List.Mem.tail)) (by first | exact Pers.cells _ _ _ | exact Pers.slv _ _ _ | exact Pers.bytes _) | apply Pick.cons (by repeat (first | exact Pick1.here | apply Pick1.there))))).trans ((outA_close a c hsx).trans (Imp.perm (.swap _ _ _)))) ⟨rfl, by rw [if_pos (by omega)]⟩
    · simp only [decide_eq_false_iff_not] at h0
      refine WPR.skip ?_
      refine blockQ_n ?_
      refine roundQ_n [outA bo out] ((Imp.pick (Δ := [cells true bo 0 [.int .i64 out.at_, .int .u32 (out.seq : Int), .slice L.1 out.b.length L.2], sl false L.1 (out.b.map u8), objc true l (.loop { rec with state := .busy })]) (by repeat (first | exact Pick.nil | apply Pick.keep (by repeat (first | exact List.Mem.head _ | apply List.Mem.tail)) (by first | exact Pers.cells _ _ _ | exact Pers.slv _ _ _ | exact Pers.bytes _) | apply Pick.cons (by repeat (first | exact Pick1.here | apply Pick1.there))))).trans ((outA_close L.1 L.2 hL).trans (Imp.perm (.swap _ _ _)))) ⟨rfl, by rw [if_neg (by omega)]⟩
  refine Trip.mono (Trip.imp ((Imp.slEmpty (p := false) (a := none)).trans ((Imp.pick (Δ := [cells true bo 0 [.int .i64 (⟨i + 1, 0, []⟩ : SR).at_, .int .u32 ((⟨i + 1, 0, []⟩ : SR).seq : Int), .slice none (⟨i + 1, 0, []⟩ : SR).b.length 0], sl false none (([] : List By).map u8), objc true l (.loop rec), cells true b1 0 [.int .i64 i], cells true b2 0 [.pointer (some ⟨db, 0, none⟩)], disk db d, tblA, cells true br 0 [.int .i64 0, .int .u32 0, .slice none 0 0]]) (by repeat (first | exact Pick.nil | apply Pick.keep (by repeat (first | exact List.Mem.head _ | apply List.Mem.tail)) (by first | exact Pers.cells _ _ _ | exact Pers.slv _ _ _ | exact Pers.bytes _) | apply Pick.cons (by repeat (first | exact Pick1.here | apply Pick1.there))))).trans ((outA_close (bo := bo) (r := (⟨i + 1, 0, []⟩ : SR)) none 0 ⟨rfl, Nat.le_refl _, .inl rfl⟩).trans (Imp.perm (.swap _ _ _))))) ((c_records1 (p1 := true) (p2 := true) (out := (⟨i + 1, 0, []⟩ : SR)) hi hd hY).frame [cells true br 0 [.int .i64 0, .int .u32 0, .slice none 0 0]])) ?_
  rintro _ _ ⟨Δ', ⟨rfl, rfl⟩, rfl⟩
  refine ⟨_, rfl, ?_⟩
  refine blockQ_n ?_
  refine thenQ_n ?_
  refine WPC.seqR ?_
  rw [show lastK d i (⟨i + 1, 0, []⟩ : SR) 2 = last d i from last_eq d i]
  refine WPL.imp (Imp.pick (Δ := [outA bo (last d i), objc true D (.deferred (some [])), disk db d, cells true br 0 [.int .i64 0, .int .u32 0, .slice none 0 0]]) (by repeat (first | exact Pick.nil | apply Pick.keep (by repeat (first | exact List.Mem.head _ | apply List.Mem.tail)) (by first | exact Pers.cells _ _ _ | exact Pers.slv _ _ _ | exact Pers.bytes _) | apply Pick.cons (by repeat (first | exact Pick1.here | apply Pick1.there))))) ?_
  refine WPL.exg (L := fun L => outL bo (last d i) L) fun L => WPL.pure fun hL => ?_
  first | refine L_s (q_loadNz (us := [_, _, _]) ld_slot_record rfl (by repeat (first | exact List.Mem.head _ | apply List.Mem.tail)) (by exact ⟨rfl, rfl⟩)) rfl ?_ | refine L_s (q_loadNk (us := [_, _, _]) ld_slot_record rfl (by repeat (first | exact List.Mem.head _ | apply List.Mem.tail)) (by exact ⟨rfl, rfl⟩)) rfl ?_
  refine WPL.cons rfl (S1.wpo (s_storeNz sz_slot_record rfl rfl (by simp [Value.oneCell']) rfl (by repeat (first | exact Upd.here | apply Upd.there)) (by repeat constructor)) rfl ?_)
  refine WPL.putN ?_
  refine WPL.nil ?_
  refine WPC.ret ?_
  exact endRM_r rfl (Imp.pick (Δ := [objc true D (.deferred (some [])), cells true br 0 [.int .i64 (last d i).at_, .int .u32 ((last d i).seq : Int), .slice L.1 (last d i).b.length L.2], disk db d, sl false L.1 ((last d i).b.map u8)]) (by repeat (first | exact Pick.nil | apply Pick.keep (by repeat (first | exact List.Mem.head _ | apply List.Mem.tail)) (by first | exact Pers.cells _ _ _ | exact Pers.slv _ _ _ | exact Pers.bytes _) | apply Pick.cons (by repeat (first | exact Pick1.here | apply Pick1.there))))) (.cellN (us := [_, _, _]) rfl ld_slot_record (by repeat (first | exact List.Mem.head _ | apply List.Mem.tail)) rfl rfl .nil) (Imp.pick (by repeat (first | exact Pick.nil | apply Pick.keep (by repeat (first | exact List.Mem.head _ | apply List.Mem.tail)) (by first | exact Pers.cells _ _ _ | exact Pers.slv _ _ _ | exact Pers.bytes _) | apply Pick.cons (by repeat (first | exact Pick1.here | apply Pick1.there))))) ⟨L.1, L.2, rfl, hL, rfl⟩

end Go.Sl
