/- Walks: JournalGaps. -/
import Derived.Test.YtdbpjcplmfkgaaaDoorJQ
namespace Go.Sl
open Go Go.RowKit Go.Proofs
set_option linter.unusedSimpArgs false
set_option linter.unusedVariables false
attribute [local irreducible] faB szB ldB zB zL slB mkB arB plB intB cells objc star stars buf slv grp whole Sat WPC WPL WPA WPO Trip

theorem Inv.hln {n T : Nat} {d : DK} {j : JN} (h : Inv n T d j) : j.held.length ≤ n := by
  obtain ⟨_, _, h⟩ := h
  have h2 := h.hl; have h3 := h.hlen
  omega
theorem c_AllR {b db : Nat} {j : JN} (hb : ∀ x ∈ j.held, x.2.length ≤ 43) (hn : j.held.length ≤ 1000) : Trip Tryd.prog 11 #[.pointer (some ⟨b, 0, none⟩)] [jour b db j] (fun r Δ => ∃ (a : Option Addr) (c : Nat) (ys : List BS), r = .slice a ys.length c ∧ Sok 1 a ys.length c (ys.map bsV) ∧ ys.map BS.bs = j.held.map (·.2) ∧ (∀ y ∈ ys, y.ok) ∧ Δ = [jour b db j, sl false a (ys.map bsV), bytes ys]) := by
  refine (c_All (b := b) (db := db) (fun x hx => by have := hb x hx; omega) hn).post ?_
  rintro v _ ⟨a, c, ys, rfl, h1, h2, h3, rfl⟩
  refine ⟨_, ⟨a, c, ys, rfl, h1, h2, h3, rfl⟩, ?_⟩
  exact ((Imp.pick (Δ := [buf 1 a ys.length c (ys.map bsV), jour b db j, bytes ys]) (by repeat (first | exact Pick.nil | apply Pick.keep (by repeat (first | exact List.Mem.head _ | apply List.Mem.tail)) (by first | exact Pers.cells _ _ _ | exact Pers.slv _ _ _ | exact Pers.bytes _) | apply Pick.cons (by repeat (first | exact Pick1.here | apply Pick1.there))))).trans Imp.bufRo).trans ((Imp.drop _ _).trans (Imp.pick (by repeat (first | exact Pick.nil | apply Pick.keep (by repeat (first | exact List.Mem.head _ | apply List.Mem.tail)) (by first | exact Pers.cells _ _ _ | exact Pers.slv _ _ _ | exact Pers.bytes _) | apply Pick.cons (by repeat (first | exact Pick1.here | apply Pick1.there))))))
theorem c_Same06g {a a2 : Option Addr} {c c2 n1 n2 : Nat} {p q : Bool} {ys zs : List BS} (h1 : ys.length = n1) (h2 : zs.length = n2) (hs : Sok 1 a n1 c (ys.map bsV)) (ht : Sok 1 a2 n2 c2 (zs.map bsV)) (hx : ys.length ≤ 9223372036854775807) (hy : ∀ y ∈ ys, y.ok ∧ y.bs.length ≤ 9223372036854775807) (hz : ∀ z ∈ zs, z.ok) :
    Trip Tryd.prog 15 #[.slice a n1 c, .slice a2 n2 c2] [sl p a (ys.map bsV), bytes ys, sl q a2 (zs.map bsV), bytes zs] (fun r Δ => r = .bool (decide (ys.map BS.bs = zs.map BS.bs)) ∧ Δ = [sl p a (ys.map bsV), sl q a2 (zs.map bsV)]) := by
  subst h1 h2
  exact c_Same06 hs ht hx hy hz
theorem c_apI {b db bA n T : Nat} {d : DK} {j : JN} (xs : List By) {vs : List Value} (hv : vs = xs.map u8) (hI : Inv n T d j) : Trip Tryd.prog 12 #[.pointer (some ⟨b, 0, none⟩), .slice (some ⟨bA, 0, none⟩) xs.length xs.length] [jour b db j, disk db d, tblA, cells true bA 0 vs] (fun r Δ => r = .int .i64 (jappend d j xs).2.2 ∧ Δ = [jour b db (jappend d j xs).2.1, disk db (jappend d j xs).1]) := by
  subst hv
  have hpl := hI.pl
  refine Trip.imp ((Imp.pick (Δ := [cells true bA 0 (xs.map u8), jour b db j, disk db d, tblA]) (by repeat (first | exact Pick.nil | apply Pick.keep (by repeat (first | exact List.Mem.head _ | apply List.Mem.tail)) (by first | exact Pers.cells _ _ _ | exact Pers.slv _ _ _ | exact Pers.bytes _) | apply Pick.cons (by repeat (first | exact Pick1.here | apply Pick1.there))))).trans ((Imp.freeze _ _ _ _).trans (Imp.pick (by repeat (first | exact Pick.nil | apply Pick.keep (by repeat (first | exact List.Mem.head _ | apply List.Mem.tail)) (by first | exact Pers.cells _ _ _ | exact Pers.slv _ _ _ | exact Pers.bytes _) | apply Pick.cons (by repeat (first | exact Pick1.here | apply Pick1.there))))))) (c_JAppend (a := some ⟨bA, 0, none⟩) (c := xs.length) hI.jok hI.ok (by omega) ⟨by simp, Nat.le_refl _, .inr (Pl.mk _ _)⟩)
/-- What a crash leaves is the beginning of what there was. -/
theorem gaps_take {H : List (Nat × List By)} {E i : Nat} {fr : List (List By)} (hi : i ≤ fr.length) : (H ++ frE E (fr.take i)).map (·.2) = ((H ++ frE E fr).map (·.2)).take (H.length + i) := by
  have e : ∀ l : List (List By), (frE E l).map (·.2) = l := fun l => by unfold frE; rw [List.map_map]; exact List.map_id l
  rw [List.map_append, List.map_append, e, e, show H.length + i = (H.map (·.2)).length + i by rw [List.length_map], List.take_length_add_append]
theorem map_take_bs {zs : List BS} (m : Nat) : (zs.take m).map BS.bs = (zs.map BS.bs).take m := by rw [List.map_take]
theorem map_drop_bs {zs : List BS} (m : Nat) : (zs.drop m).map BS.bs = (zs.map BS.bs).drop m := by rw [List.map_drop]
def MoreD (D : A) (l : List BS) : Prop := ∀ x ∈ l, x.ok ∧ ∀ Γ, Imp (D :: Γ) (x.at_ :: D :: Γ)

theorem c_GapsNil {D : A} (hD : Pers D) {n : Int} {a : Option Addr} {c : Nat} {ops : List OpV} (hs : Sok 4 a ops.length c (ops.flatMap encO)) {ma pa : Option Addr} {mc pc : Nat} {more : List BS} {ps : List Int} (hm : Sok 1 ma more.length mc (more.map bsV)) (hp : Sok 1 pa ps.length pc (ps.map (.int .i64))) (hg : ¬ (1 ≤ n ∧ n ≤ 17 ∧ ops.length ≤ 30)) : Trip Tryd.prog 3 #[.int .i64 n, .slice a ops.length c, .slice ma more.length mc, .slice pa ps.length pc] [sl false a (ops.flatMap encO), tblA, D, sl false ma (more.map bsV), sl false pa (ps.map (.int .i64))] fun r Δ => r = .bool true ∧ Δ = [] := by
  refine Trip.start 100 [.tmp 8] [(0, .int .i64 n), (1, .slice a ops.length c), (2, .slice ma more.length mc), (3, .slice pa ps.length pc)] Tryd.func3 rfl Tryd.ntmps3 rfl ⟨rfl, rfl, rfl, rfl, trivial⟩ rfl ?_
  refine WPC.seqR ?_
  refine L_s (q_assign rfl) rfl ?_
  refine WPL.nil ?_
  refine WPC.seqR ?_
  refine WPL.cons rfl (C1.call (c_call Tryd.func8 rfl rfl rfl) c_awake (by repeat (first | exact Pick.nil | apply Pick.keep (by repeat (first | exact List.Mem.head _ | apply List.Mem.tail)) (by first | exact Pers.cells _ _ _ | exact Pers.slv _ _ _ | exact hD | exact Pers.bytes _) | apply Pick.cons (by repeat (first | exact Pick1.here | apply Pick1.there)))) rfl ?_)
  rintro _ _ ⟨rfl, rfl⟩
  refine WPL.putS ?_
  refine L_s (q_assign rfl) rfl ?_
  refine WPL.nil ?_
  refine WPC.seqR ?_
  refine L_s (q_move rfl) rfl ?_
  refine L_s (q_move rfl) rfl ?_
  refine WPL.cons rfl (C1.call (c_call Tryd.func9 rfl rfl rfl) (c_madeNil hD hs hg) (by repeat (first | exact Pick.nil | apply Pick.keep (by repeat (first | exact List.Mem.head _ | apply List.Mem.tail)) (by first | exact Pers.cells _ _ _ | exact Pers.slv _ _ _ | exact hD | exact Pers.bytes _) | apply Pick.cons (by repeat (first | exact Pick1.here | apply Pick1.there)))) rfl ?_)
  rintro _ _ ⟨rfl, rfl⟩
  refine WPL.putS ?_
  refine L_s (q_move rfl) rfl ?_
  refine L_s (q_extract rfl rfl) rfl ?_
  refine L_s (q_extract rfl rfl) rfl ?_
  refine L_s (q_assign rfl) rfl ?_
  refine L_s (q_assign rfl) rfl ?_
  refine WPL.nil ?_
  refine WPC.seq ?_
  refine WPC.seqR ?_
  refine L_s (q_move rfl) rfl ?_
  first | refine L_s (q_ptNilEq un_ptr_disk_Disk rfl rfl) rfl ?_ | refine L_s (q_ptNoneEq un_ptr_disk_Disk rfl rfl) rfl ?_
  refine L_s (q_move rfl) rfl ?_
  apply WPL.joinO (e' := [(0, _), (2, _), (3, _), (8, _), (9, _), (10, _), (11, _)]) 28 31 3 rfl
  · intro g3_2
    try simp only [decide_eq_true_eq, decide_eq_false_iff_not, beq_iff_eq, bne_iff_ne, beq_eq_false_iff_ne, bne_eq_false_iff_eq, Bool.not_eq_true', Bool.not_eq_false', Bool.not_eq_eq_eq_not, Bool.not_true, Bool.not_false, ne_eq, Decidable.not_not, Int.not_lt, Int.not_le, gt_iff_lt, ge_iff_le] at g3_2
    refine L_no rfl rfl rfl rfl ?_
    refine L_no rfl rfl rfl rfl ?_
    first | refine L_s (q_pickT rfl rfl) rfl ?_ | refine L_s (q_pickF rfl rfl) rfl ?_
    first | exact WPL.jn rfl rfl (by repeat (first | exact trivial | refine ⟨rfl, ?_⟩)) | exact WPL.jnI rfl rfl (by repeat (first | exact trivial | refine ⟨rfl, ?_⟩)) (Imp.pick (by repeat (first | exact Pick.nil | apply Pick.keep (by repeat (first | exact List.Mem.head _ | apply List.Mem.tail)) (by first | exact Pers.cells _ _ _ | exact Pers.slv _ _ _ | exact hD | exact Pers.bytes _) | apply Pick.cons (by repeat (first | exact Pick1.here | apply Pick1.there)))))
  · intro g3_2
    try simp only [decide_eq_true_eq, decide_eq_false_iff_not, beq_iff_eq, bne_iff_ne, beq_eq_false_iff_ne, bne_eq_false_iff_eq, Bool.not_eq_true', Bool.not_eq_false', Bool.not_eq_eq_eq_not, Bool.not_true, Bool.not_false, ne_eq, Decidable.not_not, Int.not_lt, Int.not_le, gt_iff_lt, ge_iff_le] at g3_2
    refine L_yes rfl rfl (q_move rfl) rfl ?_
    first | refine L_yes rfl rfl (q_ptNilEq un_ptr_journal_Journal rfl rfl) rfl ?_ | refine L_yes rfl rfl (q_ptNoneEq un_ptr_journal_Journal rfl rfl) rfl ?_
    first | refine L_s (q_pickT rfl rfl) rfl ?_ | refine L_s (q_pickF rfl rfl) rfl ?_
    first | exact WPL.jn rfl rfl (by repeat (first | exact trivial | refine ⟨rfl, ?_⟩)) | exact WPL.jnI rfl rfl (by repeat (first | exact trivial | refine ⟨rfl, ?_⟩)) (Imp.pick (by repeat (first | exact Pick.nil | apply Pick.keep (by repeat (first | exact List.Mem.head _ | apply List.Mem.tail)) (by first | exact Pers.cells _ _ _ | exact Pers.slv _ _ _ | exact hD | exact Pers.bytes _) | apply Pick.cons (by repeat (first | exact Pick1.here | apply Pick1.there)))))
  refine L_s (q_move rfl) rfl ?_
  apply WPL.joinO (e' := [(0, _), (2, _), (3, _), (8, _), (9, _), (10, _), (11, _)]) 32 36 4 rfl
  · intro g3_6
    try simp only [decide_eq_true_eq, decide_eq_false_iff_not, beq_iff_eq, bne_iff_ne, beq_eq_false_iff_ne, bne_eq_false_iff_eq, Bool.not_eq_true', Bool.not_eq_false', Bool.not_eq_eq_eq_not, Bool.not_true, Bool.not_false, ne_eq, Decidable.not_not, Int.not_lt, Int.not_le, gt_iff_lt, ge_iff_le] at g3_6
    refine L_no rfl rfl rfl rfl ?_
    refine L_no rfl rfl rfl rfl ?_
    refine L_no rfl rfl rfl rfl ?_
    first | refine L_s (q_pickT rfl rfl) rfl ?_ | refine L_s (q_pickF rfl rfl) rfl ?_
    first | exact WPL.jn rfl rfl (by repeat (first | exact trivial | refine ⟨rfl, ?_⟩)) | exact WPL.jnI rfl rfl (by repeat (first | exact trivial | refine ⟨rfl, ?_⟩)) (Imp.pick (by repeat (first | exact Pick.nil | apply Pick.keep (by repeat (first | exact List.Mem.head _ | apply List.Mem.tail)) (by first | exact Pers.cells _ _ _ | exact Pers.slv _ _ _ | exact hD | exact Pers.bytes _) | apply Pick.cons (by repeat (first | exact Pick1.here | apply Pick1.there)))))
  · intro g3_6
    try simp only [decide_eq_true_eq, decide_eq_false_iff_not, beq_iff_eq, bne_iff_ne, beq_eq_false_iff_ne, bne_eq_false_iff_eq, Bool.not_eq_true', Bool.not_eq_false', Bool.not_eq_eq_eq_not, Bool.not_true, Bool.not_false, ne_eq, Decidable.not_not, Int.not_lt, Int.not_le, gt_iff_lt, ge_iff_le] at g3_6
    refine L_yes rfl rfl (q_move rfl) rfl ?_
    refine L_yes rfl rfl (q_len rfl un_sl_sl_uint8 rfl) rfl ?_
    refine L_yes rfl rfl (q_int rfl rfl rfl) rfl ?_
    first | refine L_s (q_pickT rfl rfl) rfl ?_ | refine L_s (q_pickF rfl rfl) rfl ?_
    first | exact WPL.jn rfl rfl (by repeat (first | exact trivial | refine ⟨rfl, ?_⟩)) | exact WPL.jnI rfl rfl (by repeat (first | exact trivial | refine ⟨rfl, ?_⟩)) (Imp.pick (by repeat (first | exact Pick.nil | apply Pick.keep (by repeat (first | exact List.Mem.head _ | apply List.Mem.tail)) (by first | exact Pers.cells _ _ _ | exact Pers.slv _ _ _ | exact hD | exact Pers.bytes _) | apply Pick.cons (by repeat (first | exact Pick1.here | apply Pick1.there)))))
  refine WPL.nil ?_
  refine WPC.cond rfl (fun h0 => ?_) (fun h0 => ?_)
  · skip
    refine WPC.seqR ?_
    refine L_s (q_move rfl) rfl ?_
    refine L_s (q_assign rfl) rfl ?_
    refine WPL.nil ?_
    refine WPC.ret ?_
    refine thenQ_r ?_
    exact endR_r rfl (.tmp rfl .nil) (Imp.pick (by repeat (first | exact Pick.nil | apply Pick.keep (by repeat (first | exact List.Mem.head _ | apply List.Mem.tail)) (by first | exact Pers.cells _ _ _ | exact Pers.slv _ _ _ | exact Pers.bytes _) | apply Pick.cons (by repeat (first | exact Pick1.here | apply Pick1.there))))) ⟨rfl, rfl⟩
  · try simp only [decide_eq_true_eq, decide_eq_false_iff_not, beq_iff_eq, bne_iff_ne, beq_eq_false_iff_ne, bne_eq_false_iff_eq, Bool.not_eq_true', Bool.not_eq_false', Bool.not_eq_eq_eq_not, Bool.not_true, Bool.not_false, ne_eq, Decidable.not_not, Int.not_lt, Int.not_le, gt_iff_lt, ge_iff_le] at h0
    simp at h0

theorem c_Gaps {D : A} (hD : Pers D) {n : Nat} {a : Option Addr} {c : Nat} {ops : List OpV} (hs : Sok 4 a ops.length c (ops.flatMap encO)) {ma pa : Option Addr} {mc pc : Nat} {more : List BS} {ps : List Int} (hm : Sok 1 ma more.length mc (more.map bsV)) (hp : Sok 1 pa ps.length pc (ps.map (.int .i64))) (hn : 1 ≤ n ∧ n ≤ 17) (hlen : ops.length ≤ 30) (hops : OpsD D ops) (hmore : MoreD D more) : Trip Tryd.prog 3 #[.int .i64 (n : Int), .slice a ops.length c, .slice ma more.length mc, .slice pa ps.length pc] [sl false a (ops.flatMap encO), tblA, D, sl false ma (more.map bsV), sl false pa (ps.map (.int .i64))] fun r Δ => r = .bool true ∧ Δ = [] := by
  refine Trip.start 100 [.tmp 8] [(0, .int .i64 (n : Int)), (1, .slice a ops.length c), (2, .slice ma more.length mc), (3, .slice pa ps.length pc)] Tryd.func3 rfl Tryd.ntmps3 rfl ⟨rfl, rfl, rfl, rfl, trivial⟩ rfl ?_
  refine WPC.seqR ?_
  refine L_s (q_assign rfl) rfl ?_
  refine WPL.nil ?_
  refine WPC.seqR ?_
  refine WPL.cons rfl (C1.call (c_call Tryd.func8 rfl rfl rfl) c_awake (by repeat (first | exact Pick.nil | apply Pick.keep (by repeat (first | exact List.Mem.head _ | apply List.Mem.tail)) (by first | exact Pers.cells _ _ _ | exact Pers.slv _ _ _ | exact hD | exact Pers.bytes _) | apply Pick.cons (by repeat (first | exact Pick1.here | apply Pick1.there)))) rfl ?_)
  rintro _ _ ⟨rfl, rfl⟩
  refine WPL.putS ?_
  refine L_s (q_assign rfl) rfl ?_
  refine WPL.nil ?_
  refine WPC.seqR ?_
  refine L_s (q_move rfl) rfl ?_
  refine L_s (q_move rfl) rfl ?_
  refine WPL.cons rfl (C1.call (c_call Tryd.func9 rfl rfl rfl) (c_made hD hs hn hlen hops) (by repeat (first | exact Pick.nil | apply Pick.keep (by repeat (first | exact List.Mem.head _ | apply List.Mem.tail)) (by first | exact Pers.cells _ _ _ | exact Pers.slv _ _ _ | exact hD | exact Pers.bytes _) | apply Pick.cons (by repeat (first | exact Pick1.here | apply Pick1.there)))) rfl ?_)
  rintro _ _ ⟨db, b, d, j, T, hT, rfl, ⟨old, fr0, hJ⟩, rfl⟩
  have hb0 := hJ.hb
  have hhl := hJ.hlen
  have hn1 := hJ.n1
  have hhn := hJ.hl
  have hpl := hJ.pl
  refine WPL.putS ?_
  refine L_s (q_move rfl) rfl ?_
  refine L_s (q_extract rfl rfl) rfl ?_
  refine L_s (q_extract rfl rfl) rfl ?_
  refine L_s (q_assign rfl) rfl ?_
  refine L_s (q_assign rfl) rfl ?_
  refine WPL.nil ?_
  refine WPC.seq ?_
  refine WPC.seqR ?_
  refine L_s (q_move rfl) rfl ?_
  first | refine L_s (q_ptNilEq un_ptr_disk_Disk rfl rfl) rfl ?_ | refine L_s (q_ptNoneEq un_ptr_disk_Disk rfl rfl) rfl ?_
  refine L_s (q_move rfl) rfl ?_
  apply WPL.joinO (e' := [(0, _), (2, _), (3, _), (8, _), (9, _), (10, _), (11, _)]) 28 31 3 rfl
  · intro g3_2
    try simp only [decide_eq_true_eq, decide_eq_false_iff_not, beq_iff_eq, bne_iff_ne, beq_eq_false_iff_ne, bne_eq_false_iff_eq, Bool.not_eq_true', Bool.not_eq_false', Bool.not_eq_eq_eq_not, Bool.not_true, Bool.not_false, ne_eq, Decidable.not_not, Int.not_lt, Int.not_le, gt_iff_lt, ge_iff_le] at g3_2
    refine L_no rfl rfl rfl rfl ?_
    refine L_no rfl rfl rfl rfl ?_
    first | refine L_s (q_pickT rfl rfl) rfl ?_ | refine L_s (q_pickF rfl rfl) rfl ?_
    first | exact WPL.jn rfl rfl (by repeat (first | exact trivial | refine ⟨rfl, ?_⟩)) | exact WPL.jnI rfl rfl (by repeat (first | exact trivial | refine ⟨rfl, ?_⟩)) (Imp.pick (by repeat (first | exact Pick.nil | apply Pick.keep (by repeat (first | exact List.Mem.head _ | apply List.Mem.tail)) (by first | exact Pers.cells _ _ _ | exact Pers.slv _ _ _ | exact hD | exact Pers.bytes _) | apply Pick.cons (by repeat (first | exact Pick1.here | apply Pick1.there)))))
  · intro g3_2
    try simp only [decide_eq_true_eq, decide_eq_false_iff_not, beq_iff_eq, bne_iff_ne, beq_eq_false_iff_ne, bne_eq_false_iff_eq, Bool.not_eq_true', Bool.not_eq_false', Bool.not_eq_eq_eq_not, Bool.not_true, Bool.not_false, ne_eq, Decidable.not_not, Int.not_lt, Int.not_le, gt_iff_lt, ge_iff_le] at g3_2
    refine L_yes rfl rfl (q_move rfl) rfl ?_
    first | refine L_yes rfl rfl (q_ptNilEq un_ptr_journal_Journal rfl rfl) rfl ?_ | refine L_yes rfl rfl (q_ptNoneEq un_ptr_journal_Journal rfl rfl) rfl ?_
    first | refine L_s (q_pickT rfl rfl) rfl ?_ | refine L_s (q_pickF rfl rfl) rfl ?_
    first | exact WPL.jn rfl rfl (by repeat (first | exact trivial | refine ⟨rfl, ?_⟩)) | exact WPL.jnI rfl rfl (by repeat (first | exact trivial | refine ⟨rfl, ?_⟩)) (Imp.pick (by repeat (first | exact Pick.nil | apply Pick.keep (by repeat (first | exact List.Mem.head _ | apply List.Mem.tail)) (by first | exact Pers.cells _ _ _ | exact Pers.slv _ _ _ | exact hD | exact Pers.bytes _) | apply Pick.cons (by repeat (first | exact Pick1.here | apply Pick1.there)))))
  refine L_s (q_move rfl) rfl ?_
  apply WPL.joinO (e' := [(0, _), (2, _), (3, _), (8, _), (9, _), (10, _), (11, _)]) 32 36 4 rfl
  · intro g3_6
    try simp only [decide_eq_true_eq, decide_eq_false_iff_not, beq_iff_eq, bne_iff_ne, beq_eq_false_iff_ne, bne_eq_false_iff_eq, Bool.not_eq_true', Bool.not_eq_false', Bool.not_eq_eq_eq_not, Bool.not_true, Bool.not_false, ne_eq, Decidable.not_not, Int.not_lt, Int.not_le, gt_iff_lt, ge_iff_le] at g3_6
    refine L_no rfl rfl rfl rfl ?_
    refine L_no rfl rfl rfl rfl ?_
    refine L_no rfl rfl rfl rfl ?_
    first | refine L_s (q_pickT rfl rfl) rfl ?_ | refine L_s (q_pickF rfl rfl) rfl ?_
    first | exact WPL.jn rfl rfl (by repeat (first | exact trivial | refine ⟨rfl, ?_⟩)) | exact WPL.jnI rfl rfl (by repeat (first | exact trivial | refine ⟨rfl, ?_⟩)) (Imp.pick (by repeat (first | exact Pick.nil | apply Pick.keep (by repeat (first | exact List.Mem.head _ | apply List.Mem.tail)) (by first | exact Pers.cells _ _ _ | exact Pers.slv _ _ _ | exact hD | exact Pers.bytes _) | apply Pick.cons (by repeat (first | exact Pick1.here | apply Pick1.there)))))
  · intro g3_6
    try simp only [decide_eq_true_eq, decide_eq_false_iff_not, beq_iff_eq, bne_iff_ne, beq_eq_false_iff_ne, bne_eq_false_iff_eq, Bool.not_eq_true', Bool.not_eq_false', Bool.not_eq_eq_eq_not, Bool.not_true, Bool.not_false, ne_eq, Decidable.not_not, Int.not_lt, Int.not_le, gt_iff_lt, ge_iff_le] at g3_6
    refine L_yes rfl rfl (q_move rfl) rfl ?_
    refine L_yes rfl rfl (q_len rfl un_sl_sl_uint8 rfl) rfl ?_
    refine L_yes rfl rfl (q_int rfl rfl rfl) rfl ?_
    first | refine L_s (q_pickT rfl rfl) rfl ?_ | refine L_s (q_pickF rfl rfl) rfl ?_
    first | exact WPL.jn rfl rfl (by repeat (first | exact trivial | refine ⟨rfl, ?_⟩)) | exact WPL.jnI rfl rfl (by repeat (first | exact trivial | refine ⟨rfl, ?_⟩)) (Imp.pick (by repeat (first | exact Pick.nil | apply Pick.keep (by repeat (first | exact List.Mem.head _ | apply List.Mem.tail)) (by first | exact Pers.cells _ _ _ | exact Pers.slv _ _ _ | exact hD | exact Pers.bytes _) | apply Pick.cons (by repeat (first | exact Pick1.here | apply Pick1.there)))))
  refine WPL.nil ?_
  refine WPC.cond rfl (fun h0 => ?_) (fun h0 => ?_)
  · skip
    refine WPC.seqR ?_
    refine L_s (q_move rfl) rfl ?_
    refine L_s (q_assign rfl) rfl ?_
    refine WPL.nil ?_
    refine WPC.ret ?_
    refine thenQ_r ?_
    exact endR_r rfl (.tmp rfl .nil) (Imp.pick (by repeat (first | exact Pick.nil | apply Pick.keep (by repeat (first | exact List.Mem.head _ | apply List.Mem.tail)) (by first | exact Pers.cells _ _ _ | exact Pers.slv _ _ _ | exact Pers.bytes _) | apply Pick.cons (by repeat (first | exact Pick1.here | apply Pick1.there))))) ⟨rfl, rfl⟩
  · have hml : more.length ≤ 10 := by simp at h0; omega
    refine WPC.skip ?_
    refine thenQ_n ?_
    refine WPC.seqR ?_
    refine L_s (q_move rfl) rfl ?_
    refine WPL.cons rfl (C1.call (c_call Tryd.func10 rfl rfl rfl) (c_JSync hJ.ok (by omega)) (by repeat (first | exact Pick.nil | apply Pick.keep (by repeat (first | exact List.Mem.head _ | apply List.Mem.tail)) (by first | exact Pers.cells _ _ _ | exact Pers.slv _ _ _ | exact hD | exact Pers.bytes _) | apply Pick.cons (by repeat (first | exact Pick1.here | apply Pick1.there)))) rfl ?_)
    rintro _ _ ⟨rfl, rfl⟩
    have hS := sync_sure hJ
    refine WPL.putS ?_
    refine WPL.nil ?_
    refine WPC.seqR ?_
    refine L_s (q_move rfl) rfl ?_
    refine WPL.cons rfl (C1.call (c_call Tryd.func11 rfl rfl rfl) (c_AllR hb0 (by omega)) (by repeat (first | exact Pick.nil | apply Pick.keep (by repeat (first | exact List.Mem.head _ | apply List.Mem.tail)) (by first | exact Pers.cells _ _ _ | exact Pers.slv _ _ _ | exact hD | exact Pers.bytes _) | apply Pick.cons (by repeat (first | exact Pick1.here | apply Pick1.there)))) rfl ?_)
    rintro _ _ ⟨a1, c1, ys, rfl, hys, hye, hyo, rfl⟩
    have hyl := bs_len hye
    refine WPL.putS ?_
    refine L_s (q_assign rfl) rfl ?_
    refine WPL.nil ?_
    refine WPC.seqR ?_
    refine L_s (q_move rfl) rfl ?_
    refine WPL.cons rfl (C1.call (c_call Tryd.func11 rfl rfl rfl) (c_All (by intro x hx; have := hb0 x hx; omega) (by omega)) (by repeat (first | exact Pick.nil | apply Pick.keep (by repeat (first | exact List.Mem.head _ | apply List.Mem.tail)) (by first | exact Pers.cells _ _ _ | exact Pers.slv _ _ _ | exact hD | exact Pers.bytes _) | apply Pick.cons (by repeat (first | exact Pick1.here | apply Pick1.there)))) rfl ?_)
    rintro _ _ ⟨a2, c2, zs, rfl, hzs, hze, hzo, rfl⟩
    refine WPL.putS ?_
    refine L_s (q_assign rfl) rfl ?_
    refine WPL.nil ?_
    refine WPC.seq ?_
    refine WPC.seqR ?_
    refine L_s (q_assign rfl) rfl ?_
    refine WPL.nil ?_
    refine WPC.block ?_
    refine WPC.loopS (fun m e Γ => ∃ (k : Nat) (d2 : DK) (j2 : JN) (fr : List (List By)) (a2 : Option Addr) (c2 : Nat) (zs : List BS), m = more.length - k ∧ k ≤ more.length ∧ JInv n (T + k) d2 j2 j.held fr ∧ zs.map BS.bs = j2.held.map (·.2) ∧ (∀ z ∈ zs, z.ok) ∧ e = [(0, .int .i64 (n : Int)), (2, .slice ma more.length mc), (3, .slice pa ps.length pc), (9, .bool true), (10, .pointer (some ⟨db, 0, none⟩)), (11, .pointer (some ⟨b, 0, none⟩)), (12, .slice a1 ys.length c1), (13, .slice a2 zs.length c2), (14, .int .i64 (k : Int))] ∧ Γ = [jour b db j2, disk db d2, buf 1 a2 zs.length c2 (zs.map bsV), bytes zs, sl false ma (more.map bsV), sl false pa (ps.map (.int .i64)), tblA, D]) (more.length) ⟨0, d.sync, j, [], a2, c2, zs, rfl, by omega, hS, hze, hzo, rfl, rfl⟩ (by repeat (first | exact trivial | refine ⟨rfl, ?_⟩)) (Imp.pick (by repeat (first | exact Pick.nil | apply Pick.keep (by repeat (first | exact List.Mem.head _ | apply List.Mem.tail)) (by first | exact Pers.cells _ _ _ | exact Pers.slv _ _ _ | exact hD | exact Pers.bytes _) | apply Pick.cons (by repeat (first | exact Pick1.here | apply Pick1.there))))) ?_
    clear hze hzo hzs
    rintro m e Γ ⟨k, d2, j2, fr, a2, c2, zs, rfl, hk, hJ2, hze, hzo, rfl, rfl⟩
    have hzl := bs_len hze
    have hj2l := Inv.hlen ⟨_, _, hJ2⟩
    have hpl2 := hJ2.pl
    refine WPC.seq ?_
    refine WPC.seqR ?_
    refine L_s (q_move rfl) rfl ?_
    refine L_s (q_move rfl) rfl ?_
    refine L_s (q_len rfl un_sl_sl_uint8 rfl) rfl ?_
    refine L_s (q_int rfl rfl rfl) rfl ?_
    refine WPL.nil ?_
    refine WPC.cond rfl (fun h1 => ?_) (fun h1 => ?_)
    · simp only [decide_eq_true_eq, Int.ofNat_lt] at h1
      have hpm : Pl ma := hm.at (by omega) (by omega)
      obtain ⟨x, hx1⟩ : ∃ x, more[k]? = some x := ⟨more[k], by simp [h1]⟩
      have hxD := hmore x (List.mem_of_getElem? hx1)
      have hxn := hxD.1.n
      have hxo := hxD.1
      unfold BS.ok at hxo
      rw [hxn] at hxo
      obtain ⟨d3, j3, g, hap, hcase⟩ := append_inv hJ2 (by omega) x.bs
      have exV : bsV x = .slice x.a x.bs.length x.c := by simp only [bsV, hxn]
      refine WPC.skip ?_
      refine thenQ_n ?_
      refine WPC.seq ?_
      refine WPC.block ?_
      refine WPC.seqR ?_
      refine L_s (q_move rfl) rfl ?_
      refine L_s (q_move rfl) rfl ?_
      refine L_s (q_move rfl) rfl ?_
      refine L_s (q_idxN (i := k) sl_sl_sl_uint8 rfl rfl h1 hpm) rfl ?_
      refine L_s (show Q1 _ _ _ _ (bsV x) from q_ldMap (f := bsV) ld_sl_uint8 rfl (by repeat (first | exact List.Mem.head _ | apply List.Mem.tail)) hx1) rfl ?_
      rw [exV]
      refine WPL.imp ((Imp.pick (Δ := [D, jour b db j2, disk db d2, buf 1 a2 zs.length c2 (zs.map bsV), bytes zs, sl false ma (more.map bsV), sl false pa (ps.map (.int .i64)), tblA]) (by repeat (first | exact Pick.nil | apply Pick.keep (by repeat (first | exact List.Mem.head _ | apply List.Mem.tail)) (by first | exact Pers.cells _ _ _ | exact Pers.slv _ _ _| exact hD | exact Pers.bytes _) | apply Pick.cons (by repeat (first | exact Pick1.here | apply Pick1.there))))).trans (hxD.2 _)) ?_
      refine WPL.cons rfl (C1.call (c_call Tryd.func12 rfl rfl rfl) (c_JAppend hJ2.jok hJ2.ok (by omega) hxo) (by repeat (first | exact Pick.nil | apply Pick.keep (by repeat (first | exact List.Mem.head _ | apply List.Mem.tail)) (by first | exact Pers.cells _ _ _ | exact Pers.slv _ _ _ | exact hD | exact Pers.bytes _) | apply Pick.cons (by repeat (first | exact Pick1.here | apply Pick1.there)))) rfl ?_)
      rintro _ _ ⟨rfl, rfl⟩
      rw [hap]
      refine WPL.putS ?_
      refine L_s (q_assign rfl) rfl ?_
      refine WPL.nil ?_
      refine WPC.seqR ?_
      refine L_s (q_move rfl) rfl ?_
      refine L_s (q_int rfl rfl rfl) rfl ?_
      refine WPL.nil ?_
      refine WPC.cond rfl (fun h2 => ?_) (fun h2 => ?_)
      · have hg0 : g = 0 := by simpa using h2
        obtain ⟨hg1, hb43, hh3, hep3, hJ3⟩ : g = 0 ∧ x.bs.length ≤ 43 ∧ j3.held = j2.held ++ [(j2.epoch, x.bs)] ∧ j3.epoch = j2.epoch ∧ JInv n (T + k + 1) d3 j3 j.held (fr ++ [x.bs]) := by
          rcases hcase with h | h
          · exact absurd hg0 h.1
          · exact h
        refine WPC.region ?_
        refine L_s (q_move rfl) rfl ?_
        refine L_s (q_move rfl) rfl ?_
        refine L_s (q_move rfl) rfl ?_
        refine L_s (q_idxN (i := k) sl_sl_sl_uint8 rfl rfl h1 hpm) rfl ?_
        refine L_s (show Q1 _ _ _ _ (bsV x) from q_ldMap (f := bsV) ld_sl_uint8 rfl (by repeat (first | exact List.Mem.head _ | apply List.Mem.tail)) hx1) rfl ?_
        refine WPL.cons rfl (E1.wpo (e_buildSlice mk_sl_sl_uint8 (by decide) rfl rfl rfl) rfl ?_)
        rintro _ _ ⟨bE, rfl, rfl⟩
        refine WPL.putS ?_
        refine WPL.cons rfl (E1.wpo (e_append (m := 1) (news := [bsV x]) mk_sl_sl_uint8 (by decide) rfl rfl (by repeat (first | exact Pick1.here | apply Pick1.there)) (Rd.part (i := 0) (b := bE) (o := 0) (vs := [bsV x]) (by repeat (first | exact List.Mem.head _ | apply List.Mem.tail)) rfl rfl rfl) (by simp [Value.oneCell']) (by omega) (by omega)) rfl ?_)
        rintro _ _ ⟨a4, c4, rfl, -, rfl⟩
        rw [show zs.map bsV ++ [bsV x] = (zs ++ [x]).map bsV by simp, show zs.length + 1 = (zs ++ [x]).length by simp]
        refine WPL.putS ?_
        refine WPL.imp ((Imp.pick (Δ := [BS.at_ x, bytes zs, jour b db j3, disk db d3, buf 1 a4 (zs ++ [x]).length c4 ((zs ++ [x]).map bsV), sl false ma (more.map bsV), sl false pa (ps.map (.int .i64)), tblA, D]) (by repeat (first | exact Pick.nil | apply Pick.keep (by repeat (first | exact List.Mem.head _ | apply List.Mem.tail)) (by first | exact Pers.cells _ _ _ | exact Pers.slv _ _ _| exact hD | exact Pers.bytes _) | apply Pick.cons (by repeat (first | exact Pick1.here | apply Pick1.there))))).trans bytes_snoc) ?_
        refine L_s (q_assign rfl) rfl ?_
        refine WPL.nil ?_
        refine blockQ_n ?_
        refine thenQ_n ?_
        refine WPC.region ?_
        refine L_s (q_move rfl) rfl ?_
        first | refine L_s (q_inc rfl rfl (by omega)) rfl ?_ | refine L_s (q_addI rfl rfl (by omega)) rfl ?_ | refine L_s (q_int rfl rfl rfl) rfl ?_
        refine L_s (q_assign rfl) rfl ?_
        refine WPL.nil ?_
        refine thenQ_n ?_
        exact ⟨rfl, _, _, _, by omega, ⟨k + 1, _, _, _, _, _, zs ++ [x], rfl, by omega, hJ3, by rw [hh3]; simp [hze], fun z hz => (List.mem_append.1 hz).elim (hzo z) (fun h => by rw [List.mem_singleton.1 h]; exact hxD.1), rfl, rfl⟩, (by repeat (first | exact trivial | refine ⟨rfl, ?_⟩)), Imp.pick (by repeat (first | exact Pick.nil | apply Pick.keep (by repeat (first | exact List.Mem.head _ | apply List.Mem.tail)) (by first | exact Pers.cells _ _ _ | exact Pers.slv _ _ _ | exact hD | exact Pers.bytes _) | apply Pick.cons (by repeat (first | exact Pick1.here | apply Pick1.there))))⟩
      · have hg0 : g ≠ 0 := by simpa using h2
        obtain ⟨-, hd3, hj3, -⟩ : g ≠ 0 ∧ d3 = d2 ∧ j3 = j2 ∧ (43 < x.bs.length ∨ j2.held.length = n) := by
          rcases hcase with h | h
          · exact h
          · exact absurd h.1 hg0
        subst hd3 hj3
        refine WPC.skip ?_
        refine blockQ_n ?_
        refine thenQ_n ?_
        refine WPC.region ?_
        refine L_s (q_move rfl) rfl ?_
        first | refine L_s (q_inc rfl rfl (by omega)) rfl ?_ | refine L_s (q_addI rfl rfl (by omega)) rfl ?_ | refine L_s (q_int rfl rfl rfl) rfl ?_
        refine L_s (q_assign rfl) rfl ?_
        refine WPL.nil ?_
        refine thenQ_n ?_
        exact ⟨rfl, _, _, _, by omega, ⟨k + 1, _, _, _, _, _, zs, rfl, by omega, hJ2.mono (by omega) (by omega), hze, hzo, rfl, rfl⟩, (by repeat (first | exact trivial | refine ⟨rfl, ?_⟩)), Imp.pick (by repeat (first | exact Pick.nil | apply Pick.keep (by repeat (first | exact List.Mem.head _ | apply List.Mem.tail)) (by first | exact Pers.cells _ _ _ | exact Pers.slv _ _ _ | exact hD | exact Pers.bytes _) | apply Pick.cons (by repeat (first | exact Pick1.here | apply Pick1.there))))⟩
    · simp only [decide_eq_false_iff_not, Int.ofNat_lt] at h1
      refine WPC.exit ?_
      refine thenQ_e ?_
      refine thenQ_e ?_
      refine blockQ_here ?_
      refine thenQ_n ?_
      refine WPC.seqR ?_
      refine L_s (q_move rfl) rfl ?_
      refine L_s (q_move rfl) rfl ?_
      refine WPL.imp ((Imp.pick (Δ := [buf 1 a2 zs.length c2 (zs.map bsV), disk db d2, bytes zs, sl false pa (ps.map (.int .i64)), tblA]) (by repeat (first | exact Pick.nil | apply Pick.keep (by repeat (first | exact List.Mem.head _ | apply List.Mem.tail)) (by first | exact Pers.cells _ _ _ | exact Pers.slv _ _ _| exact hD | exact Pers.bytes _) | apply Pick.cons (by repeat (first | exact Pick1.here | apply Pick1.there))))).trans Imp.bufRo) ?_
      refine WPL.pure fun hzs => ?_
      obtain ⟨i, d5, j5, hi, ho5, hJ5, hh5⟩ := crash_open hJ2 (by omega) ps
      have hh2 := hJ2.heldE
      refine WPL.cons rfl (C1.call (c_call Tryd.func13 rfl rfl rfl) (c_Crash (q := false) hJ2.ok (by omega) hp) (by repeat (first | exact Pick.nil | apply Pick.keep (by repeat (first | exact List.Mem.head _ | apply List.Mem.tail)) (by first | exact Pers.cells _ _ _ | exact Pers.slv _ _ _ | exact hD | exact Pers.bytes _) | apply Pick.cons (by repeat (first | exact Pick1.here | apply Pick1.there)))) rfl ?_)
      rintro _ _ ⟨rfl, rfl⟩
      refine WPL.putS ?_
      refine WPL.nil ?_
      refine WPC.seqR ?_
      refine L_s (q_move rfl) rfl ?_
      refine L_s (q_move rfl) rfl ?_
      refine WPL.cons rfl (C1.call (c_call Tryd.func14 rfl rfl rfl) (c_OpenR hn ((Inv.clen ⟨_, _, hJ2⟩) _) (hJ2.ok.crash _) (by rw [crash_pl]; omega) ho5) (by repeat (first | exact Pick.nil | apply Pick.keep (by repeat (first | exact List.Mem.head _ | apply List.Mem.tail)) (by first | exact Pers.cells _ _ _ | exact Pers.slv _ _ _ | exact hD | exact Pers.bytes _) | apply Pick.cons (by repeat (first | exact Pick1.here | apply Pick1.there)))) rfl ?_)
      rintro _ _ ⟨b5, a5, c5, us, rfl, hus, hue, huo, rfl⟩
      have hub := bs_bound hue hJ5.hb huo
      have hul := bs_len hue
      have hj5 : j5.held.length = j.held.length + i := by rw [hh5, List.length_append, frE_len, List.length_take]; omega
      have hj2 : j2.held.length = j.held.length + fr.length := by rw [hh2, List.length_append, frE_len]
      have hucap := hzs.cap
      have htl : (zs.take us.length).length = us.length := by rw [List.length_take]; omega
      have e5 : decide (us.map BS.bs = (zs.take us.length).map BS.bs) = true := by
        rw [map_take_bs, hue, hze, hh5, hh2, gaps_take hi, hul, hj5]; exact decide_eq_true rfl
      refine WPL.putS ?_
      refine L_s (q_move rfl) rfl ?_
      refine L_s (q_extract rfl rfl) rfl ?_
      refine L_s (q_extract rfl rfl) rfl ?_
      refine L_s (q_extract rfl rfl) rfl ?_
      refine L_s (q_assign rfl) rfl ?_
      refine L_s (q_assign rfl) rfl ?_
      refine L_s (q_assign rfl) rfl ?_
      refine WPL.nil ?_
      refine WPC.prune [(9, _), (12, _), (13, _), (17, _), (18, _)] (by repeat (first | exact trivial | refine ⟨rfl, ?_⟩)) ?_
      refine WPC.seq ?_
      refine WPC.seqR ?_
      refine L_s (q_move rfl) rfl ?_
      refine L_s (q_int rfl rfl rfl) rfl ?_
      refine L_s (q_move rfl) rfl ?_
      apply WPL.joinO (e' := [(9, _), (13, _), (17, _)]) 77 83 6 rfl
      · intro g16_2
        try simp only [decide_eq_true_eq, decide_eq_false_iff_not, beq_iff_eq, bne_iff_ne, beq_eq_false_iff_ne, bne_eq_false_iff_eq, Bool.not_eq_true', Bool.not_eq_false', Bool.not_eq_eq_eq_not, Bool.not_true, Bool.not_false, ne_eq, Decidable.not_not, Int.not_lt, Int.not_le, gt_iff_lt, ge_iff_le] at g16_2
        refine L_no rfl rfl rfl rfl ?_
        refine L_no rfl rfl rfl rfl ?_
        refine L_no rfl rfl rfl rfl ?_
        refine L_no rfl rfl rfl rfl ?_
        refine L_no rfl rfl rfl rfl ?_
        first | refine L_s (q_pickT rfl rfl) rfl ?_ | refine L_s (q_pickF rfl rfl) rfl ?_
        first | exact WPL.jn rfl rfl (by repeat (first | exact trivial | refine ⟨rfl, ?_⟩)) | exact WPL.jnI rfl rfl (by repeat (first | exact trivial | refine ⟨rfl, ?_⟩)) (Imp.pick (by repeat (first | exact Pick.nil | apply Pick.keep (by repeat (first | exact List.Mem.head _ | apply List.Mem.tail)) (by first | exact Pers.cells _ _ _ | exact Pers.slv _ _ _ | exact hD | exact Pers.bytes _) | apply Pick.cons (by repeat (first | exact Pick1.here | apply Pick1.there)))))
      · intro g16_2
        try simp only [decide_eq_true_eq, decide_eq_false_iff_not, beq_iff_eq, bne_iff_ne, beq_eq_false_iff_ne, bne_eq_false_iff_eq, Bool.not_eq_true', Bool.not_eq_false', Bool.not_eq_eq_eq_not, Bool.not_true, Bool.not_false, ne_eq, Decidable.not_not, Int.not_lt, Int.not_le, gt_iff_lt, ge_iff_le] at g16_2
        refine L_yes rfl rfl (q_move rfl) rfl ?_
        refine L_yes rfl rfl (q_len rfl un_sl_sl_uint8 rfl) rfl ?_
        refine L_yes rfl rfl (q_move rfl) rfl ?_
        refine L_yes rfl rfl (q_len rfl un_sl_sl_uint8 rfl) rfl ?_
        refine L_yes rfl rfl (q_int rfl rfl rfl) rfl ?_
        first | refine L_s (q_pickT rfl rfl) rfl ?_ | refine L_s (q_pickF rfl rfl) rfl ?_
        first | exact WPL.jn rfl rfl (by repeat (first | exact trivial | refine ⟨rfl, ?_⟩)) | exact WPL.jnI rfl rfl (by repeat (first | exact trivial | refine ⟨rfl, ?_⟩)) (Imp.pick (by repeat (first | exact Pick.nil | apply Pick.keep (by repeat (first | exact List.Mem.head _ | apply List.Mem.tail)) (by first | exact Pers.cells _ _ _ | exact Pers.slv _ _ _ | exact hD | exact Pers.bytes _) | apply Pick.cons (by repeat (first | exact Pick1.here | apply Pick1.there)))))
      refine L_s (q_move rfl) rfl ?_
      apply WPL.joinO (e' := [(9, _), (13, _), (17, _)]) 84 90 6 rfl
      · intro g16_9
        try simp only [decide_eq_true_eq, decide_eq_false_iff_not, beq_iff_eq, bne_iff_ne, beq_eq_false_iff_ne, bne_eq_false_iff_eq, Bool.not_eq_true', Bool.not_eq_false', Bool.not_eq_eq_eq_not, Bool.not_true, Bool.not_false, ne_eq, Decidable.not_not, Int.not_lt, Int.not_le, gt_iff_lt, ge_iff_le] at g16_9
        refine L_no rfl rfl rfl rfl ?_
        refine L_no rfl rfl rfl rfl ?_
        refine L_no rfl rfl rfl rfl ?_
        refine L_no rfl rfl rfl rfl ?_
        refine L_no rfl rfl rfl rfl ?_
        first | refine L_s (q_pickT rfl rfl) rfl ?_ | refine L_s (q_pickF rfl rfl) rfl ?_
        first | exact WPL.jn rfl rfl (by repeat (first | exact trivial | refine ⟨rfl, ?_⟩)) | exact WPL.jnI rfl rfl (by repeat (first | exact trivial | refine ⟨rfl, ?_⟩)) (Imp.pick (by repeat (first | exact Pick.nil | apply Pick.keep (by repeat (first | exact List.Mem.head _ | apply List.Mem.tail)) (by first | exact Pers.cells _ _ _ | exact Pers.slv _ _ _ | exact hD | exact Pers.bytes _) | apply Pick.cons (by repeat (first | exact Pick1.here | apply Pick1.there)))))
      · intro g16_9
        try simp only [decide_eq_true_eq, decide_eq_false_iff_not, beq_iff_eq, bne_iff_ne, beq_eq_false_iff_ne, bne_eq_false_iff_eq, Bool.not_eq_true', Bool.not_eq_false', Bool.not_eq_eq_eq_not, Bool.not_true, Bool.not_false, ne_eq, Decidable.not_not, Int.not_lt, Int.not_le, gt_iff_lt, ge_iff_le] at g16_9
        refine L_yes rfl rfl (q_move rfl) rfl ?_
        refine L_yes rfl rfl (q_len rfl un_sl_sl_uint8 rfl) rfl ?_
        refine L_yes rfl rfl (q_move rfl) rfl ?_
        refine L_yes rfl rfl (q_len rfl un_sl_sl_uint8 rfl) rfl ?_
        refine L_yes rfl rfl (q_int rfl rfl rfl) rfl ?_
        first | refine L_s (q_pickT rfl rfl) rfl ?_ | refine L_s (q_pickF rfl rfl) rfl ?_
        first | exact WPL.jn rfl rfl (by repeat (first | exact trivial | refine ⟨rfl, ?_⟩)) | exact WPL.jnI rfl rfl (by repeat (first | exact trivial | refine ⟨rfl, ?_⟩)) (Imp.pick (by repeat (first | exact Pick.nil | apply Pick.keep (by repeat (first | exact List.Mem.head _ | apply List.Mem.tail)) (by first | exact Pers.cells _ _ _ | exact Pers.slv _ _ _ | exact hD | exact Pers.bytes _) | apply Pick.cons (by repeat (first | exact Pick1.here | apply Pick1.there)))))
      refine WPL.nil ?_
      refine WPC.cond rfl (fun h3 => ?_) (fun h3 => ?_)
      · try simp only [decide_eq_true_eq, decide_eq_false_iff_not, beq_iff_eq, bne_iff_ne, beq_eq_false_iff_ne, bne_eq_false_iff_eq, Bool.not_eq_true', Bool.not_eq_false', Bool.not_eq_eq_eq_not, Bool.not_true, Bool.not_false, ne_eq, Decidable.not_not, Int.not_lt, Int.not_le, gt_iff_lt, ge_iff_le] at h3
        simp at h3
        omega
      · skip
        refine WPC.skip ?_
        refine thenQ_n ?_
        refine WPC.seqR ?_
        refine L_s (q_move rfl) rfl ?_
        refine L_s (q_move rfl) rfl ?_
        apply WPL.joinA (e' := []) 92 99 7 rfl
        · intro g18_1
          try simp only [decide_eq_true_eq, decide_eq_false_iff_not, beq_iff_eq, bne_iff_ne, beq_eq_false_iff_ne, bne_eq_false_iff_eq, Bool.not_eq_true', Bool.not_eq_false', Bool.not_eq_eq_eq_not, Bool.not_true, Bool.not_false, ne_eq, Decidable.not_not, Int.not_lt, Int.not_le, gt_iff_lt, ge_iff_le] at g18_1
          refine L_yes rfl rfl (q_move rfl) rfl ?_
          refine L_yes rfl rfl (q_move rfl) rfl ?_
          refine L_yes rfl rfl (q_move rfl) rfl ?_
          refine L_yes rfl rfl (q_len rfl un_sl_sl_uint8 rfl) rfl ?_
          refine L_yes rfl rfl (q_sliceHi (j := us.length) sl_sl_sl_uint8 rfl rfl (by omega)) rfl ?_
          refine WPL.imp (((Imp.pick (Δ := [sl false a2 (zs.map bsV), sl false a2 (zs.map bsV), jour b5 db j5, disk db d5, bytes zs, sl false a5 (us.map bsV), bytes us, tblA, sl false pa (ps.map (.int .i64))]) (by repeat (first | exact Pick.nil | apply Pick.keep (by repeat (first | exact List.Mem.head _ | apply List.Mem.tail)) (by first | exact Pers.cells _ _ _ | exact Pers.slv _ _ _| exact hD | exact Pers.bytes _) | apply Pick.cons (by repeat (first | exact Pick1.here | apply Pick1.there))))).trans (Imp.bsTake us.length)).trans ((Imp.pick (Δ := [bytes zs, sl false a2 ((zs.take us.length).map bsV), sl false a2 (zs.map bsV), jour b5 db j5, disk db d5, sl false a5 (us.map bsV), bytes us, tblA, sl false pa (ps.map (.int .i64))]) (by repeat (first | exact Pick.nil | apply Pick.keep (by repeat (first | exact List.Mem.head _ | apply List.Mem.tail)) (by first | exact Pers.cells _ _ _ | exact Pers.slv _ _ _| exact hD | exact Pers.bytes _) | apply Pick.cons (by repeat (first | exact Pick1.here | apply Pick1.there))))).trans (bytes_sub (ys := zs.take us.length) fun y hy => List.mem_of_mem_take hy))) ?_
          refine L_eyes rfl rfl rfl (C1.call (c_call Tryd.func15 rfl rfl rfl) (c_Same06g (p := false) (q := false) rfl htl hus (hzs.bsTake (by omega)) (by omega) hub (fun z hz => hzo z (List.mem_of_mem_take hz))) (by repeat (first | exact Pick.nil | apply Pick.keep (by repeat (first | exact List.Mem.head _ | apply List.Mem.tail)) (by first | exact Pers.cells _ _ _ | exact Pers.slv _ _ _ | exact hD | exact Pers.bytes _) | apply Pick.cons (by repeat (first | exact Pick1.here | apply Pick1.there)))) rfl ?_)
          rintro _ _ ⟨rfl, rfl⟩
          rw [e5]
          refine WPL.putS ?_
          first | refine L_s (q_pickT rfl rfl) rfl ?_ | refine L_s (q_pickF rfl rfl) rfl ?_
          first | exact WPL.jn rfl rfl (by repeat (first | exact trivial | refine ⟨rfl, ?_⟩)) | exact WPL.jnI rfl rfl (by repeat (first | exact trivial | refine ⟨rfl, ?_⟩)) (Imp.pick (by repeat (first | exact Pick.nil | apply Pick.keep (by repeat (first | exact List.Mem.head _ | apply List.Mem.tail)) (by first | exact Pers.cells _ _ _ | exact Pers.slv _ _ _ | exact hD | exact Pers.bytes _) | apply Pick.cons (by repeat (first | exact Pick1.here | apply Pick1.there)))))
        · intro g18_1
          try simp only [decide_eq_true_eq, decide_eq_false_iff_not, beq_iff_eq, bne_iff_ne, beq_eq_false_iff_ne, bne_eq_false_iff_eq, Bool.not_eq_true', Bool.not_eq_false', Bool.not_eq_eq_eq_not, Bool.not_true, Bool.not_false, ne_eq, Decidable.not_not, Int.not_lt, Int.not_le, gt_iff_lt, ge_iff_le] at g18_1
          refine L_no rfl rfl rfl rfl ?_
          refine L_no rfl rfl rfl rfl ?_
          refine L_no rfl rfl rfl rfl ?_
          refine L_no rfl rfl rfl rfl ?_
          refine L_no rfl rfl rfl rfl ?_
          refine WPL.imp (((Imp.pick (Δ := [sl false a2 (zs.map bsV), sl false a2 (zs.map bsV), jour b5 db j5, disk db d5, bytes zs, sl false a5 (us.map bsV), bytes us, tblA, sl false pa (ps.map (.int .i64))]) (by repeat (first | exact Pick.nil | apply Pick.keep (by repeat (first | exact List.Mem.head _ | apply List.Mem.tail)) (by first | exact Pers.cells _ _ _ | exact Pers.slv _ _ _| exact hD | exact Pers.bytes _) | apply Pick.cons (by repeat (first | exact Pick1.here | apply Pick1.there))))).trans (Imp.bsTake us.length)).trans ((Imp.pick (Δ := [bytes zs, sl false a2 ((zs.take us.length).map bsV), sl false a2 (zs.map bsV), jour b5 db j5, disk db d5, sl false a5 (us.map bsV), bytes us, tblA, sl false pa (ps.map (.int .i64))]) (by repeat (first | exact Pick.nil | apply Pick.keep (by repeat (first | exact List.Mem.head _ | apply List.Mem.tail)) (by first | exact Pers.cells _ _ _ | exact Pers.slv _ _ _| exact hD | exact Pers.bytes _) | apply Pick.cons (by repeat (first | exact Pick1.here | apply Pick1.there))))).trans (bytes_sub (ys := zs.take us.length) fun y hy => List.mem_of_mem_take hy))) ?_
          refine L_no rfl rfl rfl rfl ?_
          first | refine L_s (q_pickT rfl rfl) rfl ?_ | refine L_s (q_pickF rfl rfl) rfl ?_
          first | exact WPL.jn rfl rfl (by repeat (first | exact trivial | refine ⟨rfl, ?_⟩)) | exact WPL.jnI rfl rfl (by repeat (first | exact trivial | refine ⟨rfl, ?_⟩)) (Imp.pick (by repeat (first | exact Pick.nil | apply Pick.keep (by repeat (first | exact List.Mem.head _ | apply List.Mem.tail)) (by first | exact Pers.cells _ _ _ | exact Pers.slv _ _ _ | exact hD | exact Pers.bytes _) | apply Pick.cons (by repeat (first | exact Pick1.here | apply Pick1.there)))))
        refine L_s (q_assign rfl) rfl ?_
        refine WPL.nil ?_
        refine WPC.ret ?_
        exact endR_r rfl (.tmp rfl .nil) (Imp.pick (by repeat (first | exact Pick.nil | apply Pick.keep (by repeat (first | exact List.Mem.head _ | apply List.Mem.tail)) (by first | exact Pers.cells _ _ _ | exact Pers.slv _ _ _ | exact Pers.bytes _) | apply Pick.cons (by repeat (first | exact Pick1.here | apply Pick1.there))))) ⟨rfl, rfl⟩

end Go.Sl
