/- Walks: comparing, syncing. -/
import Derived.Test.YtdbpjcplmfkgaaaDoorJL
import Derived.Test.YtdbpjcplmfkgaaaDoorJPure6
namespace Go.Sl
open Go Go.RowKit Go.Proofs
set_option linter.unusedSimpArgs false
set_option linter.unusedVariables false
attribute [local irreducible] faB szB ldB zB zL slB mkB arB plB intB cells objc star stars buf slv grp whole Sat WPC WPL WPA WPO Trip

theorem u8_inj {x y : By} (h : u8 x = u8 y) : x = y := by
  simp only [u8, Value.int.injEq, true_and] at h
  exact Fin.ext (by omega)
theorem take_snoc_eq {α : Type} {k : Nat} {xs ys : List α} {x y : α} (h : xs.take k = ys.take k) (hx : xs[k]? = some x) (hy : ys[k]? = some y) : xs.take (k + 1) = ys.take (k + 1) ↔ x = y := by
  rw [take_succ hx, take_succ hy, h]
  constructor
  · intro e; simpa using e
  · intro e; rw [e]

theorem c_Same01 {a a2 : Option Addr} {c c2 : Nat} {p q : Bool} {xs ys : List By} (hs : Sok 1 a xs.length c (xs.map u8)) (ht : Sok 1 a2 ys.length c2 (ys.map u8)) (hx : xs.length ≤ 9223372036854775807) : Trip Tryd.prog 44 #[.slice a xs.length c, .slice a2 ys.length c2] [sl p a (xs.map u8), sl q a2 (ys.map u8)] fun r Δ => r = .bool (decide (xs = ys)) ∧ Δ = [sl p a (xs.map u8), sl q a2 (ys.map u8)] := by
  refine Trip.start 26 [.tmp 4] [(0, .slice a xs.length c), (1, .slice a2 ys.length c2)] Tryd.func44 rfl Tryd.ntmps44 rfl ⟨rfl, rfl, trivial⟩ rfl ?_
  refine WPC.seqR ?_
  refine L_s (q_assign rfl) rfl ?_
  refine WPL.nil ?_
  refine WPC.seq ?_
  refine WPC.seqR ?_
  refine L_s (q_move rfl) rfl ?_
  refine L_s (q_len rfl un_sl_uint8 rfl) rfl ?_
  refine L_s (q_move rfl) rfl ?_
  refine L_s (q_len rfl un_sl_uint8 rfl) rfl ?_
  refine L_s (q_int rfl rfl rfl) rfl ?_
  refine WPL.nil ?_
  refine WPC.cond rfl (fun h0 => ?_) (fun h0 => ?_)
  · have hne : ¬ xs = ys := fun h => by subst h; simp at h0
    refine WPC.seqR ?_
    refine L_s (q_assign rfl) rfl ?_
    refine WPL.nil ?_
    refine WPC.ret ?_
    refine thenQ_r ?_
    exact endR_r rfl (.tmp rfl .nil) (Imp.pick (by repeat (first | exact Pick.nil | apply Pick.keep (by repeat (first | exact List.Mem.head _ | apply List.Mem.tail)) (by first | exact Pers.cells _ _ _ | exact Pers.slv _ _ _ | exact Pers.bytes _) | apply Pick.cons (by repeat (first | exact Pick1.here | apply Pick1.there))))) ⟨by simp only [packV, hne, decide_false], rfl⟩
  · have hl : xs.length = ys.length := by simp at h0; omega
    refine WPC.skip ?_
    refine thenQ_n ?_
    refine WPC.seq ?_
    refine WPC.seqR ?_
    refine L_s (q_assign rfl) rfl ?_
    refine WPL.nil ?_
    refine WPC.block ?_
    refine WPC.loopS (fun m e Γ => ∃ k : Nat, m = xs.length - k ∧ k ≤ xs.length ∧ xs.take k = ys.take k ∧ e = [(0, .slice a xs.length c), (1, .slice a2 ys.length c2), (5, .int .i64 (k : Int))] ∧ Γ = [sl p a (xs.map u8), sl q a2 (ys.map u8)]) (xs.length) ⟨0, rfl, by omega, rfl, rfl, rfl⟩ (by repeat (first | exact trivial | refine ⟨rfl, ?_⟩)) (Imp.pick (by repeat (first | exact Pick.nil | apply Pick.keep (by repeat (first | exact List.Mem.head _ | apply List.Mem.tail)) (by first | exact Pers.cells _ _ _ | exact Pers.slv _ _ _) | apply Pick.cons (by repeat (first | exact Pick1.here | apply Pick1.there))))) ?_
    rintro m e Γ ⟨k, rfl, hk, heq, rfl, rfl⟩
    refine WPC.seq ?_
    refine WPC.seqR ?_
    refine L_s (q_move rfl) rfl ?_
    refine L_s (q_move rfl) rfl ?_
    refine L_s (q_len rfl un_sl_uint8 rfl) rfl ?_
    refine L_s (q_int rfl rfl rfl) rfl ?_
    refine WPL.nil ?_
    refine WPC.cond rfl (fun h1 => ?_) (fun h1 => ?_)
    · simp only [decide_eq_true_eq, Int.ofNat_lt] at h1
      have hp : Pl a := hs.at (by omega) (by omega)
      have hp2 : Pl a2 := ht.at (by omega) (by omega)
      obtain ⟨x, hx1⟩ : ∃ x, xs[k]? = some x := ⟨xs[k], by simp [h1]⟩
      obtain ⟨y, hy1⟩ : ∃ y, ys[k]? = some y := ⟨ys[k]'(by omega), by simp⟩
      have hstep := take_snoc_eq heq hx1 hy1
      refine WPC.skip ?_
      refine thenQ_n ?_
      refine WPC.seq ?_
      refine WPC.block ?_
      refine WPC.seqQ mixed (by kernel_rfl) ?_
      refine WPQ.cons (q_move rfl) rfl ?_
      refine WPQ.cons (q_move rfl) rfl ?_
      refine WPQ.cons (q_idxN (i := k) sl_sl_uint8 rfl rfl h1 hp) rfl ?_
      refine WPQ.cons (q_ldMap (f := u8) ld_uint8 rfl (by repeat (first | exact List.Mem.head _ | apply List.Mem.tail)) hx1) rfl ?_
      refine WPQ.cons (q_move rfl) rfl ?_
      refine WPQ.cons (q_move rfl) rfl ?_
      refine WPQ.cons (q_idxN (i := k) sl_sl_uint8 rfl rfl (by omega) hp2) rfl ?_
      refine WPQ.cons (q_ldMap (f := u8) ld_uint8 rfl (by repeat (first | exact List.Mem.head _ | apply List.Mem.tail)) hy1) rfl ?_
      refine WPQ.cons (q_int rfl rfl rfl) rfl ?_
      refine WPQ.nil ?_
      refine WPC.cond rfl (fun h2 => ?_) (fun h2 => ?_)
      · have hne : ¬ xs = ys := fun h => by subst h; rw [hx1] at hy1; obtain rfl := Option.some.inj hy1; simp at h2
        refine WPC.seqR ?_
        refine L_s (q_assign rfl) rfl ?_
        refine WPL.nil ?_
        refine WPC.ret ?_
        refine blockQ_r ?_
        refine thenQ_r ?_
        refine thenQ_r ?_
        refine blockQ_r ?_
        refine thenQ_r ?_
        exact endR_r rfl (.tmp rfl .nil) (Imp.pick (by repeat (first | exact Pick.nil | apply Pick.keep (by repeat (first | exact List.Mem.head _ | apply List.Mem.tail)) (by first | exact Pers.cells _ _ _ | exact Pers.slv _ _ _ | exact Pers.bytes _) | apply Pick.cons (by repeat (first | exact Pick1.here | apply Pick1.there))))) ⟨by simp only [packV, hne, decide_false], rfl⟩
      · have hxy : x = y := Fin.ext (by simp at h2; omega)
        refine WPC.skip ?_
        refine blockQ_n ?_
        refine thenQ_n ?_
        refine WPC.region ?_
        refine L_s (q_move rfl) rfl ?_
        first | refine L_s (q_inc rfl rfl (by omega)) rfl ?_ | refine L_s (q_addI rfl rfl (by omega)) rfl ?_ | refine L_s (q_int rfl rfl rfl) rfl ?_
        refine L_s (q_assign rfl) rfl ?_
        refine WPL.nil ?_
        refine thenQ_n ?_
        exact ⟨rfl, _, _, _, by omega, ⟨k + 1, rfl, by omega, hstep.2 hxy, rfl, rfl⟩, (by repeat (first | exact trivial | refine ⟨rfl, ?_⟩)), Imp.pick (by repeat (first | exact Pick.nil | apply Pick.keep (by repeat (first | exact List.Mem.head _ | apply List.Mem.tail)) (by first | exact Pers.cells _ _ _ | exact Pers.slv _ _ _) | apply Pick.cons (by repeat (first | exact Pick1.here | apply Pick1.there))))⟩
    · simp only [decide_eq_false_iff_not, Int.ofNat_lt] at h1
      have hk2 : k = xs.length := by omega
      refine WPC.exit ?_
      refine thenQ_e ?_
      refine thenQ_e ?_
      refine blockQ_here ?_
      refine thenQ_n ?_
      refine WPC.seqR ?_
      refine L_s (q_assign rfl) rfl ?_
      refine WPL.nil ?_
      refine WPC.ret ?_
      have he : xs = ys := by rw [hk2, List.take_length, List.take_of_length_le (by omega)] at heq; exact heq
      exact endR_r rfl (.tmp rfl .nil) (Imp.pick (by repeat (first | exact Pick.nil | apply Pick.keep (by repeat (first | exact List.Mem.head _ | apply List.Mem.tail)) (by first | exact Pers.cells _ _ _ | exact Pers.slv _ _ _ | exact Pers.bytes _) | apply Pick.cons (by repeat (first | exact Pick1.here | apply Pick1.there))))) ⟨by simp only [packV, he, decide_true], rfl⟩

theorem c_Same06 {a a2 : Option Addr} {c c2 : Nat} {p q : Bool} {ys zs : List BS} (hs : Sok 1 a ys.length c (ys.map bsV)) (ht : Sok 1 a2 zs.length c2 (zs.map bsV)) (hx : ys.length ≤ 9223372036854775807) (hy : ∀ y ∈ ys, y.ok ∧ y.bs.length ≤ 9223372036854775807) (hz : ∀ z ∈ zs, z.ok) : Trip Tryd.prog 15 #[.slice a ys.length c, .slice a2 zs.length c2] [sl p a (ys.map bsV), bytes ys, sl q a2 (zs.map bsV), bytes zs] fun r Δ => r = .bool (decide (ys.map BS.bs = zs.map BS.bs)) ∧ Δ = [sl p a (ys.map bsV), sl q a2 (zs.map bsV)] := by
  refine Trip.start 27 [.tmp 4] [(0, .slice a ys.length c), (1, .slice a2 zs.length c2)] Tryd.func15 rfl Tryd.ntmps15 rfl ⟨rfl, rfl, trivial⟩ rfl ?_
  refine WPC.seqR ?_
  refine L_s (q_assign rfl) rfl ?_
  refine WPL.nil ?_
  refine WPC.seq ?_
  refine WPC.seqR ?_
  refine L_s (q_move rfl) rfl ?_
  refine L_s (q_len rfl un_sl_sl_uint8 rfl) rfl ?_
  refine L_s (q_move rfl) rfl ?_
  refine L_s (q_len rfl un_sl_sl_uint8 rfl) rfl ?_
  refine L_s (q_int rfl rfl rfl) rfl ?_
  refine WPL.nil ?_
  refine WPC.cond rfl (fun h0 => ?_) (fun h0 => ?_)
  · have hne : ¬ ys.map BS.bs = zs.map BS.bs := fun h => by have := congrArg List.length h; simp at this h0; omega
    refine WPC.seqR ?_
    refine L_s (q_assign rfl) rfl ?_
    refine WPL.nil ?_
    refine WPC.ret ?_
    refine thenQ_r ?_
    exact endR_r rfl (.tmp rfl .nil) (Imp.pick (by repeat (first | exact Pick.nil | apply Pick.keep (by repeat (first | exact List.Mem.head _ | apply List.Mem.tail)) (by first | exact Pers.cells _ _ _ | exact Pers.slv _ _ _ | exact Pers.bytes _) | apply Pick.cons (by repeat (first | exact Pick1.here | apply Pick1.there))))) ⟨by simp only [packV, hne, decide_false], rfl⟩
  · have hl : ys.length = zs.length := by simp at h0; omega
    refine WPC.skip ?_
    refine thenQ_n ?_
    refine WPC.seq ?_
    refine WPC.seqR ?_
    refine L_s (q_assign rfl) rfl ?_
    refine WPL.nil ?_
    refine WPC.block ?_
    refine WPC.loopS (fun m e Γ => ∃ k : Nat, m = ys.length - k ∧ k ≤ ys.length ∧ (ys.map BS.bs).take k = (zs.map BS.bs).take k ∧ e = [(0, .slice a ys.length c), (1, .slice a2 zs.length c2), (5, .int .i64 (k : Int))] ∧ Γ = [sl p a (ys.map bsV), bytes ys, sl q a2 (zs.map bsV), bytes zs]) (ys.length) ⟨0, rfl, by omega, rfl, rfl, rfl⟩ (by repeat (first | exact trivial | refine ⟨rfl, ?_⟩)) (Imp.pick (by repeat (first | exact Pick.nil | apply Pick.keep (by repeat (first | exact List.Mem.head _ | apply List.Mem.tail)) (by first | exact Pers.cells _ _ _ | exact Pers.slv _ _ _) | apply Pick.cons (by repeat (first | exact Pick1.here | apply Pick1.there))))) ?_
    rintro m e Γ ⟨k, rfl, hk, heq, rfl, rfl⟩
    refine WPC.seq ?_
    refine WPC.seqR ?_
    refine L_s (q_move rfl) rfl ?_
    refine L_s (q_move rfl) rfl ?_
    refine L_s (q_len rfl un_sl_sl_uint8 rfl) rfl ?_
    refine L_s (q_int rfl rfl rfl) rfl ?_
    refine WPL.nil ?_
    refine WPC.cond rfl (fun h1 => ?_) (fun h1 => ?_)
    · simp only [decide_eq_true_eq, Int.ofNat_lt] at h1
      have hp : Pl a := hs.at (by omega) (by omega)
      have hp2 : Pl a2 := ht.at (by omega) (by omega)
      obtain ⟨x, hx1⟩ : ∃ x, ys[k]? = some x := ⟨ys[k], by simp [h1]⟩
      obtain ⟨y, hy1⟩ : ∃ y, zs[k]? = some y := ⟨zs[k]'(by omega), by simp⟩
      have hstep := take_snoc_eq (x := x.bs) (y := y.bs) heq (by simp [hx1]) (by simp [hy1])
      have hxm := List.mem_of_getElem? hx1
      have hym := List.mem_of_getElem? hy1
      have hxo := (hy x hxm).1
      have hyo := hz y hym
      have hxn := hxo.n
      have hyn := hyo.n
      have hxb := (hy x hxm).2
      unfold BS.ok at hxo hyo
      rw [hxn] at hxo
      rw [hyn] at hyo
      refine WPC.skip ?_
      refine thenQ_n ?_
      refine WPC.seq ?_
      refine WPC.block ?_
      refine WPC.seqD mixed ?_
      refine WPA.takeP 0 rfl (q_move rfl) (by kernel_rfl) (by kernel_rfl) (by kernel_rfl) rfl rfl (.nil _) ?_
      refine WPA.putS ?_
      refine WPA.takeP 1 rfl (q_move rfl) (by kernel_rfl) (by kernel_rfl) (by kernel_rfl) rfl rfl (.nil _) ?_
      refine WPA.putS ?_
      refine WPA.takeP 2 rfl (q_idxN (i := k) sl_sl_sl_uint8 rfl rfl h1 hp) (by kernel_rfl) (by kernel_rfl) (by kernel_rfl) rfl rfl (.nil _) ?_
      refine WPA.putS ?_
      refine WPA.takeL 3 rfl (Ent.mem (by repeat (first | exact List.Mem.head _ | apply List.Mem.tail))) (show Q1 _ _ _ _ (bsV x) from q_ldMap (f := bsV) ld_sl_uint8 rfl (.head _) hx1) (by kernel_rfl) (by kernel_rfl) (by kernel_rfl) rfl rfl (.nil _) ?_
      refine WPA.putS ?_
      refine WPA.takeP 4 rfl (q_move rfl) (by kernel_rfl) (by kernel_rfl) (by kernel_rfl) rfl rfl (.cons (Ent.mem (by repeat (first | exact List.Mem.head _ | apply List.Mem.tail))) (.nil _)) ?_
      refine WPA.putS ?_
      refine WPA.takeP 5 rfl (q_move rfl) (by kernel_rfl) (by kernel_rfl) (by kernel_rfl) rfl rfl (.cons (Ent.mem (by repeat (first | exact List.Mem.head _ | apply List.Mem.tail))) (.nil _)) ?_
      refine WPA.putS ?_
      refine WPA.takeP 6 rfl (q_idxN (i := k) sl_sl_sl_uint8 rfl rfl (by omega) hp2) (by kernel_rfl) (by kernel_rfl) (by kernel_rfl) rfl rfl (.cons (Ent.mem (by repeat (first | exact List.Mem.head _ | apply List.Mem.tail))) (.nil _)) ?_
      refine WPA.putS ?_
      refine WPA.takeL 7 rfl (Ent.mem (by repeat (first | exact List.Mem.head _ | apply List.Mem.tail))) (show Q1 _ _ _ _ (bsV y) from q_ldMap (f := bsV) ld_sl_uint8 rfl (.head _) hy1) (by kernel_rfl) (by kernel_rfl) (by kernel_rfl) rfl rfl (.cons (Ent.mem (by repeat (first | exact List.Mem.head _ | apply List.Mem.tail))) (.nil _)) ?_
      refine WPA.putS ?_
      have exV : bsV x = .slice x.a x.bs.length x.c := by simp only [bsV, hxn]
      have eyV : bsV y = .slice y.a y.bs.length y.c := by simp only [bsV, hyn]
      rw [exV, eyV]
      refine WPA.imp (((Imp.pick (Δ := [bytes ys, sl p a (ys.map bsV), bytes zs, sl q a2 (zs.map bsV)]) (by repeat (first | exact Pick.nil | apply Pick.keep (by repeat (first | exact List.Mem.head _ | apply List.Mem.tail)) (by first | exact Pers.cells _ _ _ | exact Pers.slv _ _ _ | exact Pers.bytes _) | apply Pick.cons (by repeat (first | exact Pick1.here | apply Pick1.there))))).trans (bytes_one hxm)).trans ((Imp.pick (Δ := [bytes zs, x.at_, bytes ys, sl p a (ys.map bsV), sl q a2 (zs.map bsV)]) (by repeat (first | exact Pick.nil | apply Pick.keep (by repeat (first | exact List.Mem.head _ | apply List.Mem.tail)) (by first | exact Pers.cells _ _ _ | exact Pers.slv _ _ _ | exact Pers.bytes _) | apply Pick.cons (by repeat (first | exact Pick1.here | apply Pick1.there))))).trans (bytes_one hym))) ?_
      refine WPA.oneE 8 [] (by kernel_rfl) rfl rfl (by repeat (first | exact .nil | refine .anc rfl ?_ | refine .keep (by repeat (first | exact List.Mem.head _ | apply List.Mem.tail)) ?_)) (C1.call (c_call Tryd.func44 rfl rfl rfl) (c_Same01 (p := false) (q := false) hxo hyo hxb) (by repeat (first | exact Pick.nil | apply Pick.keep (by repeat (first | exact List.Mem.head _ | apply List.Mem.tail)) (by first | exact Pers.cells _ _ _ | exact Pers.slv _ _ _) | apply Pick.cons (by repeat (first | exact Pick1.here | apply Pick1.there)))) rfl ?_)
      rintro _ _ ⟨rfl, rfl⟩
      refine ⟨(.nil _), ?_⟩
      refine WPA.putS ?_
      refine WPA.takeP 9 rfl (q_not rfl) (by kernel_rfl) (by kernel_rfl) (by kernel_rfl) rfl rfl (.nil _) ?_
      refine WPA.putS ?_
      refine WPA.done (by kernel_rfl) ?_
      refine WPC.cond rfl (fun h2 => ?_) (fun h2 => ?_)
      · have hne : ¬ ys.map BS.bs = zs.map BS.bs := fun h => by have h3 := congrArg (fun l => l[k]?) h; simp [hx1, hy1] at h3; simp [h3] at h2
        refine WPC.seqR ?_
        refine L_s (q_assign rfl) rfl ?_
        refine WPL.nil ?_
        refine WPC.ret ?_
        refine blockQ_r ?_
        refine thenQ_r ?_
        refine thenQ_r ?_
        refine blockQ_r ?_
        refine thenQ_r ?_
        exact endR_r rfl (.tmp rfl .nil) (Imp.pick (by repeat (first | exact Pick.nil | apply Pick.keep (by repeat (first | exact List.Mem.head _ | apply List.Mem.tail)) (by first | exact Pers.cells _ _ _ | exact Pers.slv _ _ _ | exact Pers.bytes _) | apply Pick.cons (by repeat (first | exact Pick1.here | apply Pick1.there))))) ⟨by simp only [packV, hne, decide_false], rfl⟩
      · have hxy : x.bs = y.bs := by simpa using h2
        refine WPC.skip ?_
        refine blockQ_n ?_
        refine thenQ_n ?_
        refine WPC.region ?_
        refine L_s (q_move rfl) rfl ?_
        first | refine L_s (q_inc rfl rfl (by omega)) rfl ?_ | refine L_s (q_addI rfl rfl (by omega)) rfl ?_ | refine L_s (q_int rfl rfl rfl) rfl ?_
        refine L_s (q_assign rfl) rfl ?_
        refine WPL.nil ?_
        refine thenQ_n ?_
        exact ⟨rfl, _, _, _, by omega, ⟨k + 1, rfl, by omega, hstep.2 hxy, rfl, rfl⟩, (by repeat (first | exact trivial | refine ⟨rfl, ?_⟩)), Imp.pick (by repeat (first | exact Pick.nil | apply Pick.keep (by repeat (first | exact List.Mem.head _ | apply List.Mem.tail)) (by first | exact Pers.cells _ _ _ | exact Pers.slv _ _ _) | apply Pick.cons (by repeat (first | exact Pick1.here | apply Pick1.there))))⟩
    · simp only [decide_eq_false_iff_not, Int.ofNat_lt] at h1
      have hk2 : k = ys.length := by omega
      refine WPC.exit ?_
      refine thenQ_e ?_
      refine thenQ_e ?_
      refine blockQ_here ?_
      refine thenQ_n ?_
      refine WPC.seqR ?_
      refine L_s (q_assign rfl) rfl ?_
      refine WPL.nil ?_
      refine WPC.ret ?_
      have he : ys.map BS.bs = zs.map BS.bs := by rw [hk2, List.take_of_length_le (by simp), List.take_of_length_le (by simp; omega)] at heq; exact heq
      exact endR_r rfl (.tmp rfl .nil) (Imp.pick (by repeat (first | exact Pick.nil | apply Pick.keep (by repeat (first | exact List.Mem.head _ | apply List.Mem.tail)) (by first | exact Pers.cells _ _ _ | exact Pers.slv _ _ _ | exact Pers.bytes _) | apply Pick.cons (by repeat (first | exact Pick1.here | apply Pick1.there))))) ⟨by simp only [packV, he, decide_true], rfl⟩

theorem c_JSync {b db : Nat} {j : JN} {d : DK} (hd : d.ok) (hpl : d.pend.length < 1000000) : Trip Tryd.prog 10 #[.pointer (some ⟨b, 0, none⟩)] [jour b db j, disk db d] fun r Δ => r = .tuple #[] ∧ Δ = [jour b db j, disk db d.sync] := by
  refine jour_open fun L hL => ?_
  obtain ⟨rs, la, lc⟩ := L
  obtain ⟨hheld, hrok⟩ := hL
  dsimp only at hheld hrok
  refine Trip.start 7 [] [(0, .pointer (some ⟨b, 0, none⟩))] Tryd.func10 rfl Tryd.ntmps10 rfl ⟨rfl, trivial⟩ rfl ?_
  refine WPC.region ?_
  refine L_s (q_move rfl) rfl ?_
  first | refine L_s (q_nilP rfl) rfl ?_ | refine L_s (q_nilF rfl) rfl ?_
  first | refine L_s (q_faK fa_journal_Journal_d rfl) rfl ?_ | refine L_s (q_fa fa_journal_Journal_d rfl) rfl ?_
  first | refine L_s (q_load1z ld_ptr_disk_Disk rfl (by repeat (first | exact List.Mem.head _ | apply List.Mem.tail)) (by rfl)) rfl ?_ | refine L_s (q_load1 ld_ptr_disk_Disk rfl (by repeat (first | exact List.Mem.head _ | apply List.Mem.tail)) rfl (by rfl)) rfl ?_
  refine WPL.cons rfl (C1.call (c_call Tryd.func32 rfl rfl rfl) (c_Sync hd hpl) (by repeat (first | exact Pick.nil | apply Pick.keep (by repeat (first | exact List.Mem.head _ | apply List.Mem.tail)) (by first | exact Pers.cells _ _ _ | exact Pers.slv _ _ _) | apply Pick.cons (by repeat (first | exact Pick1.here | apply Pick1.there)))) rfl ?_)
  rintro _ _ ⟨rfl, rfl⟩
  refine WPL.putS ?_
  refine WPL.nil ?_
  exact endR_n rfl .nil ((Imp.pick (by repeat (first | exact Pick.nil | apply Pick.keep (by repeat (first | exact List.Mem.head _ | apply List.Mem.tail)) (by first | exact Pers.cells _ _ _ | exact Pers.slv _ _ _ | exact Pers.bytes _) | apply Pick.cons (by repeat (first | exact Pick1.here | apply Pick1.there))))).trans (jour_close (b := b) (db := db) (j := j) ⟨rs, la, lc⟩ ⟨hheld, hrok⟩ (Γ := [disk db d.sync]))) ⟨rfl, rfl⟩

end Go.Sl
