/- Walks: all records, texts. -/
import Derived.Test.YtdbpjcplmfkgaaaDoorJN
import Derived.Test.YtdbpjcplmfkgaaaDoorJPure7
namespace Go.Sl
open Go Go.RowKit Go.Proofs
set_option linter.unusedSimpArgs false
set_option linter.unusedVariables false
attribute [local irreducible] faB szB ldB zB zL slB mkB arB plB intB cells objc star stars buf slv grp whole Sat WPC WPL WPA WPO Trip

theorem c_All {b db : Nat} {j : JN} (hb : ∀ x ∈ j.held, x.2.length ≤ 1000) (hn : j.held.length ≤ 1000) : Trip Tryd.prog 11 #[.pointer (some ⟨b, 0, none⟩)] [jour b db j] (fun r Δ => ∃ (a : Option Addr) (c : Nat) (ys : List BS), r = .slice a ys.length c ∧ Sok 1 a ys.length c (ys.map bsV) ∧ ys.map BS.bs = j.held.map (·.2) ∧ (∀ y ∈ ys, y.ok) ∧ Δ = [jour b db j, buf 1 a ys.length c (ys.map bsV), bytes ys]) := by
  refine jour_open fun L hL => ?_
  refine Trip.imp (Imp.pick (Δ := [buf 2 L.a L.rs.length L.c (L.rs.flatMap encR), cells true b 0 (jourC db j L), bytes (L.rs.map (fun q : JR => q.x))]) (by repeat (first | exact Pick.nil | apply Pick.keep (by repeat (first | exact List.Mem.head _ | apply List.Mem.tail)) (by first | exact Pers.cells _ _ _ | exact Pers.slv _ _ _ | exact Pers.bytes _) | apply Pick.cons (by repeat (first | exact Pick1.here | apply Pick1.there))))) (Trip.bufOpen fun sp hs hsp => ?_)
  have hlen := hL.len
  have hh : ∀ r ∈ L.rs, r.x.bs.length ≤ 1000 := fun r hr => hb (jrP r) (by rw [← hL.held]; exact List.mem_map_of_mem hr)
  have hc := (c_All_ (b := b) (db := db) hL (by omega) hh hs).frame [cells true (blk L.a) (off L.a + (L.rs.flatMap encR).length) sp, bytes (L.rs.map (fun q : JR => q.x))]
  refine Trip.imp (Imp.pick (Δ := [cells true b 0 (jourC db j L), sl true L.a (L.rs.flatMap encR), bytes (L.rs.map (fun q : JR => q.x)), cells true (blk L.a) (off L.a + (L.rs.flatMap encR).length) sp, bytes (L.rs.map (fun q : JR => q.x))]) (by repeat (first | exact Pick.nil | apply Pick.keep (by repeat (first | exact List.Mem.head _ | apply List.Mem.tail)) (by first | exact Pers.cells _ _ _ | exact Pers.slv _ _ _ | exact Pers.bytes _ | exact Pers.bytes _) | apply Pick.cons (by repeat (first | exact Pick1.here | apply Pick1.there))))) (Trip.post hc ?_)
  rintro v _ ⟨_, ⟨a, c, ys, rfl, h1, h2, h3, rfl⟩, rfl⟩
  refine ⟨_, ⟨a, c, ys, rfl, h1, h2, h3, rfl⟩, ?_⟩
  refine Imp.trans (Imp.pick (Δ := [sl true L.a (L.rs.flatMap encR), cells true (blk L.a) (off L.a + (L.rs.flatMap encR).length) sp, cells true b 0 (jourC db j L), bytes (L.rs.map (fun q : JR => q.x)), buf 1 a ys.length c (ys.map bsV), bytes ys]) (by repeat (first | exact Pick.nil | apply Pick.keep (by repeat (first | exact List.Mem.head _ | apply List.Mem.tail)) (by first | exact Pers.cells _ _ _ | exact Pers.slv _ _ _ | exact Pers.bytes _) | apply Pick.cons (by repeat (first | exact Pick1.here | apply Pick1.there))))) ((Imp.bufClose hs hsp).trans (Imp.trans (Imp.pick (Δ := [cells true b 0 (jourC db j L), buf 2 L.a L.rs.length L.c (L.rs.flatMap encR), bytes (L.rs.map (fun q : JR => q.x)), buf 1 a ys.length c (ys.map bsV), bytes ys]) (by repeat (first | exact Pick.nil | apply Pick.keep (by repeat (first | exact List.Mem.head _ | apply List.Mem.tail)) (by first | exact Pers.cells _ _ _ | exact Pers.slv _ _ _ | exact Pers.bytes _) | apply Pick.cons (by repeat (first | exact Pick1.here | apply Pick1.there))))) (jour_close (b := b) (db := db) (j := j) L hL (Γ := [buf 1 a ys.length c (ys.map bsV), bytes ys]))))

theorem c_texts {b db : Nat} {j : JN} (hb : ∀ x ∈ j.held, x.2.length ≤ 1000) (hn : j.held.length ≤ 1000) : Trip Tryd.prog 31 #[.pointer (some ⟨b, 0, none⟩)] [jour b db j] fun r Δ => r = .string (txt j) ∧ Δ = [jour b db j] := by
  refine Trip.start 22 [.tmp 2] [(0, .pointer (some ⟨b, 0, none⟩))] Tryd.func31 rfl Tryd.ntmps31 rfl ⟨rfl, trivial⟩ rfl ?_
  refine WPC.seqR ?_
  refine L_s (q_assign rfl) rfl ?_
  refine WPL.nil ?_
  refine WPC.seqR ?_
  refine L_s (q_assign rfl) rfl ?_
  refine WPL.nil ?_
  refine WPC.seqR ?_
  refine L_s (q_move rfl) rfl ?_
  refine WPL.cons rfl (C1.call (c_call Tryd.func11 rfl rfl rfl) (c_All hb hn) (by repeat (first | exact Pick.nil | apply Pick.keep (by repeat (first | exact List.Mem.head _ | apply List.Mem.tail)) (by first | exact Pers.cells _ _ _ | exact Pers.slv _ _ _ | exact Pers.bytes _) | apply Pick.cons (by repeat (first | exact Pick1.here | apply Pick1.there)))) rfl ?_)
  rintro _ _ ⟨a, c, ys, rfl, hs, hys, hyo, rfl⟩
  refine WPL.imp ((Imp.pick (Δ := [buf 1 a ys.length c (ys.map bsV), jour b db j, bytes ys]) (by repeat (first | exact Pick.nil | apply Pick.keep (by repeat (first | exact List.Mem.head _ | apply List.Mem.tail)) (by first | exact Pers.cells _ _ _ | exact Pers.slv _ _ _ | exact Pers.bytes _) | apply Pick.cons (by repeat (first | exact Pick1.here | apply Pick1.there))))).trans Imp.bufRo) ?_
  refine WPL.pure fun _ => ?_
  have hyl : ys.length = j.held.length := by have := congrArg List.length hys; simpa using this
  have hyb : ∀ x ∈ ys.map BS.bs, x.length ≤ 1000 := by rw [hys]; intro x hx; obtain ⟨y, hy, rfl⟩ := List.mem_map.1 hx; exact hb y hy
  refine WPL.putS ?_
  refine L_s (q_assign rfl) rfl ?_
  refine WPL.nil ?_
  refine WPC.seq ?_
  refine WPC.seqR ?_
  refine L_s (q_assign rfl) rfl ?_
  refine WPL.nil ?_
  refine WPC.block ?_
  refine WPC.loopS (fun m e Γ => ∃ k : Nat, m = ys.length - k ∧ k ≤ ys.length ∧ e = [(3, .string (((ys.map BS.bs).take k).foldl (fun s b => s ++ strOf b) .empty)), (4, .slice a ys.length c), (5, .int .i64 (k : Int))] ∧ Γ = [jour b db j, sl false a (ys.map bsV), bytes ys]) (ys.length) ⟨0, rfl, by omega, rfl, rfl⟩ (by repeat (first | exact trivial | refine ⟨rfl, ?_⟩)) (Imp.pick (by repeat (first | exact Pick.nil | apply Pick.keep (by repeat (first | exact List.Mem.head _ | apply List.Mem.tail)) (by first | exact Pers.cells _ _ _ | exact Pers.slv _ _ _ | exact Pers.bytes _) | apply Pick.cons (by repeat (first | exact Pick1.here | apply Pick1.there))))) ?_
  rintro m e Γ ⟨k, rfl, hk, rfl, rfl⟩
  refine WPC.seq ?_
  refine WPC.seqR ?_
  refine L_s (q_move rfl) rfl ?_
  refine L_s (q_move rfl) rfl ?_
  refine L_s (q_len rfl un_sl_sl_uint8 rfl) rfl ?_
  refine L_s (q_int rfl rfl rfl) rfl ?_
  refine WPL.nil ?_
  refine WPC.cond rfl (fun h0 => ?_) (fun h0 => ?_)
  · simp only [decide_eq_true_eq, Int.ofNat_lt] at h0
    have hp : Pl a := hs.at (by omega) (by omega)
    obtain ⟨x, hx1⟩ : ∃ x, ys[k]? = some x := ⟨ys[k], by simp [h0]⟩
    have hxm := List.mem_of_getElem? hx1
    have hxo := hyo x hxm
    have hts : ((ys.map BS.bs).take (k + 1)).foldl (fun s b => s ++ strOf b) .empty = (((ys.map BS.bs).take k).foldl (fun s b => s ++ strOf b) .empty) ++ strOf x.bs := by rw [take_succ (show (ys.map BS.bs)[k]? = some x.bs by simp [hx1]), List.foldl_append]; rfl
    have hb1 := txt_bound ((ys.map BS.bs).take k) .empty (fun y hy => hyb y (List.mem_of_mem_take hy))
    have hb2 := strOf_size x.bs
    have hb3 := hyb x.bs (List.mem_map_of_mem hxm)
    have hb4 : ((ys.map BS.bs).take k).length ≤ 1000 := by rw [List.length_take, List.length_map]; omega
    have hb5 : ByteArray.empty.size = 0 := rfl
    refine WPC.skip ?_
    refine thenQ_n ?_
    refine WPC.seq ?_
    refine WPC.block ?_
    refine WPC.region ?_
    refine L_s (q_move rfl) rfl ?_
    refine L_s (q_move rfl) rfl ?_
    refine L_s (q_move rfl) rfl ?_
    refine L_s (q_idxN (i := k) sl_sl_sl_uint8 rfl rfl h0 hp) rfl ?_
    refine L_s (show Q1 _ _ _ _ (bsV x) from q_ldMap (f := bsV) ld_sl_uint8 rfl (by repeat (first | exact List.Mem.head _ | apply List.Mem.tail)) hx1) rfl ?_
    refine WPL.imp ((Imp.pick (Δ := [bytes ys, jour b db j, sl false a (ys.map bsV)]) (by repeat (first | exact Pick.nil | apply Pick.keep (by repeat (first | exact List.Mem.head _ | apply List.Mem.tail)) (by first | exact Pers.cells _ _ _ | exact Pers.slv _ _ _ | exact Pers.bytes _) | apply Pick.cons (by repeat (first | exact Pick1.here | apply Pick1.there))))).trans (bytes_one hxm)) ?_
    refine L_s (q_bytesStr (p := false) (xs := x.bs) un_sl_uint8 un_uint8 un_string hxo (by repeat (first | exact List.Mem.head _ | apply List.Mem.tail)) rfl) rfl ?_
    refine L_s (q_strCat rfl rfl (by omega)) rfl ?_
    rw [← hts]
    refine L_s (q_assign rfl) rfl ?_
    refine WPL.nil ?_
    refine blockQ_n ?_
    refine thenQ_n ?_
    refine WPC.region ?_
    refine L_s (q_move rfl) rfl ?_
    first | refine L_s (q_inc rfl rfl (by omega)) rfl ?_ | refine L_s (q_addI rfl rfl (by omega)) rfl ?_ | refine L_s (q_int rfl rfl rfl) rfl ?_
    refine L_s (q_assign rfl) rfl ?_
    refine WPL.nil ?_
    refine thenQ_n ?_
    exact ⟨rfl, _, _, _, by omega, ⟨k + 1, rfl, by omega, rfl, rfl⟩, (by repeat (first | exact trivial | refine ⟨rfl, ?_⟩)), Imp.pick (by repeat (first | exact Pick.nil | apply Pick.keep (by repeat (first | exact List.Mem.head _ | apply List.Mem.tail)) (by first | exact Pers.cells _ _ _ | exact Pers.slv _ _ _ | exact Pers.bytes _) | apply Pick.cons (by repeat (first | exact Pick1.here | apply Pick1.there))))⟩
  · simp only [decide_eq_false_iff_not, Int.ofNat_lt] at h0
    have hk2 : k = ys.length := by omega
    refine WPC.exit ?_
    refine thenQ_e ?_
    refine thenQ_e ?_
    refine blockQ_here ?_
    refine thenQ_n ?_
    refine WPC.seqR ?_
    refine L_s (q_move rfl) rfl ?_
    refine L_s (q_assign rfl) rfl ?_
    refine WPL.nil ?_
    refine WPC.ret ?_
    have he : (((ys.map BS.bs).take k).foldl (fun s b => s ++ strOf b) .empty) = txt j := by rw [hk2, List.take_of_length_le (by simp), hys]; rfl
    rw [he]
    exact endR_r rfl (.tmp rfl .nil) (Imp.pick (by repeat (first | exact Pick.nil | apply Pick.keep (by repeat (first | exact List.Mem.head _ | apply List.Mem.tail)) (by first | exact Pers.cells _ _ _ | exact Pers.slv _ _ _ | exact Pers.bytes _) | apply Pick.cons (by repeat (first | exact Pick1.here | apply Pick1.there))))) ⟨rfl, rfl⟩

end Go.Sl
