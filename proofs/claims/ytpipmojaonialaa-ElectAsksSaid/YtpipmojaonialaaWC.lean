/- Walks: the statement's package. -/
import Derived.Test.YtpipmojaonialaaWB
namespace Go.Sl
open Go Go.RowKit Go.Proofs
set_option linter.unusedSimpArgs false
set_option linter.unusedVariables false
attribute [local irreducible] faB szB ldB zB zL slB mkB arB plB intB cells objc star stars buf slv grp whole Sat WPC WPL WPA WPO Trip

theorem c_New {p : Bool} {a : Option Addr} {n c : Nat} {xs : List Int} (hs : Sok 1 a n c (xs.map (.int .i64))) (hn : n < 1073741824) (v : Int) : Trip Try.prog 13 #[.int .i64 v, .slice a n c] [sl p a (xs.map (.int .i64))] fun r Δ => ∃ b : Nat, r = .pointer (some ⟨b, 0, none⟩) ∧ Δ = [enode b 0 (EN.new v xs), sl p a (xs.map (.int .i64))] := by
  refine Trip.start 12 [.tmp 4] [(0, .int .i64 v), (1, .slice a n c)] Try.func13 rfl Try.ntmps13 rfl ⟨rfl, rfl, trivial⟩ rfl ?_
  refine WPC.seqR ?_
  refine L_s (q_assign rfl) rfl ?_
  refine WPL.nil ?_
  refine WPC.seqD mixed ?_
  refine WPA.takeP 0 rfl (q_move rfl) (by kernel_rfl) (by kernel_rfl) (by kernel_rfl) rfl rfl (.nil _) ?_
  refine WPA.putS ?_
  refine WPA.takeP 1 rfl (q_move rfl) (by kernel_rfl) (by kernel_rfl) (by kernel_rfl) rfl rfl (.nil _) ?_
  refine WPA.putS ?_
  refine WPA.three 2 3 4 (by kernel_rfl) ?_ ?_ ?_
  · refine Eff.mk 2 [] rfl rfl (by repeat (first | exact .nil | refine .anc rfl ?_ | refine .keep (by repeat (first | exact List.Mem.head _ | apply List.Mem.tail)) ?_)) (C1.call (c_call Try.func26 rfl rfl rfl) (c_Clone hs hn) (by repeat (first | exact Pick.nil | apply Pick.keep (by repeat (first | exact List.Mem.head _ | apply List.Mem.tail)) (by first | exact Pers.cells _ _ _ | exact Pers.slv _ _ _) | apply Pick.cons (by repeat (first | exact Pick1.here | apply Pick1.there)))) rfl ?_)
    rintro _ _ ⟨a', c', rfl, rfl⟩
    refine ⟨(.nil _), ?_⟩
    refine WPA.putS ?_
    refine WPA.two 3 4 (by kernel_rfl) ?_ ?_
    · refine Eff.mk 3 [] rfl rfl (by repeat (first | exact .nil | refine .anc rfl ?_ | refine .keep (by repeat (first | exact List.Mem.head _ | apply List.Mem.tail)) ?_)) (E1.wpo (e_make mk_sl_uint64 (by decide) rfl rfl (by omega) (by omega) (by omega) (by omega)) rfl ?_)
      rintro _ _ ⟨bn, rfl, rfl⟩
      refine ⟨(.nil _), ?_⟩
      refine WPA.putS ?_
      refine WPA.oneE 4 [] (by kernel_rfl) rfl rfl (by repeat (first | exact .nil | refine .anc rfl ?_ | refine .keep (by repeat (first | exact List.Mem.head _ | apply List.Mem.tail)) ?_)) (E1.wpo (e_make mk_sl_uint64 (by decide) rfl rfl (by omega) (by omega) (by omega) (by omega)) rfl ?_)
      rintro _ _ ⟨bm, rfl, rfl⟩
      refine ⟨(.nil _), ?_⟩
      refine WPA.putS ?_
      refine WPA.takeP 5 rfl (q_build (cs := [_, _, _, _, _, _, _, _, _, _, _, _, _, _]) pl_elect_Node rfl rfl) (by kernel_rfl) (by kernel_rfl) (by kernel_rfl) rfl rfl (.nil _) ?_
      refine WPA.putS ?_
      first | refine WPA.oneE 6 [] (by kernel_rfl) rfl rfl (by repeat (first | exact .nil | refine .anc rfl ?_ | refine .keep (by repeat (first | exact List.Mem.head _ | apply List.Mem.tail)) ?_)) (E1.wpo (e_boxN rfl) rfl ?_) | refine WPA.oneE 6 [] (by kernel_rfl) rfl rfl (by repeat (first | exact .nil | refine .anc rfl ?_ | refine .keep (by repeat (first | exact List.Mem.head _ | apply List.Mem.tail)) ?_)) (E1.wpo (e_box1 rfl rfl) rfl ?_)
      rintro _ _ ⟨bx, rfl, rfl⟩
      refine ⟨(.nil _), ?_⟩
      refine WPA.putS ?_
      refine WPA.takeP 7 rfl (q_assign rfl) (by kernel_rfl) (by kernel_rfl) (by kernel_rfl) rfl rfl (.nil _) ?_
      refine WPA.putS ?_
      refine WPA.done (by kernel_rfl) ?_
      refine WPC.imp (Imp.pick (Δ := [buf 1 a' n c' (xs.map (.int .i64)), cells true bx 0 (nodeC (EN.new v xs) (⟨a', n, c', none, 0, 0, none, 0, 0, bn, bm⟩ : NL)), cells true bn 0 ((List.replicate 16 (0 : Int)).map (.int .u64)), cells true bm 0 ((List.replicate 16 (0 : Int)).map (.int .u64)), sl p a (xs.map (.int .i64))]) (by repeat (first | exact Pick.nil | apply Pick.keep (by repeat (first | exact List.Mem.head _ | apply List.Mem.tail)) (by first | exact Pers.cells _ _ _ | exact Pers.slv _ _ _) | apply Pick.cons (by repeat (first | exact Pick1.here | apply Pick1.there))))) ?_
      refine WPC.bufRo fun hcl => ?_
      refine WPC.imp (Imp.bufNil (sz := 1)) ?_
      refine WPC.imp (Imp.slEmpty (p := false) (a := none)) ?_
      refine WPC.ret ?_
      exact endR_r rfl (.tmp rfl .nil) ((Imp.pick (by repeat (first | exact Pick.nil | apply Pick.keep (by repeat (first | exact List.Mem.head _ | apply List.Mem.tail)) (by first | exact Pers.cells _ _ _ | exact Pers.slv _ _ _) | apply Pick.cons (by repeat (first | exact Pick1.here | apply Pick1.there))))).trans (enode_close (x := EN.new v xs) (b := bx) (o := 0) (⟨a', n, c', none, 0, 0, none, 0, 0, bn, bm⟩ : NL) ⟨hcl, hn, ⟨rfl, Nat.le_refl _, .inl rfl⟩, by (show 0 < _; omega), rfl, rfl⟩ (Γ := [sl p a (xs.map (.int .i64))]))) ⟨bx, rfl, rfl⟩
    · refine Eff.mk 4 [] rfl rfl (by repeat (first | exact .nil | refine .anc rfl ?_ | refine .keep (by repeat (first | exact List.Mem.head _ | apply List.Mem.tail)) ?_)) (E1.wpo (e_make mk_sl_uint64 (by decide) rfl rfl (by omega) (by omega) (by omega) (by omega)) rfl ?_)
      rintro _ _ ⟨bm, rfl, rfl⟩
      refine ⟨(.nil _), ?_⟩
      refine WPA.putS ?_
      refine WPA.oneE 3 [] (by kernel_rfl) rfl rfl (by repeat (first | exact .nil | refine .anc rfl ?_ | refine .keep (by repeat (first | exact List.Mem.head _ | apply List.Mem.tail)) ?_)) (E1.wpo (e_make mk_sl_uint64 (by decide) rfl rfl (by omega) (by omega) (by omega) (by omega)) rfl ?_)
      rintro _ _ ⟨bn, rfl, rfl⟩
      refine ⟨(.nil _), ?_⟩
      refine WPA.putS ?_
      refine WPA.takeP 5 rfl (q_build (cs := [_, _, _, _, _, _, _, _, _, _, _, _, _, _]) pl_elect_Node rfl rfl) (by kernel_rfl) (by kernel_rfl) (by kernel_rfl) rfl rfl (.nil _) ?_
      refine WPA.putS ?_
      first | refine WPA.oneE 6 [] (by kernel_rfl) rfl rfl (by repeat (first | exact .nil | refine .anc rfl ?_ | refine .keep (by repeat (first | exact List.Mem.head _ | apply List.Mem.tail)) ?_)) (E1.wpo (e_boxN rfl) rfl ?_) | refine WPA.oneE 6 [] (by kernel_rfl) rfl rfl (by repeat (first | exact .nil | refine .anc rfl ?_ | refine .keep (by repeat (first | exact List.Mem.head _ | apply List.Mem.tail)) ?_)) (E1.wpo (e_box1 rfl rfl) rfl ?_)
      rintro _ _ ⟨bx, rfl, rfl⟩
      refine ⟨(.nil _), ?_⟩
      refine WPA.putS ?_
      refine WPA.takeP 7 rfl (q_assign rfl) (by kernel_rfl) (by kernel_rfl) (by kernel_rfl) rfl rfl (.nil _) ?_
      refine WPA.putS ?_
      refine WPA.done (by kernel_rfl) ?_
      refine WPC.imp (Imp.pick (Δ := [buf 1 a' n c' (xs.map (.int .i64)), cells true bx 0 (nodeC (EN.new v xs) (⟨a', n, c', none, 0, 0, none, 0, 0, bn, bm⟩ : NL)), cells true bn 0 ((List.replicate 16 (0 : Int)).map (.int .u64)), cells true bm 0 ((List.replicate 16 (0 : Int)).map (.int .u64)), sl p a (xs.map (.int .i64))]) (by repeat (first | exact Pick.nil | apply Pick.keep (by repeat (first | exact List.Mem.head _ | apply List.Mem.tail)) (by first | exact Pers.cells _ _ _ | exact Pers.slv _ _ _) | apply Pick.cons (by repeat (first | exact Pick1.here | apply Pick1.there))))) ?_
      refine WPC.bufRo fun hcl => ?_
      refine WPC.imp (Imp.bufNil (sz := 1)) ?_
      refine WPC.imp (Imp.slEmpty (p := false) (a := none)) ?_
      refine WPC.ret ?_
      exact endR_r rfl (.tmp rfl .nil) ((Imp.pick (by repeat (first | exact Pick.nil | apply Pick.keep (by repeat (first | exact List.Mem.head _ | apply List.Mem.tail)) (by first | exact Pers.cells _ _ _ | exact Pers.slv _ _ _) | apply Pick.cons (by repeat (first | exact Pick1.here | apply Pick1.there))))).trans (enode_close (x := EN.new v xs) (b := bx) (o := 0) (⟨a', n, c', none, 0, 0, none, 0, 0, bn, bm⟩ : NL) ⟨hcl, hn, ⟨rfl, Nat.le_refl _, .inl rfl⟩, by (show 0 < _; omega), rfl, rfl⟩ (Γ := [sl p a (xs.map (.int .i64))]))) ⟨bx, rfl, rfl⟩
  · refine Eff.mk 3 [] rfl rfl (by repeat (first | exact .nil | refine .anc rfl ?_ | refine .keep (by repeat (first | exact List.Mem.head _ | apply List.Mem.tail)) ?_)) (E1.wpo (e_make mk_sl_uint64 (by decide) rfl rfl (by omega) (by omega) (by omega) (by omega)) rfl ?_)
    rintro _ _ ⟨bn, rfl, rfl⟩
    refine ⟨(.nil _), ?_⟩
    refine WPA.putS ?_
    refine WPA.two 2 4 (by kernel_rfl) ?_ ?_
    · refine Eff.mk 2 [] rfl rfl (by repeat (first | exact .nil | refine .anc rfl ?_ | refine .keep (by repeat (first | exact List.Mem.head _ | apply List.Mem.tail)) ?_)) (C1.call (c_call Try.func26 rfl rfl rfl) (c_Clone hs hn) (by repeat (first | exact Pick.nil | apply Pick.keep (by repeat (first | exact List.Mem.head _ | apply List.Mem.tail)) (by first | exact Pers.cells _ _ _ | exact Pers.slv _ _ _) | apply Pick.cons (by repeat (first | exact Pick1.here | apply Pick1.there)))) rfl ?_)
      rintro _ _ ⟨a', c', rfl, rfl⟩
      refine ⟨(.nil _), ?_⟩
      refine WPA.putS ?_
      refine WPA.oneE 4 [] (by kernel_rfl) rfl rfl (by repeat (first | exact .nil | refine .anc rfl ?_ | refine .keep (by repeat (first | exact List.Mem.head _ | apply List.Mem.tail)) ?_)) (E1.wpo (e_make mk_sl_uint64 (by decide) rfl rfl (by omega) (by omega) (by omega) (by omega)) rfl ?_)
      rintro _ _ ⟨bm, rfl, rfl⟩
      refine ⟨(.nil _), ?_⟩
      refine WPA.putS ?_
      refine WPA.takeP 5 rfl (q_build (cs := [_, _, _, _, _, _, _, _, _, _, _, _, _, _]) pl_elect_Node rfl rfl) (by kernel_rfl) (by kernel_rfl) (by kernel_rfl) rfl rfl (.nil _) ?_
      refine WPA.putS ?_
      first | refine WPA.oneE 6 [] (by kernel_rfl) rfl rfl (by repeat (first | exact .nil | refine .anc rfl ?_ | refine .keep (by repeat (first | exact List.Mem.head _ | apply List.Mem.tail)) ?_)) (E1.wpo (e_boxN rfl) rfl ?_) | refine WPA.oneE 6 [] (by kernel_rfl) rfl rfl (by repeat (first | exact .nil | refine .anc rfl ?_ | refine .keep (by repeat (first | exact List.Mem.head _ | apply List.Mem.tail)) ?_)) (E1.wpo (e_box1 rfl rfl) rfl ?_)
      rintro _ _ ⟨bx, rfl, rfl⟩
      refine ⟨(.nil _), ?_⟩
      refine WPA.putS ?_
      refine WPA.takeP 7 rfl (q_assign rfl) (by kernel_rfl) (by kernel_rfl) (by kernel_rfl) rfl rfl (.nil _) ?_
      refine WPA.putS ?_
      refine WPA.done (by kernel_rfl) ?_
      refine WPC.imp (Imp.pick (Δ := [buf 1 a' n c' (xs.map (.int .i64)), cells true bx 0 (nodeC (EN.new v xs) (⟨a', n, c', none, 0, 0, none, 0, 0, bn, bm⟩ : NL)), cells true bn 0 ((List.replicate 16 (0 : Int)).map (.int .u64)), cells true bm 0 ((List.replicate 16 (0 : Int)).map (.int .u64)), sl p a (xs.map (.int .i64))]) (by repeat (first | exact Pick.nil | apply Pick.keep (by repeat (first | exact List.Mem.head _ | apply List.Mem.tail)) (by first | exact Pers.cells _ _ _ | exact Pers.slv _ _ _) | apply Pick.cons (by repeat (first | exact Pick1.here | apply Pick1.there))))) ?_
      refine WPC.bufRo fun hcl => ?_
      refine WPC.imp (Imp.bufNil (sz := 1)) ?_
      refine WPC.imp (Imp.slEmpty (p := false) (a := none)) ?_
      refine WPC.ret ?_
      exact endR_r rfl (.tmp rfl .nil) ((Imp.pick (by repeat (first | exact Pick.nil | apply Pick.keep (by repeat (first | exact List.Mem.head _ | apply List.Mem.tail)) (by first | exact Pers.cells _ _ _ | exact Pers.slv _ _ _) | apply Pick.cons (by repeat (first | exact Pick1.here | apply Pick1.there))))).trans (enode_close (x := EN.new v xs) (b := bx) (o := 0) (⟨a', n, c', none, 0, 0, none, 0, 0, bn, bm⟩ : NL) ⟨hcl, hn, ⟨rfl, Nat.le_refl _, .inl rfl⟩, by (show 0 < _; omega), rfl, rfl⟩ (Γ := [sl p a (xs.map (.int .i64))]))) ⟨bx, rfl, rfl⟩
    · refine Eff.mk 4 [] rfl rfl (by repeat (first | exact .nil | refine .anc rfl ?_ | refine .keep (by repeat (first | exact List.Mem.head _ | apply List.Mem.tail)) ?_)) (E1.wpo (e_make mk_sl_uint64 (by decide) rfl rfl (by omega) (by omega) (by omega) (by omega)) rfl ?_)
      rintro _ _ ⟨bm, rfl, rfl⟩
      refine ⟨(.nil _), ?_⟩
      refine WPA.putS ?_
      refine WPA.oneE 2 [] (by kernel_rfl) rfl rfl (by repeat (first | exact .nil | refine .anc rfl ?_ | refine .keep (by repeat (first | exact List.Mem.head _ | apply List.Mem.tail)) ?_)) (C1.call (c_call Try.func26 rfl rfl rfl) (c_Clone hs hn) (by repeat (first | exact Pick.nil | apply Pick.keep (by repeat (first | exact List.Mem.head _ | apply List.Mem.tail)) (by first | exact Pers.cells _ _ _ | exact Pers.slv _ _ _) | apply Pick.cons (by repeat (first | exact Pick1.here | apply Pick1.there)))) rfl ?_)
      rintro _ _ ⟨a', c', rfl, rfl⟩
      refine ⟨(.nil _), ?_⟩
      refine WPA.putS ?_
      refine WPA.takeP 5 rfl (q_build (cs := [_, _, _, _, _, _, _, _, _, _, _, _, _, _]) pl_elect_Node rfl rfl) (by kernel_rfl) (by kernel_rfl) (by kernel_rfl) rfl rfl (.nil _) ?_
      refine WPA.putS ?_
      first | refine WPA.oneE 6 [] (by kernel_rfl) rfl rfl (by repeat (first | exact .nil | refine .anc rfl ?_ | refine .keep (by repeat (first | exact List.Mem.head _ | apply List.Mem.tail)) ?_)) (E1.wpo (e_boxN rfl) rfl ?_) | refine WPA.oneE 6 [] (by kernel_rfl) rfl rfl (by repeat (first | exact .nil | refine .anc rfl ?_ | refine .keep (by repeat (first | exact List.Mem.head _ | apply List.Mem.tail)) ?_)) (E1.wpo (e_box1 rfl rfl) rfl ?_)
      rintro _ _ ⟨bx, rfl, rfl⟩
      refine ⟨(.nil _), ?_⟩
      refine WPA.putS ?_
      refine WPA.takeP 7 rfl (q_assign rfl) (by kernel_rfl) (by kernel_rfl) (by kernel_rfl) rfl rfl (.nil _) ?_
      refine WPA.putS ?_
      refine WPA.done (by kernel_rfl) ?_
      refine WPC.imp (Imp.pick (Δ := [buf 1 a' n c' (xs.map (.int .i64)), cells true bx 0 (nodeC (EN.new v xs) (⟨a', n, c', none, 0, 0, none, 0, 0, bn, bm⟩ : NL)), cells true bn 0 ((List.replicate 16 (0 : Int)).map (.int .u64)), cells true bm 0 ((List.replicate 16 (0 : Int)).map (.int .u64)), sl p a (xs.map (.int .i64))]) (by repeat (first | exact Pick.nil | apply Pick.keep (by repeat (first | exact List.Mem.head _ | apply List.Mem.tail)) (by first | exact Pers.cells _ _ _ | exact Pers.slv _ _ _) | apply Pick.cons (by repeat (first | exact Pick1.here | apply Pick1.there))))) ?_
      refine WPC.bufRo fun hcl => ?_
      refine WPC.imp (Imp.bufNil (sz := 1)) ?_
      refine WPC.imp (Imp.slEmpty (p := false) (a := none)) ?_
      refine WPC.ret ?_
      exact endR_r rfl (.tmp rfl .nil) ((Imp.pick (by repeat (first | exact Pick.nil | apply Pick.keep (by repeat (first | exact List.Mem.head _ | apply List.Mem.tail)) (by first | exact Pers.cells _ _ _ | exact Pers.slv _ _ _) | apply Pick.cons (by repeat (first | exact Pick1.here | apply Pick1.there))))).trans (enode_close (x := EN.new v xs) (b := bx) (o := 0) (⟨a', n, c', none, 0, 0, none, 0, 0, bn, bm⟩ : NL) ⟨hcl, hn, ⟨rfl, Nat.le_refl _, .inl rfl⟩, by (show 0 < _; omega), rfl, rfl⟩ (Γ := [sl p a (xs.map (.int .i64))]))) ⟨bx, rfl, rfl⟩
  · refine Eff.mk 4 [] rfl rfl (by repeat (first | exact .nil | refine .anc rfl ?_ | refine .keep (by repeat (first | exact List.Mem.head _ | apply List.Mem.tail)) ?_)) (E1.wpo (e_make mk_sl_uint64 (by decide) rfl rfl (by omega) (by omega) (by omega) (by omega)) rfl ?_)
    rintro _ _ ⟨bm, rfl, rfl⟩
    refine ⟨(.nil _), ?_⟩
    refine WPA.putS ?_
    refine WPA.two 2 3 (by kernel_rfl) ?_ ?_
    · refine Eff.mk 2 [] rfl rfl (by repeat (first | exact .nil | refine .anc rfl ?_ | refine .keep (by repeat (first | exact List.Mem.head _ | apply List.Mem.tail)) ?_)) (C1.call (c_call Try.func26 rfl rfl rfl) (c_Clone hs hn) (by repeat (first | exact Pick.nil | apply Pick.keep (by repeat (first | exact List.Mem.head _ | apply List.Mem.tail)) (by first | exact Pers.cells _ _ _ | exact Pers.slv _ _ _) | apply Pick.cons (by repeat (first | exact Pick1.here | apply Pick1.there)))) rfl ?_)
      rintro _ _ ⟨a', c', rfl, rfl⟩
      refine ⟨(.nil _), ?_⟩
      refine WPA.putS ?_
      refine WPA.oneE 3 [] (by kernel_rfl) rfl rfl (by repeat (first | exact .nil | refine .anc rfl ?_ | refine .keep (by repeat (first | exact List.Mem.head _ | apply List.Mem.tail)) ?_)) (E1.wpo (e_make mk_sl_uint64 (by decide) rfl rfl (by omega) (by omega) (by omega) (by omega)) rfl ?_)
      rintro _ _ ⟨bn, rfl, rfl⟩
      refine ⟨(.nil _), ?_⟩
      refine WPA.putS ?_
      refine WPA.takeP 5 rfl (q_build (cs := [_, _, _, _, _, _, _, _, _, _, _, _, _, _]) pl_elect_Node rfl rfl) (by kernel_rfl) (by kernel_rfl) (by kernel_rfl) rfl rfl (.nil _) ?_
      refine WPA.putS ?_
      first | refine WPA.oneE 6 [] (by kernel_rfl) rfl rfl (by repeat (first | exact .nil | refine .anc rfl ?_ | refine .keep (by repeat (first | exact List.Mem.head _ | apply List.Mem.tail)) ?_)) (E1.wpo (e_boxN rfl) rfl ?_) | refine WPA.oneE 6 [] (by kernel_rfl) rfl rfl (by repeat (first | exact .nil | refine .anc rfl ?_ | refine .keep (by repeat (first | exact List.Mem.head _ | apply List.Mem.tail)) ?_)) (E1.wpo (e_box1 rfl rfl) rfl ?_)
      rintro _ _ ⟨bx, rfl, rfl⟩
      refine ⟨(.nil _), ?_⟩
      refine WPA.putS ?_
      refine WPA.takeP 7 rfl (q_assign rfl) (by kernel_rfl) (by kernel_rfl) (by kernel_rfl) rfl rfl (.nil _) ?_
      refine WPA.putS ?_
      refine WPA.done (by kernel_rfl) ?_
      refine WPC.imp (Imp.pick (Δ := [buf 1 a' n c' (xs.map (.int .i64)), cells true bx 0 (nodeC (EN.new v xs) (⟨a', n, c', none, 0, 0, none, 0, 0, bn, bm⟩ : NL)), cells true bn 0 ((List.replicate 16 (0 : Int)).map (.int .u64)), cells true bm 0 ((List.replicate 16 (0 : Int)).map (.int .u64)), sl p a (xs.map (.int .i64))]) (by repeat (first | exact Pick.nil | apply Pick.keep (by repeat (first | exact List.Mem.head _ | apply List.Mem.tail)) (by first | exact Pers.cells _ _ _ | exact Pers.slv _ _ _) | apply Pick.cons (by repeat (first | exact Pick1.here | apply Pick1.there))))) ?_
      refine WPC.bufRo fun hcl => ?_
      refine WPC.imp (Imp.bufNil (sz := 1)) ?_
      refine WPC.imp (Imp.slEmpty (p := false) (a := none)) ?_
      refine WPC.ret ?_
      exact endR_r rfl (.tmp rfl .nil) ((Imp.pick (by repeat (first | exact Pick.nil | apply Pick.keep (by repeat (first | exact List.Mem.head _ | apply List.Mem.tail)) (by first | exact Pers.cells _ _ _ | exact Pers.slv _ _ _) | apply Pick.cons (by repeat (first | exact Pick1.here | apply Pick1.there))))).trans (enode_close (x := EN.new v xs) (b := bx) (o := 0) (⟨a', n, c', none, 0, 0, none, 0, 0, bn, bm⟩ : NL) ⟨hcl, hn, ⟨rfl, Nat.le_refl _, .inl rfl⟩, by (show 0 < _; omega), rfl, rfl⟩ (Γ := [sl p a (xs.map (.int .i64))]))) ⟨bx, rfl, rfl⟩
    · refine Eff.mk 3 [] rfl rfl (by repeat (first | exact .nil | refine .anc rfl ?_ | refine .keep (by repeat (first | exact List.Mem.head _ | apply List.Mem.tail)) ?_)) (E1.wpo (e_make mk_sl_uint64 (by decide) rfl rfl (by omega) (by omega) (by omega) (by omega)) rfl ?_)
      rintro _ _ ⟨bn, rfl, rfl⟩
      refine ⟨(.nil _), ?_⟩
      refine WPA.putS ?_
      refine WPA.oneE 2 [] (by kernel_rfl) rfl rfl (by repeat (first | exact .nil | refine .anc rfl ?_ | refine .keep (by repeat (first | exact List.Mem.head _ | apply List.Mem.tail)) ?_)) (C1.call (c_call Try.func26 rfl rfl rfl) (c_Clone hs hn) (by repeat (first | exact Pick.nil | apply Pick.keep (by repeat (first | exact List.Mem.head _ | apply List.Mem.tail)) (by first | exact Pers.cells _ _ _ | exact Pers.slv _ _ _) | apply Pick.cons (by repeat (first | exact Pick1.here | apply Pick1.there)))) rfl ?_)
      rintro _ _ ⟨a', c', rfl, rfl⟩
      refine ⟨(.nil _), ?_⟩
      refine WPA.putS ?_
      refine WPA.takeP 5 rfl (q_build (cs := [_, _, _, _, _, _, _, _, _, _, _, _, _, _]) pl_elect_Node rfl rfl) (by kernel_rfl) (by kernel_rfl) (by kernel_rfl) rfl rfl (.nil _) ?_
      refine WPA.putS ?_
      first | refine WPA.oneE 6 [] (by kernel_rfl) rfl rfl (by repeat (first | exact .nil | refine .anc rfl ?_ | refine .keep (by repeat (first | exact List.Mem.head _ | apply List.Mem.tail)) ?_)) (E1.wpo (e_boxN rfl) rfl ?_) | refine WPA.oneE 6 [] (by kernel_rfl) rfl rfl (by repeat (first | exact .nil | refine .anc rfl ?_ | refine .keep (by repeat (first | exact List.Mem.head _ | apply List.Mem.tail)) ?_)) (E1.wpo (e_box1 rfl rfl) rfl ?_)
      rintro _ _ ⟨bx, rfl, rfl⟩
      refine ⟨(.nil _), ?_⟩
      refine WPA.putS ?_
      refine WPA.takeP 7 rfl (q_assign rfl) (by kernel_rfl) (by kernel_rfl) (by kernel_rfl) rfl rfl (.nil _) ?_
      refine WPA.putS ?_
      refine WPA.done (by kernel_rfl) ?_
      refine WPC.imp (Imp.pick (Δ := [buf 1 a' n c' (xs.map (.int .i64)), cells true bx 0 (nodeC (EN.new v xs) (⟨a', n, c', none, 0, 0, none, 0, 0, bn, bm⟩ : NL)), cells true bn 0 ((List.replicate 16 (0 : Int)).map (.int .u64)), cells true bm 0 ((List.replicate 16 (0 : Int)).map (.int .u64)), sl p a (xs.map (.int .i64))]) (by repeat (first | exact Pick.nil | apply Pick.keep (by repeat (first | exact List.Mem.head _ | apply List.Mem.tail)) (by first | exact Pers.cells _ _ _ | exact Pers.slv _ _ _) | apply Pick.cons (by repeat (first | exact Pick1.here | apply Pick1.there))))) ?_
      refine WPC.bufRo fun hcl => ?_
      refine WPC.imp (Imp.bufNil (sz := 1)) ?_
      refine WPC.imp (Imp.slEmpty (p := false) (a := none)) ?_
      refine WPC.ret ?_
      exact endR_r rfl (.tmp rfl .nil) ((Imp.pick (by repeat (first | exact Pick.nil | apply Pick.keep (by repeat (first | exact List.Mem.head _ | apply List.Mem.tail)) (by first | exact Pers.cells _ _ _ | exact Pers.slv _ _ _) | apply Pick.cons (by repeat (first | exact Pick1.here | apply Pick1.there))))).trans (enode_close (x := EN.new v xs) (b := bx) (o := 0) (⟨a', n, c', none, 0, 0, none, 0, 0, bn, bm⟩ : NL) ⟨hcl, hn, ⟨rfl, Nat.le_refl _, .inl rfl⟩, by (show 0 < _; omega), rfl, rfl⟩ (Γ := [sl p a (xs.map (.int .i64))]))) ⟨bx, rfl, rfl⟩

theorem c_begun3  : Trip Try.prog 21 #[.int .i64 3, .slice none 0 0] [] fun r Δ => ∃ (g : Nat) (ns : List (Nat × EN)), r = .pointer (some ⟨g, 0, none⟩) ∧ ns.map (·.2) = (List.range 3).map (fun j : Nat => EN.new (j : Int) (upTo 3)) ∧ Δ = [egroup g ⟨ns, [], [], []⟩] := by
  refine Trip.start 73 [.tmp 4] [(0, .int .i64 3), (1, .slice none 0 0)] Try.func21 rfl Try.ntmps21 rfl ⟨rfl, rfl, trivial⟩ rfl ?_
  refine WPC.seqR ?_
  refine L_s (q_assign rfl) rfl ?_
  refine WPL.nil ?_
  refine WPC.seq ?_
  refine WPC.seqR ?_
  refine L_s (q_move rfl) rfl ?_
  refine L_s (q_int rfl rfl rfl) rfl ?_
  refine L_s (q_move rfl) rfl ?_
  apply WPL.joinO (e' := [(0, _), (1, _), (4, _)]) 12 15 3 rfl
  · intro g1_2
    try simp only [decide_eq_true_eq, decide_eq_false_iff_not, beq_iff_eq, bne_iff_ne, beq_eq_false_iff_ne, bne_eq_false_iff_eq, Bool.not_eq_true', Bool.not_eq_false', Bool.not_eq_eq_eq_not, Bool.not_true, Bool.not_false, ne_eq, Decidable.not_not, Int.not_lt, Int.not_le, gt_iff_lt, ge_iff_le] at g1_2
    refine L_no rfl rfl rfl rfl ?_
    refine L_no rfl rfl rfl rfl ?_
    first | refine L_s (q_pickT rfl rfl) rfl ?_ | refine L_s (q_pickF rfl rfl) rfl ?_
    first | exact WPL.jn rfl rfl (by repeat (first | exact trivial | refine ⟨rfl, ?_⟩)) | exact WPL.jnI rfl rfl (by repeat (first | exact trivial | refine ⟨rfl, ?_⟩)) (Imp.pick (by repeat (first | exact Pick.nil | apply Pick.keep (by repeat (first | exact List.Mem.head _ | apply List.Mem.tail)) (by first | exact Pers.cells _ _ _ | exact Pers.slv _ _ _) | apply Pick.cons (by repeat (first | exact Pick1.here | apply Pick1.there)))))
  · intro g1_2
    try simp only [decide_eq_true_eq, decide_eq_false_iff_not, beq_iff_eq, bne_iff_ne, beq_eq_false_iff_ne, bne_eq_false_iff_eq, Bool.not_eq_true', Bool.not_eq_false', Bool.not_eq_eq_eq_not, Bool.not_true, Bool.not_false, ne_eq, Decidable.not_not, Int.not_lt, Int.not_le, gt_iff_lt, ge_iff_le] at g1_2
    refine L_yes rfl rfl (q_move rfl) rfl ?_
    refine L_yes rfl rfl (q_int rfl rfl rfl) rfl ?_
    first | refine L_s (q_pickT rfl rfl) rfl ?_ | refine L_s (q_pickF rfl rfl) rfl ?_
    first | exact WPL.jn rfl rfl (by repeat (first | exact trivial | refine ⟨rfl, ?_⟩)) | exact WPL.jnI rfl rfl (by repeat (first | exact trivial | refine ⟨rfl, ?_⟩)) (Imp.pick (by repeat (first | exact Pick.nil | apply Pick.keep (by repeat (first | exact List.Mem.head _ | apply List.Mem.tail)) (by first | exact Pers.cells _ _ _ | exact Pers.slv _ _ _) | apply Pick.cons (by repeat (first | exact Pick1.here | apply Pick1.there)))))
  refine L_s (q_move rfl) rfl ?_
  apply WPL.joinO (e' := [(0, _), (1, _), (4, _)]) 16 20 4 rfl
  · intro g1_6
    try simp only [decide_eq_true_eq, decide_eq_false_iff_not, beq_iff_eq, bne_iff_ne, beq_eq_false_iff_ne, bne_eq_false_iff_eq, Bool.not_eq_true', Bool.not_eq_false', Bool.not_eq_eq_eq_not, Bool.not_true, Bool.not_false, ne_eq, Decidable.not_not, Int.not_lt, Int.not_le, gt_iff_lt, ge_iff_le] at g1_6
    refine L_no rfl rfl rfl rfl ?_
    refine L_no rfl rfl rfl rfl ?_
    refine L_no rfl rfl rfl rfl ?_
    first | refine L_s (q_pickT rfl rfl) rfl ?_ | refine L_s (q_pickF rfl rfl) rfl ?_
    first | exact WPL.jn rfl rfl (by repeat (first | exact trivial | refine ⟨rfl, ?_⟩)) | exact WPL.jnI rfl rfl (by repeat (first | exact trivial | refine ⟨rfl, ?_⟩)) (Imp.pick (by repeat (first | exact Pick.nil | apply Pick.keep (by repeat (first | exact List.Mem.head _ | apply List.Mem.tail)) (by first | exact Pers.cells _ _ _ | exact Pers.slv _ _ _) | apply Pick.cons (by repeat (first | exact Pick1.here | apply Pick1.there)))))
  · intro g1_6
    try simp only [decide_eq_true_eq, decide_eq_false_iff_not, beq_iff_eq, bne_iff_ne, beq_eq_false_iff_ne, bne_eq_false_iff_eq, Bool.not_eq_true', Bool.not_eq_false', Bool.not_eq_eq_eq_not, Bool.not_true, Bool.not_false, ne_eq, Decidable.not_not, Int.not_lt, Int.not_le, gt_iff_lt, ge_iff_le] at g1_6
    refine L_yes rfl rfl (q_move rfl) rfl ?_
    refine L_yes rfl rfl (q_len rfl un_sl_sl_uint64 rfl) rfl ?_
    refine L_yes rfl rfl (q_int rfl rfl rfl) rfl ?_
    first | refine L_s (q_pickT rfl rfl) rfl ?_ | refine L_s (q_pickF rfl rfl) rfl ?_
    first | exact WPL.jn rfl rfl (by repeat (first | exact trivial | refine ⟨rfl, ?_⟩)) | exact WPL.jnI rfl rfl (by repeat (first | exact trivial | refine ⟨rfl, ?_⟩)) (Imp.pick (by repeat (first | exact Pick.nil | apply Pick.keep (by repeat (first | exact List.Mem.head _ | apply List.Mem.tail)) (by first | exact Pers.cells _ _ _ | exact Pers.slv _ _ _) | apply Pick.cons (by repeat (first | exact Pick1.here | apply Pick1.there)))))
  refine WPL.nil ?_
  refine WPC.cond rfl (fun h0 => ?_) (fun h0 => ?_)
  · try simp only [decide_eq_true_eq, decide_eq_false_iff_not, beq_iff_eq, bne_iff_ne, beq_eq_false_iff_ne, bne_eq_false_iff_eq, Bool.not_eq_true', Bool.not_eq_false', Bool.not_eq_eq_eq_not, Bool.not_true, Bool.not_false, ne_eq, Decidable.not_not, Int.not_lt, Int.not_le, gt_iff_lt, ge_iff_le] at h0
    exact absurd h0 (by decide)
  · try simp only [decide_eq_true_eq, decide_eq_false_iff_not, beq_iff_eq, bne_iff_ne, beq_eq_false_iff_ne, bne_eq_false_iff_eq, Bool.not_eq_true', Bool.not_eq_false', Bool.not_eq_eq_eq_not, Bool.not_true, Bool.not_false, ne_eq, Decidable.not_not, Int.not_lt, Int.not_le, gt_iff_lt, ge_iff_le] at h0
    refine WPC.skip ?_
    refine thenQ_n ?_
    refine WPC.seqR ?_
    refine L_s (q_assign rfl) rfl ?_
    refine WPL.nil ?_
    refine WPC.imp (Imp.bufNil (sz := 1)) ?_
    refine WPC.seq ?_
    refine WPC.seqR ?_
    refine L_s (q_assign rfl) rfl ?_
    refine WPL.nil ?_
    refine WPC.block ?_
    refine WPC.loopS (fun m e Γ => ∃ (k : Nat) (a : Option Addr) (c : Nat), m = 3 - k ∧ k ≤ 3 ∧ e = [(0, .int .i64 3), (1, .slice none 0 0), (5, .slice a k c), (6, .int .i64 (k : Int))] ∧ Γ = [buf 1 a k c ((upTo k).map (.int .i64))]) (3) ⟨0, none, 0, rfl, by omega, rfl, rfl⟩ (by repeat (first | exact trivial | refine ⟨rfl, ?_⟩)) (Imp.pick (by repeat (first | exact Pick.nil | apply Pick.keep (by repeat (first | exact List.Mem.head _ | apply List.Mem.tail)) (by first | exact Pers.cells _ _ _ | exact Pers.slv _ _ _) | apply Pick.cons (by repeat (first | exact Pick1.here | apply Pick1.there))))) ?_
    rintro m e Γ ⟨k, a, c, rfl, hk, rfl, rfl⟩
    refine WPC.seq ?_
    refine WPC.seqR ?_
    refine L_s (q_move rfl) rfl ?_
    refine L_s (q_move rfl) rfl ?_
    refine L_s (q_int rfl rfl rfl) rfl ?_
    refine WPL.nil ?_
    refine WPC.cond rfl (fun h1 => ?_) (fun h1 => ?_)
    · simp only [decide_eq_true_eq] at h1
      refine WPC.skip ?_
      refine thenQ_n ?_
      refine WPC.seq ?_
      refine WPC.block ?_
      refine WPC.region ?_
      refine L_s (q_move rfl) rfl ?_
      refine L_s (q_move rfl) rfl ?_
      refine WPL.cons rfl (E1.wpo (e_buildSlice mk_sl_int (by decide) rfl rfl rfl) rfl ?_)
      rintro _ _ ⟨bi, rfl, rfl⟩
      refine WPL.putS ?_
      refine WPL.cons rfl (E1.wpo (e_append (n := k) (m := 1) (cs := (upTo k).map (.int .i64)) (news := [.int .i64 (k : Int)]) mk_sl_int (by decide) rfl rfl (by repeat (first | exact Pick1.here | apply Pick1.there)) (Rd.part (i := 0) (b := bi) (o := 0) (vs := [.int .i64 (k : Int)]) (by repeat (first | exact List.Mem.head _ | apply List.Mem.tail)) rfl rfl rfl) (by simp [Value.oneCell']) (by omega) (by omega)) rfl ?_)
      rintro _ _ ⟨a3, c3, rfl, -, rfl⟩
      refine WPL.putS ?_
      refine L_s (q_assign rfl) rfl ?_
      refine WPL.nil ?_
      refine blockQ_n ?_
      refine thenQ_n ?_
      refine WPC.region ?_
      refine L_s (q_move rfl) rfl ?_
      first | refine L_s (q_inc rfl rfl (by omega)) rfl ?_ | refine L_s (q_addI rfl rfl (by omega)) rfl ?_ | refine L_s (q_int rfl rfl rfl) rfl ?_
      refine L_s (q_assign rfl) rfl ?_
      refine WPL.nil ?_
      refine thenQ_n ?_
      exact ⟨rfl, _, _, _, by omega, ⟨k + 1, a3, c3, rfl, by omega, rfl, by rw [upTo_succ, List.map_append]⟩, (by repeat (first | exact trivial | refine ⟨rfl, ?_⟩)), Imp.pick (by repeat (first | exact Pick.nil | apply Pick.keep (by repeat (first | exact List.Mem.head _ | apply List.Mem.tail)) (by first | exact Pers.cells _ _ _ | exact Pers.slv _ _ _) | apply Pick.cons (by repeat (first | exact Pick1.here | apply Pick1.there))))⟩
    · simp only [decide_eq_false_iff_not] at h1
      obtain rfl : k = 3 := by omega
      refine WPC.exit ?_
      refine thenQ_e ?_
      refine thenQ_e ?_
      refine blockQ_here ?_
      refine thenQ_n ?_
      refine WPC.seqR ?_
      refine WPL.bufRo fun hcf => ?_
      refine L_s (q_build (cs := [_, _, _, _]) pl_pursuivantlaw11_group rfl rfl) rfl ?_
      first | refine WPL.cons rfl (E1.wpo (e_boxN rfl) rfl ?_) | refine WPL.cons rfl (E1.wpo (e_box1 rfl rfl) rfl ?_)
      rintro _ _ ⟨g, rfl, rfl⟩
      refine WPL.putS ?_
      refine L_s (q_assign rfl) rfl ?_
      refine WPL.nil ?_
      refine WPC.seq ?_
      refine WPC.seqR ?_
      refine L_s (q_assign rfl) rfl ?_
      refine WPL.nil ?_
      refine WPC.imp (Imp.bufNil (sz := 1)) ?_
      refine WPC.imp enodes_nil ?_
      refine WPC.block ?_
      refine WPC.loopS (fun m e Γ => ∃ (k : Nat) (a2 : Option Addr) (c2 : Nat) (ns : List (Nat × EN)), m = 3 - k ∧ k ≤ 3 ∧ ns.map (·.2) = (List.range k).map (fun j : Nat => EN.new (j : Int) (upTo 3)) ∧ e = [(0, .int .i64 3), (1, .slice none 0 0), (5, .slice a 3 c), (7, .pointer (some ⟨g, 0, none⟩)), (8, .int .i64 (k : Int))] ∧ Γ = [cells true g 0 (groupC (⟨a2, k, c2, none, 0, 0, none, 0, 0, none, 0, 0⟩ : GL)), buf 1 a2 k c2 (ns.map ptrE), enodes ns, sl false a ((upTo 3).map (.int .i64))]) (3) ⟨0, none, 0, [], rfl, by omega, rfl, rfl, rfl⟩ (by repeat (first | exact trivial | refine ⟨rfl, ?_⟩)) (Imp.pick (by repeat (first | exact Pick.nil | apply Pick.keep (by repeat (first | exact List.Mem.head _ | apply List.Mem.tail)) (by first | exact Pers.cells _ _ _ | exact Pers.slv _ _ _) | apply Pick.cons (by repeat (first | exact Pick1.here | apply Pick1.there))))) ?_
      clear hk h1
      rintro m e Γ ⟨k, a2, c2, ns, rfl, hk, hns, rfl, rfl⟩
      refine WPC.seq ?_
      refine WPC.seqR ?_
      refine L_s (q_move rfl) rfl ?_
      refine L_s (q_move rfl) rfl ?_
      refine L_s (q_int rfl rfl rfl) rfl ?_
      refine WPL.nil ?_
      refine WPC.cond rfl (fun h2 => ?_) (fun h2 => ?_)
      · simp only [decide_eq_true_eq] at h2
        refine WPC.skip ?_
        refine thenQ_n ?_
        refine WPC.seq ?_
        refine WPC.block ?_
        refine WPC.seqR ?_
        refine L_s (q_move rfl) rfl ?_
        refine L_s (q_move rfl) rfl ?_
        refine WPL.cons rfl (C1.call (c_call Try.func13 rfl rfl rfl) (c_New hcf (by omega) (k : Int)) (by repeat (first | exact Pick.nil | apply Pick.keep (by repeat (first | exact List.Mem.head _ | apply List.Mem.tail)) (by first | exact Pers.cells _ _ _ | exact Pers.slv _ _ _) | apply Pick.cons (by repeat (first | exact Pick1.here | apply Pick1.there)))) rfl ?_)
        rintro _ _ ⟨bx, rfl, rfl⟩
        refine WPL.putS ?_
        refine L_s (q_assign rfl) rfl ?_
        refine WPL.nil ?_
        refine WPC.seq ?_
        refine WPC.seqR ?_
        refine L_s (q_move rfl) rfl ?_
        first | refine L_s (q_ptNilEq un_ptr_elect_Node rfl rfl) rfl ?_ | refine L_s (q_ptNoneEq un_ptr_elect_Node rfl rfl) rfl ?_
        refine WPL.nil ?_
        refine WPC.cond rfl (fun h3 => ?_) (fun h3 => ?_)
        · try simp only [decide_eq_true_eq, decide_eq_false_iff_not, beq_iff_eq, bne_iff_ne, beq_eq_false_iff_ne, bne_eq_false_iff_eq, Bool.not_eq_true', Bool.not_eq_false', Bool.not_eq_eq_eq_not, Bool.not_true, Bool.not_false, ne_eq, Decidable.not_not, Int.not_lt, Int.not_le, gt_iff_lt, ge_iff_le] at h3
          exact absurd h3 (by simp)
        · try simp only [decide_eq_true_eq, decide_eq_false_iff_not, beq_iff_eq, bne_iff_ne, beq_eq_false_iff_ne, bne_eq_false_iff_eq, Bool.not_eq_true', Bool.not_eq_false', Bool.not_eq_eq_eq_not, Bool.not_true, Bool.not_false, ne_eq, Decidable.not_not, Int.not_lt, Int.not_le, gt_iff_lt, ge_iff_le] at h3
          refine WPC.skip ?_
          refine thenQ_n ?_
          refine WPC.seq ?_
          refine WPC.seqR ?_
          refine L_s (q_move rfl) rfl ?_
          refine L_s (q_move rfl) rfl ?_
          refine L_s (q_len rfl un_sl_sl_uint64 rfl) rfl ?_
          refine L_s (q_int rfl rfl rfl) rfl ?_
          refine WPL.nil ?_
          refine WPC.cond rfl (fun h4 => ?_) (fun h4 => ?_)
          · try simp only [decide_eq_true_eq, decide_eq_false_iff_not, beq_iff_eq, bne_iff_ne, beq_eq_false_iff_ne, bne_eq_false_iff_eq, Bool.not_eq_true', Bool.not_eq_false', Bool.not_eq_eq_eq_not, Bool.not_true, Bool.not_false, ne_eq, Decidable.not_not, Int.not_lt, Int.not_le, gt_iff_lt, ge_iff_le] at h4
            omega
          · try simp only [decide_eq_true_eq, decide_eq_false_iff_not, beq_iff_eq, bne_iff_ne, beq_eq_false_iff_ne, bne_eq_false_iff_eq, Bool.not_eq_true', Bool.not_eq_false', Bool.not_eq_eq_eq_not, Bool.not_true, Bool.not_false, ne_eq, Decidable.not_not, Int.not_lt, Int.not_le, gt_iff_lt, ge_iff_le] at h4
            refine WPC.skip ?_
            refine thenQ_n ?_
            refine WPC.region ?_
            refine L_s (q_move rfl) rfl ?_
            refine L_s (q_move rfl) rfl ?_
            first | refine L_s (q_nilP rfl) rfl ?_ | refine L_s (q_nilF rfl) rfl ?_
            first | refine L_s (q_faK fa_pursuivantlaw11_group_nodes rfl) rfl ?_ | refine L_s (q_fa fa_pursuivantlaw11_group_nodes rfl) rfl ?_
            first | refine L_s (q_load1z ld_sl_ptr_elect_Node rfl (by repeat (first | exact List.Mem.head _ | apply List.Mem.tail)) (by rfl)) rfl ?_ | refine L_s (q_load1 ld_sl_ptr_elect_Node rfl (by repeat (first | exact List.Mem.head _ | apply List.Mem.tail)) rfl (by rfl)) rfl ?_
            refine L_s (q_move rfl) rfl ?_
            refine WPL.cons rfl (E1.wpo (e_buildSlice mk_sl_ptr_elect_Node (by decide) rfl rfl rfl) rfl ?_)
            rintro _ _ ⟨bp, rfl, rfl⟩
            refine WPL.putS ?_
            refine WPL.cons rfl (E1.wpo (e_append (n := k) (m := 1) (cs := ns.map ptrE) (news := [.pointer (some ⟨bx, 0, none⟩)]) mk_sl_ptr_elect_Node (by decide) rfl rfl (by repeat (first | exact Pick1.here | apply Pick1.there)) (Rd.part (i := 0) (b := bp) (o := 0) (vs := [.pointer (some ⟨bx, 0, none⟩)]) (by repeat (first | exact List.Mem.head _ | apply List.Mem.tail)) rfl rfl rfl) (by simp [Value.oneCell']) (by omega) (by omega)) rfl ?_)
            rintro _ _ ⟨a3, c3, rfl, -, rfl⟩
            refine WPL.putS ?_
            first | refine L_s (q_nilP rfl) rfl ?_ | refine L_s (q_nilF rfl) rfl ?_
            first | refine L_s (q_faK fa_pursuivantlaw11_group_nodes rfl) rfl ?_ | refine L_s (q_fa fa_pursuivantlaw11_group_nodes rfl) rfl ?_
            refine WPL.cons rfl (S1.wpo (s_store1z sz_sl_ptr_elect_Node rfl rfl rfl rfl (by repeat (first | exact Upd.here | apply Upd.there)) (by repeat constructor)) rfl ?_)
            refine WPL.putN ?_
            refine WPL.imp ((Imp.pick (Δ := [enode bx 0 (EN.new (k : Int) (upTo 3)), enodes ns, cells true g 0 (groupC ⟨a3, k + 1, c3, none, 0, 0, none, 0, 0, none, 0, 0⟩), buf 1 a3 (k + 1) c3 (ns.map ptrE ++ [.pointer (some ⟨bx, 0, none⟩)]), sl false a ((upTo 3).map (.int .i64))]) (by repeat (first | exact Pick.nil | apply Pick.keep (by repeat (first | exact List.Mem.head _ | apply List.Mem.tail)) (by first | exact Pers.cells _ _ _ | exact Pers.slv _ _ _) | apply Pick.cons (by repeat (first | exact Pick1.here | apply Pick1.there))))).trans enodes_snoc) ?_
            refine WPL.nil ?_
            refine blockQ_n ?_
            refine thenQ_n ?_
            refine WPC.region ?_
            refine L_s (q_move rfl) rfl ?_
            first | refine L_s (q_inc rfl rfl (by omega)) rfl ?_ | refine L_s (q_addI rfl rfl (by omega)) rfl ?_ | refine L_s (q_int rfl rfl rfl) rfl ?_
            refine L_s (q_assign rfl) rfl ?_
            refine WPL.nil ?_
            refine thenQ_n ?_
            exact ⟨rfl, _, _, _, by omega, ⟨k + 1, a3, c3, ns ++ [(bx, EN.new (k : Int) (upTo 3))], rfl, by omega, by rw [List.map_append, hns, List.range_succ, List.map_append]; rfl, rfl, by rw [List.map_append]⟩, (by repeat (first | exact trivial | refine ⟨rfl, ?_⟩)), Imp.pick (by repeat (first | exact Pick.nil | apply Pick.keep (by repeat (first | exact List.Mem.head _ | apply List.Mem.tail)) (by first | exact Pers.cells _ _ _ | exact Pers.slv _ _ _) | apply Pick.cons (by repeat (first | exact Pick1.here | apply Pick1.there))))⟩
      · simp only [decide_eq_false_iff_not] at h2
        obtain rfl : k = 3 := by omega
        refine WPC.imp (Imp.pick (Δ := [buf 1 a2 3 c2 (ns.map ptrE), cells true g 0 (groupC ⟨a2, 3, c2, none, 0, 0, none, 0, 0, none, 0, 0⟩), enodes ns]) (by repeat (first | exact Pick.nil | apply Pick.keep (by repeat (first | exact List.Mem.head _ | apply List.Mem.tail)) (by first | exact Pers.cells _ _ _ | exact Pers.slv _ _ _) | apply Pick.cons (by repeat (first | exact Pick1.here | apply Pick1.there))))) ?_
        refine WPC.bufRo fun hnn => ?_
        refine WPC.exit ?_
        refine thenQ_e ?_
        refine thenQ_e ?_
        refine blockQ_here ?_
        refine thenQ_n ?_
        refine WPC.seqR ?_
        refine L_s (q_move rfl) rfl ?_
        refine L_s (q_assign rfl) rfl ?_
        refine WPL.nil ?_
        refine WPC.ret ?_
        exact endR_r rfl (.tmp rfl .nil) ((Imp.bufNil (sz := 10)).trans ((Imp.bufNil (sz := 1)).trans ((Imp.bufNil (sz := 1)).trans ((Imp.pick (by repeat (first | exact Pick.nil | apply Pick.keep (by repeat (first | exact List.Mem.head _ | apply List.Mem.tail)) (by first | exact Pers.cells _ _ _ | exact Pers.slv _ _ _) | apply Pick.cons (by repeat (first | exact Pick1.here | apply Pick1.there))))).trans (egroup_close (G := ⟨ns, [], [], []⟩) ⟨a2, 3, c2, none, 0, 0, none, 0, 0, none, 0, 0⟩ hnn (Γ := [])))))) ⟨g, ns, rfl, hns, rfl⟩

theorem c_play1 {g k b : Nat} {G : GR} {x y : EN} {out : List RM} (hk : G.ns[k]? = some (b, x)) (hx : x.fits) (ht : x.term + 1 < 2305843009213693952) (ho : x.askP = (y, out)) (hol : out.length < 1048576) (hbn : G.ns.length < 1048576 ∧ G.msgs.length < 1048576 ∧ G.terms.length < 1048576 ∧ G.leads.length < 1048576) : Trip Try.prog 22 #[.pointer (some ⟨g, 0, none⟩), .agg #[.int .i64 1, .int .i64 (k : Int)]] [egroup g G] fun r Δ => r = .tuple #[] ∧ Δ = [egroup g (G.fin k b y out)] := by
  refine egroup_open fun L k1 k2 k3 k4 => ?_
  have hnl : G.ns.length = L.nn := by have := k1.len; simpa using this
  have hml : G.msgs.length = L.mn := by have := k2.len; rw [flat_length encM_len] at this; omega
  have htl : G.terms.length = L.tn := by have := k3.len; simpa using this
  have hll : G.leads.length = L.ln := by have := k4.len; simpa using this
  have hkn : k < L.nn := by rw [← hnl]; exact (List.getElem?_eq_some_iff.1 hk).1
  have hpn : Pl L.na := k1.at (by omega) (by omega)
  refine Trip.start 129 [] [(0, .pointer (some ⟨g, 0, none⟩)), (1, .agg #[.int .i64 1, .int .i64 (k : Int)])] Try.func22 rfl Try.ntmps22 rfl ⟨rfl, rfl, trivial⟩ rfl ?_
  refine WPC.seqR ?_
  first | refine WPL.cons rfl (E1.wpo (e_boxN rfl) rfl ?_) | refine WPL.cons rfl (E1.wpo (e_box1 rfl rfl) rfl ?_)
  rintro _ _ ⟨b1, rfl, rfl⟩
  refine WPL.putS ?_
  refine WPL.nil ?_
  refine WPC.seqR ?_
  refine L_s (q_move rfl) rfl ?_
  first | refine L_s (q_nilP rfl) rfl ?_ | refine L_s (q_nilF rfl) rfl ?_
  first | refine L_s (q_faK fa_pursuivantlaw11_group_nodes rfl) rfl ?_ | refine L_s (q_fa fa_pursuivantlaw11_group_nodes rfl) rfl ?_
  first | refine L_s (q_load1z ld_sl_ptr_elect_Node rfl (by repeat (first | exact List.Mem.head _ | apply List.Mem.tail)) (by rfl)) rfl ?_ | refine L_s (q_load1 ld_sl_ptr_elect_Node rfl (by repeat (first | exact List.Mem.head _ | apply List.Mem.tail)) rfl (by rfl)) rfl ?_
  refine L_s (q_len rfl un_sl_ptr_elect_Node rfl) rfl ?_
  refine L_s (q_assign rfl) rfl ?_
  skip
  refine WPL.nil ?_
  refine WPC.seqR ?_
  first | refine L_s (q_faK fa_pursuivantlaw11_Op_K rfl) rfl ?_ | refine L_s (q_fa fa_pursuivantlaw11_Op_K rfl) rfl ?_
  first | refine L_s (q_load1z ld_int rfl (by repeat (first | exact List.Mem.head _ | apply List.Mem.tail)) (by rfl)) rfl ?_ | refine L_s (q_load1 ld_int rfl (by repeat (first | exact List.Mem.head _ | apply List.Mem.tail)) rfl (by rfl)) rfl ?_
  refine L_s (q_assign rfl) rfl ?_
  refine WPL.nil ?_
  refine WPC.seqR ?_
  refine L_s (q_assign rfl) rfl ?_
  refine WPL.nil ?_
  refine WPC.seq ?_
  refine WPC.seqR ?_
  first | refine L_s (q_faK fa_pursuivantlaw11_Op_Do rfl) rfl ?_ | refine L_s (q_fa fa_pursuivantlaw11_Op_Do rfl) rfl ?_
  first | refine L_s (q_load1z ld_int rfl (by repeat (first | exact List.Mem.head _ | apply List.Mem.tail)) (by rfl)) rfl ?_ | refine L_s (q_load1 ld_int rfl (by repeat (first | exact List.Mem.head _ | apply List.Mem.tail)) rfl (by rfl)) rfl ?_
  refine L_s (q_int rfl rfl rfl) rfl ?_
  refine WPL.nil ?_
  refine WPC.cond rfl (fun h0 => ?_) (fun h0 => ?_)
  · try simp only [decide_eq_true_eq, decide_eq_false_iff_not, beq_iff_eq, bne_iff_ne, beq_eq_false_iff_ne, bne_eq_false_iff_eq, Bool.not_eq_true', Bool.not_eq_false', Bool.not_eq_eq_eq_not, Bool.not_true, Bool.not_false, ne_eq, Decidable.not_not, Int.not_lt, Int.not_le, gt_iff_lt, ge_iff_le] at h0
    exact absurd h0 (by decide)
  · try simp only [decide_eq_true_eq, decide_eq_false_iff_not, beq_iff_eq, bne_iff_ne, beq_eq_false_iff_ne, bne_eq_false_iff_eq, Bool.not_eq_true', Bool.not_eq_false', Bool.not_eq_eq_eq_not, Bool.not_true, Bool.not_false, ne_eq, Decidable.not_not, Int.not_lt, Int.not_le, gt_iff_lt, ge_iff_le] at h0
    refine WPC.skip ?_
    refine thenQ_n ?_
    refine WPC.seq ?_
    refine WPC.seqR ?_
    refine L_s (q_move rfl) rfl ?_
    refine L_s (q_int rfl rfl rfl) rfl ?_
    refine L_s (q_move rfl) rfl ?_
    apply WPL.joinO (e' := [(0, _), (3, _), (5, _), (6, _)]) 43 47 4 rfl
    · intro g7_2
      try simp only [decide_eq_true_eq, decide_eq_false_iff_not, beq_iff_eq, bne_iff_ne, beq_eq_false_iff_ne, bne_eq_false_iff_eq, Bool.not_eq_true', Bool.not_eq_false', Bool.not_eq_eq_eq_not, Bool.not_true, Bool.not_false, ne_eq, Decidable.not_not, Int.not_lt, Int.not_le, gt_iff_lt, ge_iff_le] at g7_2
      refine L_no rfl rfl rfl rfl ?_
      refine L_no rfl rfl rfl rfl ?_
      refine L_no rfl rfl rfl rfl ?_
      first | refine L_s (q_pickT rfl rfl) rfl ?_ | refine L_s (q_pickF rfl rfl) rfl ?_
      first | exact WPL.jn rfl rfl (by repeat (first | exact trivial | refine ⟨rfl, ?_⟩)) | exact WPL.jnI rfl rfl (by repeat (first | exact trivial | refine ⟨rfl, ?_⟩)) (Imp.pick (by repeat (first | exact Pick.nil | apply Pick.keep (by repeat (first | exact List.Mem.head _ | apply List.Mem.tail)) (by first | exact Pers.cells _ _ _ | exact Pers.slv _ _ _) | apply Pick.cons (by repeat (first | exact Pick1.here | apply Pick1.there)))))
    · intro g7_2
      try simp only [decide_eq_true_eq, decide_eq_false_iff_not, beq_iff_eq, bne_iff_ne, beq_eq_false_iff_ne, bne_eq_false_iff_eq, Bool.not_eq_true', Bool.not_eq_false', Bool.not_eq_eq_eq_not, Bool.not_true, Bool.not_false, ne_eq, Decidable.not_not, Int.not_lt, Int.not_le, gt_iff_lt, ge_iff_le] at g7_2
      refine L_yes rfl rfl (q_move rfl) rfl ?_
      refine L_yes rfl rfl (q_move rfl) rfl ?_
      refine L_yes rfl rfl (q_int rfl rfl rfl) rfl ?_
      first | refine L_s (q_pickT rfl rfl) rfl ?_ | refine L_s (q_pickF rfl rfl) rfl ?_
      first | exact WPL.jn rfl rfl (by repeat (first | exact trivial | refine ⟨rfl, ?_⟩)) | exact WPL.jnI rfl rfl (by repeat (first | exact trivial | refine ⟨rfl, ?_⟩)) (Imp.pick (by repeat (first | exact Pick.nil | apply Pick.keep (by repeat (first | exact List.Mem.head _ | apply List.Mem.tail)) (by first | exact Pers.cells _ _ _ | exact Pers.slv _ _ _) | apply Pick.cons (by repeat (first | exact Pick1.here | apply Pick1.there)))))
    refine WPL.nil ?_
    refine WPC.cond rfl (fun h2 => ?_) (fun h2 => ?_)
    · try simp only [decide_eq_true_eq, decide_eq_false_iff_not, beq_iff_eq, bne_iff_ne, beq_eq_false_iff_ne, bne_eq_false_iff_eq, Bool.not_eq_true', Bool.not_eq_false', Bool.not_eq_eq_eq_not, Bool.not_true, Bool.not_false, ne_eq, Decidable.not_not, Int.not_lt, Int.not_le, gt_iff_lt, ge_iff_le] at h2
      simp only [Bool.or_eq_true, decide_eq_true_eq] at h2
      omega
    · try simp only [decide_eq_true_eq, decide_eq_false_iff_not, beq_iff_eq, bne_iff_ne, beq_eq_false_iff_ne, bne_eq_false_iff_eq, Bool.not_eq_true', Bool.not_eq_false', Bool.not_eq_eq_eq_not, Bool.not_true, Bool.not_false, ne_eq, Decidable.not_not, Int.not_lt, Int.not_le, gt_iff_lt, ge_iff_le] at h2
      refine WPC.skip ?_
      refine thenQ_n ?_
      refine WPC.seqR ?_
      refine L_s (q_move rfl) rfl ?_
      first | refine L_s (q_nilP rfl) rfl ?_ | refine L_s (q_nilF rfl) rfl ?_
      first | refine L_s (q_faK fa_pursuivantlaw11_group_nodes rfl) rfl ?_ | refine L_s (q_fa fa_pursuivantlaw11_group_nodes rfl) rfl ?_
      first | refine L_s (q_load1z ld_sl_ptr_elect_Node rfl (by repeat (first | exact List.Mem.head _ | apply List.Mem.tail)) (by rfl)) rfl ?_ | refine L_s (q_load1 ld_sl_ptr_elect_Node rfl (by repeat (first | exact List.Mem.head _ | apply List.Mem.tail)) rfl (by rfl)) rfl ?_
      refine L_s (q_move rfl) rfl ?_
      first | refine L_s (q_idxN sl_sl_ptr_elect_Node rfl rfl (by omega) (by assumption)) rfl ?_ | refine L_s (q_idx sl_sl_ptr_elect_Node rfl rfl (by omega) (by omega) (by assumption)) rfl ?_
      refine L_s (show Q1 _ _ _ _ (.pointer (some ⟨b, 0, none⟩)) from q_ldMap (f := ptrE) (e := (b, x)) ld_ptr_elect_Node rfl (by repeat (first | exact List.Mem.head _ | apply List.Mem.tail)) hk) rfl ?_
      refine L_s (q_assign rfl) rfl ?_
      refine WPL.nil ?_
      refine WPC.seq ?_
      refine WPC.seqR ?_
      first | refine L_s (q_faK fa_pursuivantlaw11_Op_Do rfl) rfl ?_ | refine L_s (q_fa fa_pursuivantlaw11_Op_Do rfl) rfl ?_
      first | refine L_s (q_load1z ld_int rfl (by repeat (first | exact List.Mem.head _ | apply List.Mem.tail)) (by rfl)) rfl ?_ | refine L_s (q_load1 ld_int rfl (by repeat (first | exact List.Mem.head _ | apply List.Mem.tail)) rfl (by rfl)) rfl ?_
      refine WPL.nil ?_
      refine WPC.block ?_
      refine WPC.seqR ?_
      refine L_s (q_int rfl rfl rfl) rfl ?_
      refine L_s (q_assign rfl) rfl ?_
      refine WPL.nil ?_
      refine WPC.cond rfl (fun h3 => ?_) (fun h3 => ?_)
      · try simp only [decide_eq_true_eq, decide_eq_false_iff_not, beq_iff_eq, bne_iff_ne, beq_eq_false_iff_ne, bne_eq_false_iff_eq, Bool.not_eq_true', Bool.not_eq_false', Bool.not_eq_eq_eq_not, Bool.not_true, Bool.not_false, ne_eq, Decidable.not_not, Int.not_lt, Int.not_le, gt_iff_lt, ge_iff_le] at h3
        refine WPC.region ?_
        refine L_s (q_move rfl) rfl ?_
        refine WPL.imp ((Imp.pick (Δ := enodes G.ns :: cells true g 0 (groupC L) :: sl false L.na (G.ns.map ptrE) :: buf 1 L.ta L.tn L.tc (G.terms.map (.int .u64)) :: buf 1 L.la L.ln L.lc (G.leads.map (.int .i64)) :: cells true b1 0 [.int .i64 1, .int .i64 (k : Int)] :: buf 10 L.ma L.mn L.mc (G.msgs.flatMap encM) :: []) (by repeat (first | exact Pick.nil | apply Pick.keep (by repeat (first | exact List.Mem.head _ | apply List.Mem.tail)) (by first | exact Pers.cells _ _ _ | exact Pers.slv _ _ _) | apply Pick.cons (by repeat (first | exact Pick1.here | apply Pick1.there))))).trans (enodes_take hk)) ?_
        refine WPL.cons rfl (C1.call (c_call Try.func8 rfl rfl rfl) (by have := c_AskP (b := b) (o := 0) hx ht; rw [ho] at this; exact this) (by repeat (first | exact Pick.nil | apply Pick.keep (by repeat (first | exact List.Mem.head _ | apply List.Mem.tail)) (by first | exact Pers.cells _ _ _ | exact Pers.slv _ _ _) | apply Pick.cons (by repeat (first | exact Pick1.here | apply Pick1.there)))) rfl ?_)
        rintro _ _ ⟨oa, oc, rfl, rfl⟩
        refine WPL.putS ?_
        refine WPL.exg (L := fun N => enodeL b 0 y N) fun N => WPL.pure fun hN => WPL.bufFact (a := oa) (m := out.length) (k := oc) (sz := 10) (cs := out.flatMap encM) (.tail _ (.tail _ (.tail _ (.tail _ (.tail _ (.tail _ (.head _))))))) fun hout => ?_
        refine L_s (q_assign rfl) rfl ?_
        refine WPL.nil ?_
        refine blockQ_n ?_
        refine thenQ_n ?_
        refine WPC.seqR ?_
        refine L_s (q_move rfl) rfl ?_
        refine L_s (q_move rfl) rfl ?_
        first | refine L_s (q_nilP rfl) rfl ?_ | refine L_s (q_nilF rfl) rfl ?_
        first | refine L_s (q_faK fa_pursuivantlaw11_group_msgs rfl) rfl ?_ | refine L_s (q_fa fa_pursuivantlaw11_group_msgs rfl) rfl ?_
        first | refine L_s (q_load1z ld_sl_api_Msg rfl (by repeat (first | exact List.Mem.head _ | apply List.Mem.tail)) (by rfl)) rfl ?_ | refine L_s (q_load1 ld_sl_api_Msg rfl (by repeat (first | exact List.Mem.head _ | apply List.Mem.tail)) rfl (by rfl)) rfl ?_
        refine L_s (q_move rfl) rfl ?_
        refine WPL.cons rfl (E1.wpo (e_append (n := L.mn) (m := out.length) (cs := G.msgs.flatMap encM) (news := out.flatMap encM) mk_sl_api_Msg (by decide) rfl rfl (by repeat (first | exact Pick1.here | apply Pick1.there)) (Rd.ofBuf (by decide) hout (by repeat (first | exact List.Mem.head _ | apply List.Mem.tail))) (encM_one out) (by omega) (by omega)) rfl ?_)
        rintro _ _ ⟨ma2, mc2, rfl, -, rfl⟩
        refine WPL.putS ?_
        first | refine L_s (q_nilP rfl) rfl ?_ | refine L_s (q_nilF rfl) rfl ?_
        first | refine L_s (q_faK fa_pursuivantlaw11_group_msgs rfl) rfl ?_ | refine L_s (q_fa fa_pursuivantlaw11_group_msgs rfl) rfl ?_
        refine WPL.cons rfl (S1.wpo (s_store1k sz_sl_api_Msg rfl rfl rfl rfl (by repeat (first | exact Upd.here | apply Upd.there)) (by repeat constructor)) rfl ?_)
        refine WPL.putN ?_
        refine WPL.nil ?_
        refine WPC.prune [(0, _), (5, _), (7, _)] (by repeat (first | exact trivial | refine ⟨rfl, ?_⟩)) ?_
        refine WPC.seqR ?_
        refine L_s (q_move rfl) rfl ?_
        first | refine L_s (q_nilP rfl) rfl ?_ | refine L_s (q_nilF rfl) rfl ?_
        first | refine L_s (q_faK fa_elect_Node_Role rfl) rfl ?_ | refine L_s (q_fa fa_elect_Node_Role rfl) rfl ?_
        first | refine L_s (q_load1z ld_int rfl (by repeat (first | exact List.Mem.head _ | apply List.Mem.tail)) (by rfl)) rfl ?_ | refine L_s (q_load1 ld_int rfl (by repeat (first | exact List.Mem.head _ | apply List.Mem.tail)) rfl (by rfl)) rfl ?_
        refine L_s (q_int rfl rfl rfl) rfl ?_
        refine WPL.nil ?_
        refine WPC.cond rfl (fun h8 => ?_) (fun h8 => ?_)
        · try simp only [decide_eq_true_eq, decide_eq_false_iff_not, beq_iff_eq, bne_iff_ne, beq_eq_false_iff_ne, bne_eq_false_iff_eq, Bool.not_eq_true', Bool.not_eq_false', Bool.not_eq_eq_eq_not, Bool.not_true, Bool.not_false, ne_eq, Decidable.not_not, Int.not_lt, Int.not_le, gt_iff_lt, ge_iff_le] at h8
          refine WPC.seqD mixed ?_
          refine WPA.takeP 0 rfl (q_move rfl) (by kernel_rfl) (by kernel_rfl) (by kernel_rfl) rfl rfl (.nil _) ?_
          refine WPA.putS ?_
          refine WPA.takeP 1 rfl (q_move rfl) (by kernel_rfl) (by kernel_rfl) (by kernel_rfl) rfl rfl (.nil _) ?_
          refine WPA.putS ?_
          first | refine WPA.takeP 2 rfl (q_nilP rfl) (by kernel_rfl) (by kernel_rfl) (by kernel_rfl) rfl rfl (.nil _) ?_ | refine WPA.takeP 2 rfl (q_nilF rfl) (by kernel_rfl) (by kernel_rfl) (by kernel_rfl) rfl rfl (.nil _) ?_
          refine WPA.putS ?_
          first | refine WPA.takeP 3 rfl (q_faK fa_pursuivantlaw11_group_terms rfl) (by kernel_rfl) (by kernel_rfl) (by kernel_rfl) rfl rfl (.nil _) ?_ | refine WPA.takeP 3 rfl (q_fa fa_pursuivantlaw11_group_terms rfl) (by kernel_rfl) (by kernel_rfl) (by kernel_rfl) rfl rfl (.nil _) ?_
          refine WPA.putS ?_
          first | refine WPA.takeL 4 rfl (Ent.mem (by repeat (first | exact List.Mem.head _ | apply List.Mem.tail))) (q_load1z ld_sl_uint64 rfl (.head _) (by rfl)) (by kernel_rfl) (by kernel_rfl) (by kernel_rfl) rfl rfl (.nil _) ?_ | refine WPA.takeL 4 rfl (Ent.mem (by repeat (first | exact List.Mem.head _ | apply List.Mem.tail))) (q_load1 ld_sl_uint64 rfl (.head _) rfl (by rfl)) (by kernel_rfl) (by kernel_rfl) (by kernel_rfl) rfl rfl (.nil _) ?_
          refine WPA.putS ?_
          refine WPA.takeP 5 rfl (q_move rfl) (by kernel_rfl) (by kernel_rfl) (by kernel_rfl) rfl rfl (.cons (Ent.mem (by repeat (first | exact List.Mem.head _ | apply List.Mem.tail))) (.nil _)) ?_
          refine WPA.putS ?_
          first | refine WPA.takeP 6 rfl (q_nilP rfl) (by kernel_rfl) (by kernel_rfl) (by kernel_rfl) rfl rfl (.cons (Ent.mem (by repeat (first | exact List.Mem.head _ | apply List.Mem.tail))) (.nil _)) ?_ | refine WPA.takeP 6 rfl (q_nilF rfl) (by kernel_rfl) (by kernel_rfl) (by kernel_rfl) rfl rfl (.cons (Ent.mem (by repeat (first | exact List.Mem.head _ | apply List.Mem.tail))) (.nil _)) ?_
          refine WPA.putS ?_
          first | refine WPA.takeP 7 rfl (q_faK fa_elect_Node_Term rfl) (by kernel_rfl) (by kernel_rfl) (by kernel_rfl) rfl rfl (.cons (Ent.mem (by repeat (first | exact List.Mem.head _ | apply List.Mem.tail))) (.nil _)) ?_ | refine WPA.takeP 7 rfl (q_fa fa_elect_Node_Term rfl) (by kernel_rfl) (by kernel_rfl) (by kernel_rfl) rfl rfl (.cons (Ent.mem (by repeat (first | exact List.Mem.head _ | apply List.Mem.tail))) (.nil _)) ?_
          refine WPA.putS ?_
          first | refine WPA.takeL 8 rfl (Ent.mem (by repeat (first | exact List.Mem.head _ | apply List.Mem.tail))) (q_load1z ld_uint64 rfl (.head _) (by rfl)) (by kernel_rfl) (by kernel_rfl) (by kernel_rfl) rfl rfl (.cons (Ent.mem (by repeat (first | exact List.Mem.head _ | apply List.Mem.tail))) (.nil _)) ?_ | refine WPA.takeL 8 rfl (Ent.mem (by repeat (first | exact List.Mem.head _ | apply List.Mem.tail))) (q_load1 ld_uint64 rfl (.head _) rfl (by rfl)) (by kernel_rfl) (by kernel_rfl) (by kernel_rfl) rfl rfl (.cons (Ent.mem (by repeat (first | exact List.Mem.head _ | apply List.Mem.tail))) (.nil _)) ?_
          refine WPA.putS ?_
          refine WPA.oneE 9 [(4, [_])] (by kernel_rfl) rfl rfl (by repeat (first | exact .nil | refine .anc rfl ?_ | refine .keep (by repeat (first | exact List.Mem.head _ | apply List.Mem.tail)) ?_)) (E1.wpo (e_buildSlice mk_sl_uint64 (by decide) rfl rfl rfl) rfl ?_)
          rintro _ _ ⟨bt, rfl, rfl⟩
          refine ⟨(.cons (Ent.mem (by repeat (first | exact List.Mem.head _ | apply List.Mem.tail))) (.nil _)), ?_⟩
          refine WPA.putS ?_
          refine WPA.oneE 10 [] (by kernel_rfl) rfl rfl (by repeat (first | exact .nil | refine .anc rfl ?_ | refine .keep (by repeat (first | exact List.Mem.head _ | apply List.Mem.tail)) ?_)) (E1.wpo (e_append (n := L.tn) (m := 1) (cs := G.terms.map (.int .u64)) (news := [.int .u64 y.term]) mk_sl_uint64 (by decide) rfl rfl (by repeat (first | exact Pick1.here | apply Pick1.there)) (Rd.part (i := 0) (b := bt) (o := 0) (vs := [.int .u64 y.term]) (by repeat (first | exact List.Mem.head _ | apply List.Mem.tail)) rfl rfl rfl) (by simp [Value.oneCell']) (by omega) (by omega)) rfl ?_)
          rintro _ _ ⟨ta2, tc2, rfl, -, rfl⟩
          refine ⟨(.nil _), ?_⟩
          refine WPA.putS ?_
          first | refine WPA.takeP 11 rfl (q_nilP rfl) (by kernel_rfl) (by kernel_rfl) (by kernel_rfl) rfl rfl (.nil _) ?_ | refine WPA.takeP 11 rfl (q_nilF rfl) (by kernel_rfl) (by kernel_rfl) (by kernel_rfl) rfl rfl (.nil _) ?_
          refine WPA.putS ?_
          first | refine WPA.takeP 12 rfl (q_faK fa_pursuivantlaw11_group_terms rfl) (by kernel_rfl) (by kernel_rfl) (by kernel_rfl) rfl rfl (.nil _) ?_ | refine WPA.takeP 12 rfl (q_fa fa_pursuivantlaw11_group_terms rfl) (by kernel_rfl) (by kernel_rfl) (by kernel_rfl) rfl rfl (.nil _) ?_
          refine WPA.putS ?_
          refine WPA.oneE 13 [] (by kernel_rfl) rfl rfl (by repeat (first | exact .nil | refine .anc rfl ?_ | refine .keep (by repeat (first | exact List.Mem.head _ | apply List.Mem.tail)) ?_)) (S1.wpo (s_store1k sz_sl_uint64 rfl rfl rfl rfl (by repeat (first | exact Upd.here | apply Upd.there)) (by repeat constructor)) rfl ?_)
          refine ⟨(.nil _), ?_⟩
          refine WPA.putN ?_
          refine WPA.done (by kernel_rfl) ?_
          refine WPC.region ?_
          refine L_s (q_move rfl) rfl ?_
          refine L_s (q_move rfl) rfl ?_
          first | refine L_s (q_nilP rfl) rfl ?_ | refine L_s (q_nilF rfl) rfl ?_
          first | refine L_s (q_faK fa_pursuivantlaw11_group_leads rfl) rfl ?_ | refine L_s (q_fa fa_pursuivantlaw11_group_leads rfl) rfl ?_
          first | refine L_s (q_load1z ld_sl_int rfl (by repeat (first | exact List.Mem.head _ | apply List.Mem.tail)) (by rfl)) rfl ?_ | refine L_s (q_load1 ld_sl_int rfl (by repeat (first | exact List.Mem.head _ | apply List.Mem.tail)) rfl (by rfl)) rfl ?_
          refine L_s (q_move rfl) rfl ?_
          refine WPL.cons rfl (E1.wpo (e_buildSlice mk_sl_int (by decide) rfl rfl rfl) rfl ?_)
          rintro _ _ ⟨bl, rfl, rfl⟩
          refine WPL.putS ?_
          refine WPL.cons rfl (E1.wpo (e_append (n := L.ln) (m := 1) (cs := G.leads.map (.int .i64)) (news := [.int .i64 (k : Int)]) mk_sl_int (by decide) rfl rfl (by repeat (first | exact Pick1.here | apply Pick1.there)) (Rd.part (i := 0) (b := bl) (o := 0) (vs := [.int .i64 (k : Int)]) (by repeat (first | exact List.Mem.head _ | apply List.Mem.tail)) rfl rfl rfl) (by simp [Value.oneCell']) (by omega) (by omega)) rfl ?_)
          rintro _ _ ⟨la2, lc2, rfl, -, rfl⟩
          rw [show G.leads.map (Value.int .i64) ++ [.int .i64 (k : Int)] = (G.leads ++ [(k : Int)]).map (.int .i64) by simp, show G.terms.map (Value.int .u64) ++ [.int .u64 y.term] = (G.terms ++ [y.term]).map (.int .u64) by simp]
          refine WPL.putS ?_
          first | refine L_s (q_nilP rfl) rfl ?_ | refine L_s (q_nilF rfl) rfl ?_
          first | refine L_s (q_faK fa_pursuivantlaw11_group_leads rfl) rfl ?_ | refine L_s (q_fa fa_pursuivantlaw11_group_leads rfl) rfl ?_
          refine WPL.cons rfl (S1.wpo (s_store1k sz_sl_int rfl rfl rfl rfl (by repeat (first | exact Upd.here | apply Upd.there)) (by repeat constructor)) rfl ?_)
          refine WPL.putN ?_
          refine WPL.nil ?_
          have eG : G.fin k b y out = ⟨G.ns.set k (b, y), G.msgs ++ out, G.terms ++ [y.term], G.leads ++ [(k : Int)]⟩ := by simp [GR.fin, h8]
          rw [eG]
          exact endR_n rfl .nil (((Imp.pick (Δ := cells true b 0 (nodeC y N) :: sl false N.ca (y.conf.map (.int .i64)) :: buf 1 N.ya N.yn N.yc (y.yes.map (.int .i64)) :: sl false N.ea (y.es.flatMap encE) :: cells true N.na 0 (y.next.map (.int .u64)) :: cells true N.ma 0 (y.mtch.map (.int .u64)) :: enodesBut k G.ns :: cells true g 0 (groupC (⟨L.na, L.nn, L.nc, ma2, L.mn + out.length, mc2, ta2, L.tn + 1, tc2, la2, L.ln + 1, lc2⟩ : GL)) :: sl false L.na (G.ns.map ptrE) :: buf 10 ma2 (L.mn + out.length) mc2 (G.msgs.flatMap encM ++ out.flatMap encM) :: buf 1 ta2 (L.tn + 1) tc2 ((G.terms ++ [y.term]).map (.int .u64)) :: buf 1 la2 (L.ln + 1) lc2 ((G.leads ++ [(k : Int)]).map (.int .i64)) :: []) (by repeat (first | exact Pick.nil | apply Pick.keep (by repeat (first | exact List.Mem.head _ | apply List.Mem.tail)) (by first | exact Pers.cells _ _ _ | exact Pers.slv _ _ _) | apply Pick.cons (by repeat (first | exact Pick1.here | apply Pick1.there))))).trans (enode_close (x := y) (b := b) (o := 0) N hN)).trans ((enodes_put (y := y) hk).trans (Imp.trans (Imp.pick (Δ := [cells true g 0 (groupC (⟨L.na, L.nn, L.nc, ma2, L.mn + out.length, mc2, ta2, L.tn + 1, tc2, la2, L.ln + 1, lc2⟩ : GL)), sl false L.na (G.ns.map ptrE), buf 10 ma2 (L.mn + out.length) mc2 (G.msgs.flatMap encM ++ out.flatMap encM), buf 1 ta2 (L.tn + 1) tc2 ((G.terms ++ [y.term]).map (.int .u64)), buf 1 la2 (L.ln + 1) lc2 ((G.leads ++ [(k : Int)]).map (.int .i64)), enodes (G.ns.set k (b, y))]) (by repeat (first | exact Pick.nil | apply Pick.keep (by repeat (first | exact List.Mem.head _ | apply List.Mem.tail)) (by first | exact Pers.cells _ _ _ | exact Pers.slv _ _ _) | apply Pick.cons (by repeat (first | exact Pick1.here | apply Pick1.there))))) (Imp.trans (by rw [← set_map_fst (y := y) hk, ← List.flatMap_append]; exact Imp.refl _) (egroup_close (g := g) (G := ⟨G.ns.set k (b, y), G.msgs ++ out, G.terms ++ [y.term], G.leads ++ [(k : Int)]⟩) (⟨L.na, L.nn, L.nc, ma2, L.mn + out.length, mc2, ta2, L.tn + 1, tc2, la2, L.ln + 1, lc2⟩ : GL) (by rw [set_map_fst hk]; exact k1) (Γ := [])))))) ⟨rfl, rfl⟩
        · try simp only [decide_eq_true_eq, decide_eq_false_iff_not, beq_iff_eq, bne_iff_ne, beq_eq_false_iff_ne, bne_eq_false_iff_eq, Bool.not_eq_true', Bool.not_eq_false', Bool.not_eq_eq_eq_not, Bool.not_true, Bool.not_false, ne_eq, Decidable.not_not, Int.not_lt, Int.not_le, gt_iff_lt, ge_iff_le] at h8
          refine WPC.skip ?_
          have eG : G.fin k b y out = ⟨G.ns.set k (b, y), G.msgs ++ out, G.terms, G.leads⟩ := by simp [GR.fin, h8]
          rw [eG]
          exact endR_n rfl .nil (((Imp.pick (Δ := cells true b 0 (nodeC y N) :: sl false N.ca (y.conf.map (.int .i64)) :: buf 1 N.ya N.yn N.yc (y.yes.map (.int .i64)) :: sl false N.ea (y.es.flatMap encE) :: cells true N.na 0 (y.next.map (.int .u64)) :: cells true N.ma 0 (y.mtch.map (.int .u64)) :: enodesBut k G.ns :: cells true g 0 (groupC (⟨L.na, L.nn, L.nc, ma2, L.mn + out.length, mc2, L.ta, L.tn, L.tc, L.la, L.ln, L.lc⟩ : GL)) :: sl false L.na (G.ns.map ptrE) :: buf 10 ma2 (L.mn + out.length) mc2 (G.msgs.flatMap encM ++ out.flatMap encM) :: buf 1 L.ta L.tn L.tc (G.terms.map (.int .u64)) :: buf 1 L.la L.ln L.lc (G.leads.map (.int .i64)) :: []) (by repeat (first | exact Pick.nil | apply Pick.keep (by repeat (first | exact List.Mem.head _ | apply List.Mem.tail)) (by first | exact Pers.cells _ _ _ | exact Pers.slv _ _ _) | apply Pick.cons (by repeat (first | exact Pick1.here | apply Pick1.there))))).trans (enode_close (x := y) (b := b) (o := 0) N hN)).trans ((enodes_put (y := y) hk).trans (Imp.trans (Imp.pick (Δ := [cells true g 0 (groupC (⟨L.na, L.nn, L.nc, ma2, L.mn + out.length, mc2, L.ta, L.tn, L.tc, L.la, L.ln, L.lc⟩ : GL)), sl false L.na (G.ns.map ptrE), buf 10 ma2 (L.mn + out.length) mc2 (G.msgs.flatMap encM ++ out.flatMap encM), buf 1 L.ta L.tn L.tc (G.terms.map (.int .u64)), buf 1 L.la L.ln L.lc (G.leads.map (.int .i64)), enodes (G.ns.set k (b, y))]) (by repeat (first | exact Pick.nil | apply Pick.keep (by repeat (first | exact List.Mem.head _ | apply List.Mem.tail)) (by first | exact Pers.cells _ _ _ | exact Pers.slv _ _ _) | apply Pick.cons (by repeat (first | exact Pick1.here | apply Pick1.there))))) (Imp.trans (by rw [← set_map_fst (y := y) hk, ← List.flatMap_append]; exact Imp.refl _) (egroup_close (g := g) (G := ⟨G.ns.set k (b, y), G.msgs ++ out, G.terms, G.leads⟩) (⟨L.na, L.nn, L.nc, ma2, L.mn + out.length, mc2, L.ta, L.tn, L.tc, L.la, L.ln, L.lc⟩ : GL) (by rw [set_map_fst hk]; exact k1) (Γ := [])))))) ⟨rfl, rfl⟩
      · try simp only [decide_eq_true_eq, decide_eq_false_iff_not, beq_iff_eq, bne_iff_ne, beq_eq_false_iff_ne, bne_eq_false_iff_eq, Bool.not_eq_true', Bool.not_eq_false', Bool.not_eq_eq_eq_not, Bool.not_true, Bool.not_false, ne_eq, Decidable.not_not, Int.not_lt, Int.not_le, gt_iff_lt, ge_iff_le] at h3
        exact absurd h3 (by decide)

theorem c_play3 {g k b j : Nat} {G : GR} {x y1 y : EN} {m : RM} {out1 out2 out : List RM} (hk : G.ns[k]? = some (b, x)) (hm : G.msgs[j]? = some m) (hto : m.to = (k : Int)) (hx : x.fits) (hmk : 0 ≤ m.kind ∧ m.kind ≤ 12) (hmt : 0 ≤ m.term ∧ m.term < 1152921504606846976) (ho1 : x.onAsk m = (y1, out1)) (hy1 : y1.fits) (hy1t : y1.term < 1152921504606846976) (hy1y : y1.yes.length < 1073741) (ho2 : y1.onAnswer m = (y, out2)) (hoo : out1 ++ out2 = out) (hol : out.length < 1048576 ∧ out1.length < 1048576 ∧ out2.length < 1048576) (hbn : G.ns.length < 1048576 ∧ G.msgs.length < 1048576 ∧ G.terms.length < 1048576 ∧ G.leads.length < 1048576) : Trip Try.prog 22 #[.pointer (some ⟨g, 0, none⟩), .agg #[.int .i64 3, .int .i64 (j : Int)]] [egroup g G] fun r Δ => r = .tuple #[] ∧ Δ = [egroup g (G.fin k b y out)] := by
  refine egroup_open fun L k1 k2 k3 k4 => ?_
  have hnl : G.ns.length = L.nn := by have := k1.len; simpa using this
  have hml : G.msgs.length = L.mn := by have := k2.len; rw [flat_length encM_len] at this; omega
  have htl : G.terms.length = L.tn := by have := k3.len; simpa using this
  have hll : G.leads.length = L.ln := by have := k4.len; simpa using this
  have hkn : k < L.nn := by rw [← hnl]; exact (List.getElem?_eq_some_iff.1 hk).1
  have hpn : Pl L.na := k1.at (by omega) (by omega)
  have hjm : j < L.mn := by rw [← hml]; exact (List.getElem?_eq_some_iff.1 hm).1
  have hpm : Pl L.ma := k2.at (by omega) (by omega)
  refine Trip.start 129 [] [(0, .pointer (some ⟨g, 0, none⟩)), (1, .agg #[.int .i64 3, .int .i64 (j : Int)])] Try.func22 rfl Try.ntmps22 rfl ⟨rfl, rfl, trivial⟩ rfl ?_
  refine WPC.seqR ?_
  first | refine WPL.cons rfl (E1.wpo (e_boxN rfl) rfl ?_) | refine WPL.cons rfl (E1.wpo (e_box1 rfl rfl) rfl ?_)
  rintro _ _ ⟨b1, rfl, rfl⟩
  refine WPL.putS ?_
  refine WPL.nil ?_
  refine WPC.seqR ?_
  refine L_s (q_move rfl) rfl ?_
  first | refine L_s (q_nilP rfl) rfl ?_ | refine L_s (q_nilF rfl) rfl ?_
  first | refine L_s (q_faK fa_pursuivantlaw11_group_nodes rfl) rfl ?_ | refine L_s (q_fa fa_pursuivantlaw11_group_nodes rfl) rfl ?_
  first | refine L_s (q_load1z ld_sl_ptr_elect_Node rfl (by repeat (first | exact List.Mem.head _ | apply List.Mem.tail)) (by rfl)) rfl ?_ | refine L_s (q_load1 ld_sl_ptr_elect_Node rfl (by repeat (first | exact List.Mem.head _ | apply List.Mem.tail)) rfl (by rfl)) rfl ?_
  refine L_s (q_len rfl un_sl_ptr_elect_Node rfl) rfl ?_
  refine L_s (q_assign rfl) rfl ?_
  skip
  refine WPL.nil ?_
  refine WPC.imp (Imp.pick (Δ := buf 10 L.ma L.mn L.mc (G.msgs.flatMap encM) :: enodes G.ns :: cells true g 0 (groupC L) :: sl false L.na (G.ns.map ptrE) :: buf 1 L.ta L.tn L.tc (G.terms.map (.int .u64)) :: buf 1 L.la L.ln L.lc (G.leads.map (.int .i64)) :: cells true b1 0 [.int .i64 3, .int .i64 (j : Int)] :: []) (by repeat (first | exact Pick.nil | apply Pick.keep (by repeat (first | exact List.Mem.head _ | apply List.Mem.tail)) (by first | exact Pers.cells _ _ _ | exact Pers.slv _ _ _) | apply Pick.cons (by repeat (first | exact Pick1.here | apply Pick1.there))))) ?_
  refine WPC.bufOpen fun sp _ hsp => ?_
  refine WPC.seqR ?_
  first | refine L_s (q_faK fa_pursuivantlaw11_Op_K rfl) rfl ?_ | refine L_s (q_fa fa_pursuivantlaw11_Op_K rfl) rfl ?_
  first | refine L_s (q_load1z ld_int rfl (by repeat (first | exact List.Mem.head _ | apply List.Mem.tail)) (by rfl)) rfl ?_ | refine L_s (q_load1 ld_int rfl (by repeat (first | exact List.Mem.head _ | apply List.Mem.tail)) rfl (by rfl)) rfl ?_
  refine L_s (q_assign rfl) rfl ?_
  refine WPL.nil ?_
  refine WPC.seqR ?_
  refine L_s (q_assign rfl) rfl ?_
  refine WPL.nil ?_
  refine WPC.seq ?_
  refine WPC.seqR ?_
  first | refine L_s (q_faK fa_pursuivantlaw11_Op_Do rfl) rfl ?_ | refine L_s (q_fa fa_pursuivantlaw11_Op_Do rfl) rfl ?_
  first | refine L_s (q_load1z ld_int rfl (by repeat (first | exact List.Mem.head _ | apply List.Mem.tail)) (by rfl)) rfl ?_ | refine L_s (q_load1 ld_int rfl (by repeat (first | exact List.Mem.head _ | apply List.Mem.tail)) rfl (by rfl)) rfl ?_
  refine L_s (q_int rfl rfl rfl) rfl ?_
  refine WPL.nil ?_
  refine WPC.cond rfl (fun h0 => ?_) (fun h0 => ?_)
  · try simp only [decide_eq_true_eq, decide_eq_false_iff_not, beq_iff_eq, bne_iff_ne, beq_eq_false_iff_ne, bne_eq_false_iff_eq, Bool.not_eq_true', Bool.not_eq_false', Bool.not_eq_eq_eq_not, Bool.not_true, Bool.not_false, ne_eq, Decidable.not_not, Int.not_lt, Int.not_le, gt_iff_lt, ge_iff_le] at h0
    refine WPC.seq ?_
    refine WPC.seqQ mixed (by kernel_rfl) ?_
    first | refine WPQ.cons (q_faK fa_pursuivantlaw11_Op_K rfl) rfl ?_ | refine WPQ.cons (q_fa fa_pursuivantlaw11_Op_K rfl) rfl ?_
    first | refine WPQ.cons (q_load1z ld_int rfl (by repeat (first | exact List.Mem.head _ | apply List.Mem.tail)) (by rfl)) rfl ?_ | refine WPQ.cons (q_load1 ld_int rfl (by repeat (first | exact List.Mem.head _ | apply List.Mem.tail)) rfl (by rfl)) rfl ?_
    refine WPQ.cons (q_int rfl rfl rfl) rfl ?_
    refine WPQ.cons (q_move rfl) rfl ?_
    apply WPQ.joinO (e' := [(0, _), (3, _), (4, _), (5, _), (6, _)]) 22 31 9 rfl
    · intro g5_3
      try simp only [decide_eq_true_eq, decide_eq_false_iff_not, beq_iff_eq, bne_iff_ne, beq_eq_false_iff_ne, bne_eq_false_iff_eq, Bool.not_eq_true', Bool.not_eq_false', Bool.not_eq_eq_eq_not, Bool.not_true, Bool.not_false, ne_eq, Decidable.not_not, Int.not_lt, Int.not_le, gt_iff_lt, ge_iff_le] at g5_3
      refine WPQ.no rfl rfl rfl rfl ?_
      refine WPQ.no rfl rfl rfl rfl ?_
      refine WPQ.no rfl rfl rfl rfl ?_
      refine WPQ.no rfl rfl rfl rfl ?_
      refine WPQ.no rfl rfl rfl rfl ?_
      refine WPQ.no rfl rfl rfl rfl ?_
      refine WPQ.no rfl rfl rfl rfl ?_
      refine WPQ.no rfl rfl rfl rfl ?_
      first | refine WPQ.cons (q_pickT rfl rfl) rfl ?_ | refine WPQ.cons (q_pickF rfl rfl) rfl ?_
      exact WPQ.jn rfl rfl (by repeat (first | exact trivial | refine ⟨rfl, ?_⟩))
    · intro g5_3
      try simp only [decide_eq_true_eq, decide_eq_false_iff_not, beq_iff_eq, bne_iff_ne, beq_eq_false_iff_ne, bne_eq_false_iff_eq, Bool.not_eq_true', Bool.not_eq_false', Bool.not_eq_eq_eq_not, Bool.not_true, Bool.not_false, ne_eq, Decidable.not_not, Int.not_lt, Int.not_le, gt_iff_lt, ge_iff_le] at g5_3
      first | refine WPQ.yes rfl rfl (q_faK fa_pursuivantlaw11_Op_K rfl) rfl ?_ | refine WPQ.yes rfl rfl (q_fa fa_pursuivantlaw11_Op_K rfl) rfl ?_
      first | refine WPQ.yes rfl rfl (q_load1z ld_int rfl (by repeat (first | exact List.Mem.head _ | apply List.Mem.tail)) (by rfl)) rfl ?_ | refine WPQ.yes rfl rfl (q_load1 ld_int rfl (by repeat (first | exact List.Mem.head _ | apply List.Mem.tail)) rfl (by rfl)) rfl ?_
      refine WPQ.yes rfl rfl (q_move rfl) rfl ?_
      first | refine WPQ.yes rfl rfl (q_nilP rfl) rfl ?_ | refine WPQ.yes rfl rfl (q_nilF rfl) rfl ?_
      first | refine WPQ.yes rfl rfl (q_faK fa_pursuivantlaw11_group_msgs rfl) rfl ?_ | refine WPQ.yes rfl rfl (q_fa fa_pursuivantlaw11_group_msgs rfl) rfl ?_
      first | refine WPQ.yes rfl rfl (q_load1z ld_sl_api_Msg rfl (by repeat (first | exact List.Mem.head _ | apply List.Mem.tail)) (by rfl)) rfl ?_ | refine WPQ.yes rfl rfl (q_load1 ld_sl_api_Msg rfl (by repeat (first | exact List.Mem.head _ | apply List.Mem.tail)) rfl (by rfl)) rfl ?_
      refine WPQ.yes rfl rfl (q_len rfl un_sl_api_Msg rfl) rfl ?_
      refine WPQ.yes rfl rfl (q_int rfl rfl rfl) rfl ?_
      first | refine WPQ.cons (q_pickT rfl rfl) rfl ?_ | refine WPQ.cons (q_pickF rfl rfl) rfl ?_
      exact WPQ.jn rfl rfl (by repeat (first | exact trivial | refine ⟨rfl, ?_⟩))
    refine WPQ.nil ?_
    refine WPC.cond rfl (fun h1 => ?_) (fun h1 => ?_)
    · try simp only [decide_eq_true_eq, decide_eq_false_iff_not, beq_iff_eq, bne_iff_ne, beq_eq_false_iff_ne, bne_eq_false_iff_eq, Bool.not_eq_true', Bool.not_eq_false', Bool.not_eq_eq_eq_not, Bool.not_true, Bool.not_false, ne_eq, Decidable.not_not, Int.not_lt, Int.not_le, gt_iff_lt, ge_iff_le] at h1
      simp only [Bool.or_eq_true, decide_eq_true_eq] at h1
      omega
    · try simp only [decide_eq_true_eq, decide_eq_false_iff_not, beq_iff_eq, bne_iff_ne, beq_eq_false_iff_ne, bne_eq_false_iff_eq, Bool.not_eq_true', Bool.not_eq_false', Bool.not_eq_eq_eq_not, Bool.not_true, Bool.not_false, ne_eq, Decidable.not_not, Int.not_lt, Int.not_le, gt_iff_lt, ge_iff_le] at h1
      refine WPC.skip ?_
      refine thenQ_n ?_
      refine WPC.drawQ mixed (by kernel_rfl) ?_
      refine WPQ.cons (q_move rfl) rfl ?_
      first | refine WPQ.cons (q_nilP rfl) rfl ?_ | refine WPQ.cons (q_nilF rfl) rfl ?_
      first | refine WPQ.cons (q_faK fa_pursuivantlaw11_group_msgs rfl) rfl ?_ | refine WPQ.cons (q_fa fa_pursuivantlaw11_group_msgs rfl) rfl ?_
      first | refine WPQ.cons (q_load1z ld_sl_api_Msg rfl (by repeat (first | exact List.Mem.head _ | apply List.Mem.tail)) (by rfl)) rfl ?_ | refine WPQ.cons (q_load1 ld_sl_api_Msg rfl (by repeat (first | exact List.Mem.head _ | apply List.Mem.tail)) rfl (by rfl)) rfl ?_
      first | refine WPQ.cons (q_faK fa_pursuivantlaw11_Op_K rfl) rfl ?_ | refine WPQ.cons (q_fa fa_pursuivantlaw11_Op_K rfl) rfl ?_
      first | refine WPQ.cons (q_load1z ld_int rfl (by repeat (first | exact List.Mem.head _ | apply List.Mem.tail)) (by rfl)) rfl ?_ | refine WPQ.cons (q_load1 ld_int rfl (by repeat (first | exact List.Mem.head _ | apply List.Mem.tail)) rfl (by rfl)) rfl ?_
      first | refine WPQ.cons (q_idxN sl_sl_api_Msg rfl rfl (by omega) (by assumption)) rfl ?_ | refine WPQ.cons (q_idx sl_sl_api_Msg rfl rfl (by omega) (by omega) (by assumption)) rfl ?_
      first | refine WPQ.cons (q_faK fa_api_Msg_To rfl) rfl ?_ | refine WPQ.cons (q_fa fa_api_Msg_To rfl) rfl ?_
      refine WPQ.cons (show Q1 _ _ _ _ (.int .i64 (k : Int)) from q_ldFlat1 (k := 10) (i := j) (j := 2) (e := m) ld_int rfl (by repeat (first | exact List.Mem.head _ | apply List.Mem.tail)) encM_len hm (by omega) (by rw [← hto]; rfl)) rfl ?_
      refine WPQ.cons (q_assign rfl) rfl ?_
      refine WPQ.nil ?_
      refine thenQ_n ?_
      refine WPC.seq ?_
      refine WPC.seqR ?_
      refine L_s (q_move rfl) rfl ?_
      refine L_s (q_int rfl rfl rfl) rfl ?_
      refine L_s (q_move rfl) rfl ?_
      apply WPL.joinO (e' := [(0, _), (3, _), (5, _), (6, _)]) 43 47 4 rfl
      · intro g7_2
        try simp only [decide_eq_true_eq, decide_eq_false_iff_not, beq_iff_eq, bne_iff_ne, beq_eq_false_iff_ne, bne_eq_false_iff_eq, Bool.not_eq_true', Bool.not_eq_false', Bool.not_eq_eq_eq_not, Bool.not_true, Bool.not_false, ne_eq, Decidable.not_not, Int.not_lt, Int.not_le, gt_iff_lt, ge_iff_le] at g7_2
        refine L_no rfl rfl rfl rfl ?_
        refine L_no rfl rfl rfl rfl ?_
        refine L_no rfl rfl rfl rfl ?_
        first | refine L_s (q_pickT rfl rfl) rfl ?_ | refine L_s (q_pickF rfl rfl) rfl ?_
        first | exact WPL.jn rfl rfl (by repeat (first | exact trivial | refine ⟨rfl, ?_⟩)) | exact WPL.jnI rfl rfl (by repeat (first | exact trivial | refine ⟨rfl, ?_⟩)) (Imp.pick (by repeat (first | exact Pick.nil | apply Pick.keep (by repeat (first | exact List.Mem.head _ | apply List.Mem.tail)) (by first | exact Pers.cells _ _ _ | exact Pers.slv _ _ _) | apply Pick.cons (by repeat (first | exact Pick1.here | apply Pick1.there)))))
      · intro g7_2
        try simp only [decide_eq_true_eq, decide_eq_false_iff_not, beq_iff_eq, bne_iff_ne, beq_eq_false_iff_ne, bne_eq_false_iff_eq, Bool.not_eq_true', Bool.not_eq_false', Bool.not_eq_eq_eq_not, Bool.not_true, Bool.not_false, ne_eq, Decidable.not_not, Int.not_lt, Int.not_le, gt_iff_lt, ge_iff_le] at g7_2
        refine L_yes rfl rfl (q_move rfl) rfl ?_
        refine L_yes rfl rfl (q_move rfl) rfl ?_
        refine L_yes rfl rfl (q_int rfl rfl rfl) rfl ?_
        first | refine L_s (q_pickT rfl rfl) rfl ?_ | refine L_s (q_pickF rfl rfl) rfl ?_
        first | exact WPL.jn rfl rfl (by repeat (first | exact trivial | refine ⟨rfl, ?_⟩)) | exact WPL.jnI rfl rfl (by repeat (first | exact trivial | refine ⟨rfl, ?_⟩)) (Imp.pick (by repeat (first | exact Pick.nil | apply Pick.keep (by repeat (first | exact List.Mem.head _ | apply List.Mem.tail)) (by first | exact Pers.cells _ _ _ | exact Pers.slv _ _ _) | apply Pick.cons (by repeat (first | exact Pick1.here | apply Pick1.there)))))
      refine WPL.nil ?_
      refine WPC.cond rfl (fun h2 => ?_) (fun h2 => ?_)
      · try simp only [decide_eq_true_eq, decide_eq_false_iff_not, beq_iff_eq, bne_iff_ne, beq_eq_false_iff_ne, bne_eq_false_iff_eq, Bool.not_eq_true', Bool.not_eq_false', Bool.not_eq_eq_eq_not, Bool.not_true, Bool.not_false, ne_eq, Decidable.not_not, Int.not_lt, Int.not_le, gt_iff_lt, ge_iff_le] at h2
        simp only [Bool.or_eq_true, decide_eq_true_eq] at h2
        omega
      · try simp only [decide_eq_true_eq, decide_eq_false_iff_not, beq_iff_eq, bne_iff_ne, beq_eq_false_iff_ne, bne_eq_false_iff_eq, Bool.not_eq_true', Bool.not_eq_false', Bool.not_eq_eq_eq_not, Bool.not_true, Bool.not_false, ne_eq, Decidable.not_not, Int.not_lt, Int.not_le, gt_iff_lt, ge_iff_le] at h2
        refine WPC.skip ?_
        refine thenQ_n ?_
        refine WPC.seqR ?_
        refine L_s (q_move rfl) rfl ?_
        first | refine L_s (q_nilP rfl) rfl ?_ | refine L_s (q_nilF rfl) rfl ?_
        first | refine L_s (q_faK fa_pursuivantlaw11_group_nodes rfl) rfl ?_ | refine L_s (q_fa fa_pursuivantlaw11_group_nodes rfl) rfl ?_
        first | refine L_s (q_load1z ld_sl_ptr_elect_Node rfl (by repeat (first | exact List.Mem.head _ | apply List.Mem.tail)) (by rfl)) rfl ?_ | refine L_s (q_load1 ld_sl_ptr_elect_Node rfl (by repeat (first | exact List.Mem.head _ | apply List.Mem.tail)) rfl (by rfl)) rfl ?_
        refine L_s (q_move rfl) rfl ?_
        first | refine L_s (q_idxN sl_sl_ptr_elect_Node rfl rfl (by omega) (by assumption)) rfl ?_ | refine L_s (q_idx sl_sl_ptr_elect_Node rfl rfl (by omega) (by omega) (by assumption)) rfl ?_
        refine L_s (show Q1 _ _ _ _ (.pointer (some ⟨b, 0, none⟩)) from q_ldMap (f := ptrE) (e := (b, x)) ld_ptr_elect_Node rfl (by repeat (first | exact List.Mem.head _ | apply List.Mem.tail)) hk) rfl ?_
        refine L_s (q_assign rfl) rfl ?_
        refine WPL.nil ?_
        refine WPC.seq ?_
        refine WPC.seqR ?_
        first | refine L_s (q_faK fa_pursuivantlaw11_Op_Do rfl) rfl ?_ | refine L_s (q_fa fa_pursuivantlaw11_Op_Do rfl) rfl ?_
        first | refine L_s (q_load1z ld_int rfl (by repeat (first | exact List.Mem.head _ | apply List.Mem.tail)) (by rfl)) rfl ?_ | refine L_s (q_load1 ld_int rfl (by repeat (first | exact List.Mem.head _ | apply List.Mem.tail)) rfl (by rfl)) rfl ?_
        refine WPL.nil ?_
        refine WPC.block ?_
        refine WPC.seqR ?_
        refine L_s (q_int rfl rfl rfl) rfl ?_
        refine L_s (q_assign rfl) rfl ?_
        refine WPL.nil ?_
        refine WPC.cond rfl (fun h3 => ?_) (fun h3 => ?_)
        · try simp only [decide_eq_true_eq, decide_eq_false_iff_not, beq_iff_eq, bne_iff_ne, beq_eq_false_iff_ne, bne_eq_false_iff_eq, Bool.not_eq_true', Bool.not_eq_false', Bool.not_eq_eq_eq_not, Bool.not_true, Bool.not_false, ne_eq, Decidable.not_not, Int.not_lt, Int.not_le, gt_iff_lt, ge_iff_le] at h3
          exact absurd h3 (by decide)
        · try simp only [decide_eq_true_eq, decide_eq_false_iff_not, beq_iff_eq, bne_iff_ne, beq_eq_false_iff_ne, bne_eq_false_iff_eq, Bool.not_eq_true', Bool.not_eq_false', Bool.not_eq_eq_eq_not, Bool.not_true, Bool.not_false, ne_eq, Decidable.not_not, Int.not_lt, Int.not_le, gt_iff_lt, ge_iff_le] at h3
          refine WPC.seqR ?_
          refine L_s (q_int rfl rfl rfl) rfl ?_
          refine L_s (q_assign rfl) rfl ?_
          refine WPL.nil ?_
          refine WPC.cond rfl (fun h4 => ?_) (fun h4 => ?_)
          · try simp only [decide_eq_true_eq, decide_eq_false_iff_not, beq_iff_eq, bne_iff_ne, beq_eq_false_iff_ne, bne_eq_false_iff_eq, Bool.not_eq_true', Bool.not_eq_false', Bool.not_eq_eq_eq_not, Bool.not_true, Bool.not_false, ne_eq, Decidable.not_not, Int.not_lt, Int.not_le, gt_iff_lt, ge_iff_le] at h4
            exact absurd h4 (by decide)
          · try simp only [decide_eq_true_eq, decide_eq_false_iff_not, beq_iff_eq, bne_iff_ne, beq_eq_false_iff_ne, bne_eq_false_iff_eq, Bool.not_eq_true', Bool.not_eq_false', Bool.not_eq_eq_eq_not, Bool.not_true, Bool.not_false, ne_eq, Decidable.not_not, Int.not_lt, Int.not_le, gt_iff_lt, ge_iff_le] at h4
            refine WPC.seqR ?_
            refine L_s (q_int rfl rfl rfl) rfl ?_
            refine L_s (q_assign rfl) rfl ?_
            refine WPL.nil ?_
            refine WPC.cond rfl (fun h5 => ?_) (fun h5 => ?_)
            · try simp only [decide_eq_true_eq, decide_eq_false_iff_not, beq_iff_eq, bne_iff_ne, beq_eq_false_iff_ne, bne_eq_false_iff_eq, Bool.not_eq_true', Bool.not_eq_false', Bool.not_eq_eq_eq_not, Bool.not_true, Bool.not_false, ne_eq, Decidable.not_not, Int.not_lt, Int.not_le, gt_iff_lt, ge_iff_le] at h5
              refine WPC.seqD mixed ?_
              refine WPA.takeP 0 rfl (q_move rfl) (by kernel_rfl) (by kernel_rfl) (by kernel_rfl) rfl rfl (.nil _) ?_
              refine WPA.putS ?_
              first | refine WPA.takeP 1 rfl (q_nilP rfl) (by kernel_rfl) (by kernel_rfl) (by kernel_rfl) rfl rfl (.nil _) ?_ | refine WPA.takeP 1 rfl (q_nilF rfl) (by kernel_rfl) (by kernel_rfl) (by kernel_rfl) rfl rfl (.nil _) ?_
              refine WPA.putS ?_
              first | refine WPA.takeP 2 rfl (q_faK fa_pursuivantlaw11_group_msgs rfl) (by kernel_rfl) (by kernel_rfl) (by kernel_rfl) rfl rfl (.nil _) ?_ | refine WPA.takeP 2 rfl (q_fa fa_pursuivantlaw11_group_msgs rfl) (by kernel_rfl) (by kernel_rfl) (by kernel_rfl) rfl rfl (.nil _) ?_
              refine WPA.putS ?_
              first | refine WPA.takeL 3 rfl (Ent.mem (by repeat (first | exact List.Mem.head _ | apply List.Mem.tail))) (q_load1z ld_sl_api_Msg rfl (.head _) (by rfl)) (by kernel_rfl) (by kernel_rfl) (by kernel_rfl) rfl rfl (.nil _) ?_ | refine WPA.takeL 3 rfl (Ent.mem (by repeat (first | exact List.Mem.head _ | apply List.Mem.tail))) (q_load1 ld_sl_api_Msg rfl (.head _) rfl (by rfl)) (by kernel_rfl) (by kernel_rfl) (by kernel_rfl) rfl rfl (.nil _) ?_
              refine WPA.putS ?_
              first | refine WPA.takeP 4 rfl (q_faK fa_pursuivantlaw11_Op_K rfl) (by kernel_rfl) (by kernel_rfl) (by kernel_rfl) rfl rfl (.cons (Ent.mem (by repeat (first | exact List.Mem.head _ | apply List.Mem.tail))) (.nil _)) ?_ | refine WPA.takeP 4 rfl (q_fa fa_pursuivantlaw11_Op_K rfl) (by kernel_rfl) (by kernel_rfl) (by kernel_rfl) rfl rfl (.cons (Ent.mem (by repeat (first | exact List.Mem.head _ | apply List.Mem.tail))) (.nil _)) ?_
              refine WPA.putS ?_
              first | refine WPA.takeL 5 rfl (Ent.mem (by repeat (first | exact List.Mem.head _ | apply List.Mem.tail))) (q_load1z ld_int rfl (.head _) (by rfl)) (by kernel_rfl) (by kernel_rfl) (by kernel_rfl) rfl rfl (.cons (Ent.mem (by repeat (first | exact List.Mem.head _ | apply List.Mem.tail))) (.nil _)) ?_ | refine WPA.takeL 5 rfl (Ent.mem (by repeat (first | exact List.Mem.head _ | apply List.Mem.tail))) (q_load1 ld_int rfl (.head _) rfl (by rfl)) (by kernel_rfl) (by kernel_rfl) (by kernel_rfl) rfl rfl (.cons (Ent.mem (by repeat (first | exact List.Mem.head _ | apply List.Mem.tail))) (.nil _)) ?_
              refine WPA.putS ?_
              first | refine WPA.takeP 6 rfl (q_idxN sl_sl_api_Msg rfl rfl (by omega) (by assumption)) (by kernel_rfl) (by kernel_rfl) (by kernel_rfl) rfl rfl (.cons (Ent.mem (by repeat (first | exact List.Mem.head _ | apply List.Mem.tail))) (.cons (Ent.mem (by repeat (first | exact List.Mem.head _ | apply List.Mem.tail))) (.nil _))) ?_ | refine WPA.takeP 6 rfl (q_idx sl_sl_api_Msg rfl rfl (by omega) (by omega) (by assumption)) (by kernel_rfl) (by kernel_rfl) (by kernel_rfl) rfl rfl (.cons (Ent.mem (by repeat (first | exact List.Mem.head _ | apply List.Mem.tail))) (.cons (Ent.mem (by repeat (first | exact List.Mem.head _ | apply List.Mem.tail))) (.nil _))) ?_
              refine WPA.putS ?_
              refine WPA.takeL 7 rfl (Ent.mem (by repeat (first | exact List.Mem.head _ | apply List.Mem.tail))) (q_ldFlat (k := 10) (i := j) (e := m) (enc := encM) ld_api_Msg rfl (.head _) encM_len hm) (by kernel_rfl) (by kernel_rfl) (by kernel_rfl) rfl rfl (.cons (Ent.mem (by repeat (first | exact List.Mem.head _ | apply List.Mem.tail))) (.cons (Ent.mem (by repeat (first | exact List.Mem.head _ | apply List.Mem.tail))) (.nil _))) ?_
              refine WPA.putS ?_
              refine WPA.oneE 8 [(7, [_]), (5, [_]), (3, [_])] (by kernel_rfl) rfl rfl (by repeat (first | exact .nil | refine .anc rfl ?_ | refine .keep (by repeat (first | exact List.Mem.head _ | apply List.Mem.tail)) ?_)) (E1.wpo (e_allocL zl_api_Msg) rfl ?_)
              rintro _ _ ⟨bm3, rfl, rfl⟩
              refine ⟨(.cons (Ent.mem (by repeat (first | exact List.Mem.head _ | apply List.Mem.tail))) (.cons (Ent.mem (by repeat (first | exact List.Mem.head _ | apply List.Mem.tail))) (.cons (Ent.mem (by repeat (first | exact List.Mem.head _ | apply List.Mem.tail))) (.nil _)))), ?_⟩
              refine WPA.putS ?_
              refine WPA.oneE 9 [] (by kernel_rfl) rfl rfl (by repeat (first | exact .nil | refine .anc rfl ?_ | refine .keep (by repeat (first | exact List.Mem.head _ | apply List.Mem.tail)) ?_)) (S1.wpo (s_storeNz sz_api_Msg rfl rfl (by simp [Value.oneCell']) rfl (by repeat (first | exact Upd.here | apply Upd.there)) (by repeat constructor)) rfl ?_)
              refine ⟨(.nil _), ?_⟩
              refine WPA.putN ?_
              refine WPA.done (by kernel_rfl) ?_
              refine WPC.imp ((Imp.pick (Δ := enodes G.ns :: cells true bm3 0 (encM m) :: sl true L.ma (G.msgs.flatMap encM) :: cells true (blk L.ma) (off L.ma + (G.msgs.flatMap encM).length) sp :: cells true g 0 (groupC L) :: sl false L.na (G.ns.map ptrE) :: buf 1 L.ta L.tn L.tc (G.terms.map (.int .u64)) :: buf 1 L.la L.ln L.lc (G.leads.map (.int .i64)) :: cells true b1 0 [.int .i64 3, .int .i64 (j : Int)] :: []) (by repeat (first | exact Pick.nil | apply Pick.keep (by repeat (first | exact List.Mem.head _ | apply List.Mem.tail)) (by first | exact Pers.cells _ _ _ | exact Pers.slv _ _ _) | apply Pick.cons (by repeat (first | exact Pick1.here | apply Pick1.there))))).trans (enodes_take hk)) ?_
              refine WPC.draw mixed ?_
              refine WPA.takeP 0 rfl (q_move rfl) (by kernel_rfl) (by kernel_rfl) (by kernel_rfl) rfl rfl (.nil _) ?_
              refine WPA.putS ?_
              first | refine WPA.takeL 1 rfl (Ent.mem (by repeat (first | exact List.Mem.head _ | apply List.Mem.tail))) (q_loadNz (us := [_, _, _, _, _, _, _, _, _, _]) ld_api_Msg rfl (.head _) (by exact ⟨rfl, rfl⟩)) (by kernel_rfl) (by kernel_rfl) (by kernel_rfl) rfl rfl (.nil _) ?_ | refine WPA.takeL 1 rfl (Ent.mem (by repeat (first | exact List.Mem.head _ | apply List.Mem.tail))) (q_loadNk (us := [_, _, _, _, _, _, _, _, _, _]) ld_api_Msg rfl (.head _) (by exact ⟨rfl, rfl⟩)) (by kernel_rfl) (by kernel_rfl) (by kernel_rfl) rfl rfl (.nil _) ?_
              refine WPA.putS ?_
              refine WPA.takeP 3 rfl (q_move rfl) (by kernel_rfl) (by kernel_rfl) (by kernel_rfl) rfl rfl (.cons (Ent.mem (by repeat (first | exact List.Mem.head _ | apply List.Mem.tail))) (.nil _)) ?_
              refine WPA.putS ?_
              first | refine WPA.takeL 4 rfl (Ent.mem (by repeat (first | exact List.Mem.head _ | apply List.Mem.tail))) (q_loadNz (us := [_, _, _, _, _, _, _, _, _, _]) ld_api_Msg rfl (.head _) (by exact ⟨rfl, rfl⟩)) (by kernel_rfl) (by kernel_rfl) (by kernel_rfl) rfl rfl (.cons (Ent.mem (by repeat (first | exact List.Mem.head _ | apply List.Mem.tail))) (.nil _)) ?_ | refine WPA.takeL 4 rfl (Ent.mem (by repeat (first | exact List.Mem.head _ | apply List.Mem.tail))) (q_loadNk (us := [_, _, _, _, _, _, _, _, _, _]) ld_api_Msg rfl (.head _) (by exact ⟨rfl, rfl⟩)) (by kernel_rfl) (by kernel_rfl) (by kernel_rfl) rfl rfl (.cons (Ent.mem (by repeat (first | exact List.Mem.head _ | apply List.Mem.tail))) (.nil _)) ?_
              refine WPA.putS ?_
              refine WPA.oneE 2 [(4, [_])] (by kernel_rfl) rfl rfl (by repeat (first | exact .nil | refine .anc rfl ?_ | refine .keep (by repeat (first | exact List.Mem.head _ | apply List.Mem.tail)) ?_)) (C1.call (c_call Try.func19 rfl rfl rfl) (by have := c_OnAsk (b := b) (o := 0) hx hmk hmt; rw [ho1] at this; exact this) (by repeat (first | exact Pick.nil | apply Pick.keep (by repeat (first | exact List.Mem.head _ | apply List.Mem.tail)) (by first | exact Pers.cells _ _ _ | exact Pers.slv _ _ _) | apply Pick.cons (by repeat (first | exact Pick1.here | apply Pick1.there)))) rfl ?_)
              rintro _ _ ⟨oa1, oc1, rfl, rfl⟩
              refine ⟨(.cons (Ent.mem (by repeat (first | exact List.Mem.head _ | apply List.Mem.tail))) (.nil _)), ?_⟩
              refine WPA.putS ?_
              refine WPA.oneE 5 [] (by kernel_rfl) rfl rfl (by repeat (first | exact .nil | refine .anc rfl ?_ | refine .keep (by repeat (first | exact List.Mem.head _ | apply List.Mem.tail)) ?_)) (C1.call (c_call Try.func20 rfl rfl rfl) (by have := c_OnAnswer (b := b) (o := 0) hy1 hy1t hmt hy1y; rw [ho2] at this; exact this) (by repeat (first | exact Pick.nil | apply Pick.keep (by repeat (first | exact List.Mem.head _ | apply List.Mem.tail)) (by first | exact Pers.cells _ _ _ | exact Pers.slv _ _ _) | apply Pick.cons (by repeat (first | exact Pick1.here | apply Pick1.there)))) rfl ?_)
              rintro _ _ ⟨oa2, oc2, rfl, rfl⟩
              refine ⟨(.nil _), ?_⟩
              refine WPA.putS ?_
              refine WPA.imp (Imp.pick (Δ := buf 10 oa1 out1.length oc1 (out1.flatMap encM) :: buf 10 oa2 out2.length oc2 (out2.flatMap encM) :: enode b 0 y :: enodesBut k G.ns :: sl true L.ma (G.msgs.flatMap encM) :: cells true (blk L.ma) (off L.ma + (G.msgs.flatMap encM).length) sp :: cells true g 0 (groupC L) :: sl false L.na (G.ns.map ptrE) :: buf 1 L.ta L.tn L.tc (G.terms.map (.int .u64)) :: buf 1 L.la L.ln L.lc (G.leads.map (.int .i64)) :: cells true b1 0 [.int .i64 3, .int .i64 (j : Int)] :: []) (by repeat (first | exact Pick.nil | apply Pick.keep (by repeat (first | exact List.Mem.head _ | apply List.Mem.tail)) (by first | exact Pers.cells _ _ _ | exact Pers.slv _ _ _) | apply Pick.cons (by repeat (first | exact Pick1.here | apply Pick1.there))))) ?_
              refine WPA.bufFact (sz := 10) (a := oa2) (m := out2.length) (k := oc2) (cs := out2.flatMap encM) (.tail _ (.head _)) fun hout2 => ?_
              refine WPA.oneE 6 [] (by kernel_rfl) rfl rfl (by repeat (first | exact .nil | refine .anc rfl ?_ | refine .keep (by repeat (first | exact List.Mem.head _ | apply List.Mem.tail)) ?_)) (E1.wpo (e_append (n := out1.length) (m := out2.length) (cs := out1.flatMap encM) (news := out2.flatMap encM) mk_sl_api_Msg (by decide) rfl rfl Pick1.here (Rd.ofBuf (by decide) hout2 (.tail _ (.head _))) (encM_one out2) (by omega) (by omega)) rfl ?_)
              rintro _ _ ⟨oa, oc, rfl, -, rfl⟩
              rw [← List.flatMap_append, ← List.length_append, hoo]
              refine ⟨(.nil _), ?_⟩
              refine WPA.putS ?_
              refine WPA.takeP 7 rfl (q_assign rfl) (by kernel_rfl) (by kernel_rfl) (by kernel_rfl) rfl rfl (.nil _) ?_
              refine WPA.putS ?_
              refine WPA.done (by kernel_rfl) ?_
              refine blockQ_n ?_
              refine thenQ_n ?_
              refine WPC.seqR ?_
              refine WPL.imp ((Imp.pick (Δ := sl true L.ma (G.msgs.flatMap encM) :: cells true (blk L.ma) (off L.ma + (G.msgs.flatMap encM).length) sp :: enode b 0 y :: buf 10 oa out.length oc (out.flatMap encM) :: enodesBut k G.ns :: cells true g 0 (groupC L) :: sl false L.na (G.ns.map ptrE) :: buf 1 L.ta L.tn L.tc (G.terms.map (.int .u64)) :: buf 1 L.la L.ln L.lc (G.leads.map (.int .i64)) :: cells true b1 0 [.int .i64 3, .int .i64 (j : Int)] :: []) (by repeat (first | exact Pick.nil | apply Pick.keep (by repeat (first | exact List.Mem.head _ | apply List.Mem.tail)) (by first | exact Pers.cells _ _ _ | exact Pers.slv _ _ _) | apply Pick.cons (by repeat (first | exact Pick1.here | apply Pick1.there))))).trans (Imp.bufClose k2 hsp)) ?_
              refine WPL.imp (Imp.pick (Δ := enode b 0 y :: buf 10 oa out.length oc (out.flatMap encM) :: enodesBut k G.ns :: buf 10 L.ma L.mn L.mc (G.msgs.flatMap encM) :: cells true g 0 (groupC L) :: sl false L.na (G.ns.map ptrE) :: buf 1 L.ta L.tn L.tc (G.terms.map (.int .u64)) :: buf 1 L.la L.ln L.lc (G.leads.map (.int .i64)) :: cells true b1 0 [.int .i64 3, .int .i64 (j : Int)] :: []) (by repeat (first | exact Pick.nil | apply Pick.keep (by repeat (first | exact List.Mem.head _ | apply List.Mem.tail)) (by first | exact Pers.cells _ _ _ | exact Pers.slv _ _ _) | apply Pick.cons (by repeat (first | exact Pick1.here | apply Pick1.there))))) ?_
              refine WPL.exg (L := fun N => enodeL b 0 y N) fun N => WPL.pure fun hN => WPL.bufFact (a := oa) (m := out.length) (k := oc) (sz := 10) (cs := out.flatMap encM) (.tail _ (.tail _ (.tail _ (.tail _ (.tail _ (.tail _ (.head _))))))) fun hout => ?_
              refine L_s (q_move rfl) rfl ?_
              refine L_s (q_move rfl) rfl ?_
              first | refine L_s (q_nilP rfl) rfl ?_ | refine L_s (q_nilF rfl) rfl ?_
              first | refine L_s (q_faK fa_pursuivantlaw11_group_msgs rfl) rfl ?_ | refine L_s (q_fa fa_pursuivantlaw11_group_msgs rfl) rfl ?_
              first | refine L_s (q_load1z ld_sl_api_Msg rfl (by repeat (first | exact List.Mem.head _ | apply List.Mem.tail)) (by rfl)) rfl ?_ | refine L_s (q_load1 ld_sl_api_Msg rfl (by repeat (first | exact List.Mem.head _ | apply List.Mem.tail)) rfl (by rfl)) rfl ?_
              refine L_s (q_move rfl) rfl ?_
              refine WPL.cons rfl (E1.wpo (e_append (n := L.mn) (m := out.length) (cs := G.msgs.flatMap encM) (news := out.flatMap encM) mk_sl_api_Msg (by decide) rfl rfl (by repeat (first | exact Pick1.here | apply Pick1.there)) (Rd.ofBuf (by decide) hout (by repeat (first | exact List.Mem.head _ | apply List.Mem.tail))) (encM_one out) (by omega) (by omega)) rfl ?_)
              rintro _ _ ⟨ma2, mc2, rfl, -, rfl⟩
              refine WPL.putS ?_
              first | refine L_s (q_nilP rfl) rfl ?_ | refine L_s (q_nilF rfl) rfl ?_
              first | refine L_s (q_faK fa_pursuivantlaw11_group_msgs rfl) rfl ?_ | refine L_s (q_fa fa_pursuivantlaw11_group_msgs rfl) rfl ?_
              refine WPL.cons rfl (S1.wpo (s_store1k sz_sl_api_Msg rfl rfl rfl rfl (by repeat (first | exact Upd.here | apply Upd.there)) (by repeat constructor)) rfl ?_)
              refine WPL.putN ?_
              refine WPL.nil ?_
              refine WPC.prune [(0, _), (5, _), (7, _)] (by repeat (first | exact trivial | refine ⟨rfl, ?_⟩)) ?_
              refine WPC.seqR ?_
              refine L_s (q_move rfl) rfl ?_
              first | refine L_s (q_nilP rfl) rfl ?_ | refine L_s (q_nilF rfl) rfl ?_
              first | refine L_s (q_faK fa_elect_Node_Role rfl) rfl ?_ | refine L_s (q_fa fa_elect_Node_Role rfl) rfl ?_
              first | refine L_s (q_load1z ld_int rfl (by repeat (first | exact List.Mem.head _ | apply List.Mem.tail)) (by rfl)) rfl ?_ | refine L_s (q_load1 ld_int rfl (by repeat (first | exact List.Mem.head _ | apply List.Mem.tail)) rfl (by rfl)) rfl ?_
              refine L_s (q_int rfl rfl rfl) rfl ?_
              refine WPL.nil ?_
              refine WPC.cond rfl (fun h8 => ?_) (fun h8 => ?_)
              · try simp only [decide_eq_true_eq, decide_eq_false_iff_not, beq_iff_eq, bne_iff_ne, beq_eq_false_iff_ne, bne_eq_false_iff_eq, Bool.not_eq_true', Bool.not_eq_false', Bool.not_eq_eq_eq_not, Bool.not_true, Bool.not_false, ne_eq, Decidable.not_not, Int.not_lt, Int.not_le, gt_iff_lt, ge_iff_le] at h8
                refine WPC.seqD mixed ?_
                refine WPA.takeP 0 rfl (q_move rfl) (by kernel_rfl) (by kernel_rfl) (by kernel_rfl) rfl rfl (.nil _) ?_
                refine WPA.putS ?_
                refine WPA.takeP 1 rfl (q_move rfl) (by kernel_rfl) (by kernel_rfl) (by kernel_rfl) rfl rfl (.nil _) ?_
                refine WPA.putS ?_
                first | refine WPA.takeP 2 rfl (q_nilP rfl) (by kernel_rfl) (by kernel_rfl) (by kernel_rfl) rfl rfl (.nil _) ?_ | refine WPA.takeP 2 rfl (q_nilF rfl) (by kernel_rfl) (by kernel_rfl) (by kernel_rfl) rfl rfl (.nil _) ?_
                refine WPA.putS ?_
                first | refine WPA.takeP 3 rfl (q_faK fa_pursuivantlaw11_group_terms rfl) (by kernel_rfl) (by kernel_rfl) (by kernel_rfl) rfl rfl (.nil _) ?_ | refine WPA.takeP 3 rfl (q_fa fa_pursuivantlaw11_group_terms rfl) (by kernel_rfl) (by kernel_rfl) (by kernel_rfl) rfl rfl (.nil _) ?_
                refine WPA.putS ?_
                first | refine WPA.takeL 4 rfl (Ent.mem (by repeat (first | exact List.Mem.head _ | apply List.Mem.tail))) (q_load1z ld_sl_uint64 rfl (.head _) (by rfl)) (by kernel_rfl) (by kernel_rfl) (by kernel_rfl) rfl rfl (.nil _) ?_ | refine WPA.takeL 4 rfl (Ent.mem (by repeat (first | exact List.Mem.head _ | apply List.Mem.tail))) (q_load1 ld_sl_uint64 rfl (.head _) rfl (by rfl)) (by kernel_rfl) (by kernel_rfl) (by kernel_rfl) rfl rfl (.nil _) ?_
                refine WPA.putS ?_
                refine WPA.takeP 5 rfl (q_move rfl) (by kernel_rfl) (by kernel_rfl) (by kernel_rfl) rfl rfl (.cons (Ent.mem (by repeat (first | exact List.Mem.head _ | apply List.Mem.tail))) (.nil _)) ?_
                refine WPA.putS ?_
                first | refine WPA.takeP 6 rfl (q_nilP rfl) (by kernel_rfl) (by kernel_rfl) (by kernel_rfl) rfl rfl (.cons (Ent.mem (by repeat (first | exact List.Mem.head _ | apply List.Mem.tail))) (.nil _)) ?_ | refine WPA.takeP 6 rfl (q_nilF rfl) (by kernel_rfl) (by kernel_rfl) (by kernel_rfl) rfl rfl (.cons (Ent.mem (by repeat (first | exact List.Mem.head _ | apply List.Mem.tail))) (.nil _)) ?_
                refine WPA.putS ?_
                first | refine WPA.takeP 7 rfl (q_faK fa_elect_Node_Term rfl) (by kernel_rfl) (by kernel_rfl) (by kernel_rfl) rfl rfl (.cons (Ent.mem (by repeat (first | exact List.Mem.head _ | apply List.Mem.tail))) (.nil _)) ?_ | refine WPA.takeP 7 rfl (q_fa fa_elect_Node_Term rfl) (by kernel_rfl) (by kernel_rfl) (by kernel_rfl) rfl rfl (.cons (Ent.mem (by repeat (first | exact List.Mem.head _ | apply List.Mem.tail))) (.nil _)) ?_
                refine WPA.putS ?_
                first | refine WPA.takeL 8 rfl (Ent.mem (by repeat (first | exact List.Mem.head _ | apply List.Mem.tail))) (q_load1z ld_uint64 rfl (.head _) (by rfl)) (by kernel_rfl) (by kernel_rfl) (by kernel_rfl) rfl rfl (.cons (Ent.mem (by repeat (first | exact List.Mem.head _ | apply List.Mem.tail))) (.nil _)) ?_ | refine WPA.takeL 8 rfl (Ent.mem (by repeat (first | exact List.Mem.head _ | apply List.Mem.tail))) (q_load1 ld_uint64 rfl (.head _) rfl (by rfl)) (by kernel_rfl) (by kernel_rfl) (by kernel_rfl) rfl rfl (.cons (Ent.mem (by repeat (first | exact List.Mem.head _ | apply List.Mem.tail))) (.nil _)) ?_
                refine WPA.putS ?_
                refine WPA.oneE 9 [(4, [_])] (by kernel_rfl) rfl rfl (by repeat (first | exact .nil | refine .anc rfl ?_ | refine .keep (by repeat (first | exact List.Mem.head _ | apply List.Mem.tail)) ?_)) (E1.wpo (e_buildSlice mk_sl_uint64 (by decide) rfl rfl rfl) rfl ?_)
                rintro _ _ ⟨bt, rfl, rfl⟩
                refine ⟨(.cons (Ent.mem (by repeat (first | exact List.Mem.head _ | apply List.Mem.tail))) (.nil _)), ?_⟩
                refine WPA.putS ?_
                refine WPA.oneE 10 [] (by kernel_rfl) rfl rfl (by repeat (first | exact .nil | refine .anc rfl ?_ | refine .keep (by repeat (first | exact List.Mem.head _ | apply List.Mem.tail)) ?_)) (E1.wpo (e_append (n := L.tn) (m := 1) (cs := G.terms.map (.int .u64)) (news := [.int .u64 y.term]) mk_sl_uint64 (by decide) rfl rfl (by repeat (first | exact Pick1.here | apply Pick1.there)) (Rd.part (i := 0) (b := bt) (o := 0) (vs := [.int .u64 y.term]) (by repeat (first | exact List.Mem.head _ | apply List.Mem.tail)) rfl rfl rfl) (by simp [Value.oneCell']) (by omega) (by omega)) rfl ?_)
                rintro _ _ ⟨ta2, tc2, rfl, -, rfl⟩
                refine ⟨(.nil _), ?_⟩
                refine WPA.putS ?_
                first | refine WPA.takeP 11 rfl (q_nilP rfl) (by kernel_rfl) (by kernel_rfl) (by kernel_rfl) rfl rfl (.nil _) ?_ | refine WPA.takeP 11 rfl (q_nilF rfl) (by kernel_rfl) (by kernel_rfl) (by kernel_rfl) rfl rfl (.nil _) ?_
                refine WPA.putS ?_
                first | refine WPA.takeP 12 rfl (q_faK fa_pursuivantlaw11_group_terms rfl) (by kernel_rfl) (by kernel_rfl) (by kernel_rfl) rfl rfl (.nil _) ?_ | refine WPA.takeP 12 rfl (q_fa fa_pursuivantlaw11_group_terms rfl) (by kernel_rfl) (by kernel_rfl) (by kernel_rfl) rfl rfl (.nil _) ?_
                refine WPA.putS ?_
                refine WPA.oneE 13 [] (by kernel_rfl) rfl rfl (by repeat (first | exact .nil | refine .anc rfl ?_ | refine .keep (by repeat (first | exact List.Mem.head _ | apply List.Mem.tail)) ?_)) (S1.wpo (s_store1k sz_sl_uint64 rfl rfl rfl rfl (by repeat (first | exact Upd.here | apply Upd.there)) (by repeat constructor)) rfl ?_)
                refine ⟨(.nil _), ?_⟩
                refine WPA.putN ?_
                refine WPA.done (by kernel_rfl) ?_
                refine WPC.region ?_
                refine L_s (q_move rfl) rfl ?_
                refine L_s (q_move rfl) rfl ?_
                first | refine L_s (q_nilP rfl) rfl ?_ | refine L_s (q_nilF rfl) rfl ?_
                first | refine L_s (q_faK fa_pursuivantlaw11_group_leads rfl) rfl ?_ | refine L_s (q_fa fa_pursuivantlaw11_group_leads rfl) rfl ?_
                first | refine L_s (q_load1z ld_sl_int rfl (by repeat (first | exact List.Mem.head _ | apply List.Mem.tail)) (by rfl)) rfl ?_ | refine L_s (q_load1 ld_sl_int rfl (by repeat (first | exact List.Mem.head _ | apply List.Mem.tail)) rfl (by rfl)) rfl ?_
                refine L_s (q_move rfl) rfl ?_
                refine WPL.cons rfl (E1.wpo (e_buildSlice mk_sl_int (by decide) rfl rfl rfl) rfl ?_)
                rintro _ _ ⟨bl, rfl, rfl⟩
                refine WPL.putS ?_
                refine WPL.cons rfl (E1.wpo (e_append (n := L.ln) (m := 1) (cs := G.leads.map (.int .i64)) (news := [.int .i64 (k : Int)]) mk_sl_int (by decide) rfl rfl (by repeat (first | exact Pick1.here | apply Pick1.there)) (Rd.part (i := 0) (b := bl) (o := 0) (vs := [.int .i64 (k : Int)]) (by repeat (first | exact List.Mem.head _ | apply List.Mem.tail)) rfl rfl rfl) (by simp [Value.oneCell']) (by omega) (by omega)) rfl ?_)
                rintro _ _ ⟨la2, lc2, rfl, -, rfl⟩
                rw [show G.leads.map (Value.int .i64) ++ [.int .i64 (k : Int)] = (G.leads ++ [(k : Int)]).map (.int .i64) by simp, show G.terms.map (Value.int .u64) ++ [.int .u64 y.term] = (G.terms ++ [y.term]).map (.int .u64) by simp]
                refine WPL.putS ?_
                first | refine L_s (q_nilP rfl) rfl ?_ | refine L_s (q_nilF rfl) rfl ?_
                first | refine L_s (q_faK fa_pursuivantlaw11_group_leads rfl) rfl ?_ | refine L_s (q_fa fa_pursuivantlaw11_group_leads rfl) rfl ?_
                refine WPL.cons rfl (S1.wpo (s_store1k sz_sl_int rfl rfl rfl rfl (by repeat (first | exact Upd.here | apply Upd.there)) (by repeat constructor)) rfl ?_)
                refine WPL.putN ?_
                refine WPL.nil ?_
                have eG : G.fin k b y out = ⟨G.ns.set k (b, y), G.msgs ++ out, G.terms ++ [y.term], G.leads ++ [(k : Int)]⟩ := by simp [GR.fin, h8]
                rw [eG]
                exact endR_n rfl .nil (((Imp.pick (Δ := cells true b 0 (nodeC y N) :: sl false N.ca (y.conf.map (.int .i64)) :: buf 1 N.ya N.yn N.yc (y.yes.map (.int .i64)) :: sl false N.ea (y.es.flatMap encE) :: cells true N.na 0 (y.next.map (.int .u64)) :: cells true N.ma 0 (y.mtch.map (.int .u64)) :: enodesBut k G.ns :: cells true g 0 (groupC (⟨L.na, L.nn, L.nc, ma2, L.mn + out.length, mc2, ta2, L.tn + 1, tc2, la2, L.ln + 1, lc2⟩ : GL)) :: sl false L.na (G.ns.map ptrE) :: buf 10 ma2 (L.mn + out.length) mc2 (G.msgs.flatMap encM ++ out.flatMap encM) :: buf 1 ta2 (L.tn + 1) tc2 ((G.terms ++ [y.term]).map (.int .u64)) :: buf 1 la2 (L.ln + 1) lc2 ((G.leads ++ [(k : Int)]).map (.int .i64)) :: []) (by repeat (first | exact Pick.nil | apply Pick.keep (by repeat (first | exact List.Mem.head _ | apply List.Mem.tail)) (by first | exact Pers.cells _ _ _ | exact Pers.slv _ _ _) | apply Pick.cons (by repeat (first | exact Pick1.here | apply Pick1.there))))).trans (enode_close (x := y) (b := b) (o := 0) N hN)).trans ((enodes_put (y := y) hk).trans (Imp.trans (Imp.pick (Δ := [cells true g 0 (groupC (⟨L.na, L.nn, L.nc, ma2, L.mn + out.length, mc2, ta2, L.tn + 1, tc2, la2, L.ln + 1, lc2⟩ : GL)), sl false L.na (G.ns.map ptrE), buf 10 ma2 (L.mn + out.length) mc2 (G.msgs.flatMap encM ++ out.flatMap encM), buf 1 ta2 (L.tn + 1) tc2 ((G.terms ++ [y.term]).map (.int .u64)), buf 1 la2 (L.ln + 1) lc2 ((G.leads ++ [(k : Int)]).map (.int .i64)), enodes (G.ns.set k (b, y))]) (by repeat (first | exact Pick.nil | apply Pick.keep (by repeat (first | exact List.Mem.head _ | apply List.Mem.tail)) (by first | exact Pers.cells _ _ _ | exact Pers.slv _ _ _) | apply Pick.cons (by repeat (first | exact Pick1.here | apply Pick1.there))))) (Imp.trans (by rw [← set_map_fst (y := y) hk, ← List.flatMap_append]; exact Imp.refl _) (egroup_close (g := g) (G := ⟨G.ns.set k (b, y), G.msgs ++ out, G.terms ++ [y.term], G.leads ++ [(k : Int)]⟩) (⟨L.na, L.nn, L.nc, ma2, L.mn + out.length, mc2, ta2, L.tn + 1, tc2, la2, L.ln + 1, lc2⟩ : GL) (by rw [set_map_fst hk]; exact k1) (Γ := [])))))) ⟨rfl, rfl⟩
              · try simp only [decide_eq_true_eq, decide_eq_false_iff_not, beq_iff_eq, bne_iff_ne, beq_eq_false_iff_ne, bne_eq_false_iff_eq, Bool.not_eq_true', Bool.not_eq_false', Bool.not_eq_eq_eq_not, Bool.not_true, Bool.not_false, ne_eq, Decidable.not_not, Int.not_lt, Int.not_le, gt_iff_lt, ge_iff_le] at h8
                refine WPC.skip ?_
                have eG : G.fin k b y out = ⟨G.ns.set k (b, y), G.msgs ++ out, G.terms, G.leads⟩ := by simp [GR.fin, h8]
                rw [eG]
                exact endR_n rfl .nil (((Imp.pick (Δ := cells true b 0 (nodeC y N) :: sl false N.ca (y.conf.map (.int .i64)) :: buf 1 N.ya N.yn N.yc (y.yes.map (.int .i64)) :: sl false N.ea (y.es.flatMap encE) :: cells true N.na 0 (y.next.map (.int .u64)) :: cells true N.ma 0 (y.mtch.map (.int .u64)) :: enodesBut k G.ns :: cells true g 0 (groupC (⟨L.na, L.nn, L.nc, ma2, L.mn + out.length, mc2, L.ta, L.tn, L.tc, L.la, L.ln, L.lc⟩ : GL)) :: sl false L.na (G.ns.map ptrE) :: buf 10 ma2 (L.mn + out.length) mc2 (G.msgs.flatMap encM ++ out.flatMap encM) :: buf 1 L.ta L.tn L.tc (G.terms.map (.int .u64)) :: buf 1 L.la L.ln L.lc (G.leads.map (.int .i64)) :: []) (by repeat (first | exact Pick.nil | apply Pick.keep (by repeat (first | exact List.Mem.head _ | apply List.Mem.tail)) (by first | exact Pers.cells _ _ _ | exact Pers.slv _ _ _) | apply Pick.cons (by repeat (first | exact Pick1.here | apply Pick1.there))))).trans (enode_close (x := y) (b := b) (o := 0) N hN)).trans ((enodes_put (y := y) hk).trans (Imp.trans (Imp.pick (Δ := [cells true g 0 (groupC (⟨L.na, L.nn, L.nc, ma2, L.mn + out.length, mc2, L.ta, L.tn, L.tc, L.la, L.ln, L.lc⟩ : GL)), sl false L.na (G.ns.map ptrE), buf 10 ma2 (L.mn + out.length) mc2 (G.msgs.flatMap encM ++ out.flatMap encM), buf 1 L.ta L.tn L.tc (G.terms.map (.int .u64)), buf 1 L.la L.ln L.lc (G.leads.map (.int .i64)), enodes (G.ns.set k (b, y))]) (by repeat (first | exact Pick.nil | apply Pick.keep (by repeat (first | exact List.Mem.head _ | apply List.Mem.tail)) (by first | exact Pers.cells _ _ _ | exact Pers.slv _ _ _) | apply Pick.cons (by repeat (first | exact Pick1.here | apply Pick1.there))))) (Imp.trans (by rw [← set_map_fst (y := y) hk, ← List.flatMap_append]; exact Imp.refl _) (egroup_close (g := g) (G := ⟨G.ns.set k (b, y), G.msgs ++ out, G.terms, G.leads⟩) (⟨L.na, L.nn, L.nc, ma2, L.mn + out.length, mc2, L.ta, L.tn, L.tc, L.la, L.ln, L.lc⟩ : GL) (by rw [set_map_fst hk]; exact k1) (Γ := [])))))) ⟨rfl, rfl⟩
            · try simp only [decide_eq_true_eq, decide_eq_false_iff_not, beq_iff_eq, bne_iff_ne, beq_eq_false_iff_ne, bne_eq_false_iff_eq, Bool.not_eq_true', Bool.not_eq_false', Bool.not_eq_eq_eq_not, Bool.not_true, Bool.not_false, ne_eq, Decidable.not_not, Int.not_lt, Int.not_le, gt_iff_lt, ge_iff_le] at h5
              exact absurd h5 (by decide)
  · try simp only [decide_eq_true_eq, decide_eq_false_iff_not, beq_iff_eq, bne_iff_ne, beq_eq_false_iff_ne, bne_eq_false_iff_eq, Bool.not_eq_true', Bool.not_eq_false', Bool.not_eq_eq_eq_not, Bool.not_true, Bool.not_false, ne_eq, Decidable.not_not, Int.not_lt, Int.not_le, gt_iff_lt, ge_iff_le] at h0
    exact absurd trivial h0

theorem len0 : w0.2.length = 2 := rfl
theorem len1 : ms1.length = 1 := rfl
theorem len2 : ms2.length = 2 := rfl
theorem len3 : ms3.length = 1 := rfl
theorem len4 : ms4.length = 0 := rfl

theorem c_p1 (g b0 b1 b2 : Nat) : Trip Try.prog 22 #[.pointer (some ⟨g, 0, none⟩), .agg #[.int .i64 1, .int .i64 0]] [egroup g (G0 b0 b1 b2)] (fun r Δ => r = .tuple #[] ∧ Δ = [egroup g (G1 b0 b1 b2)]) := by
  have := c_play1 (g := g) (k := 0) (b := b0) (G := G0 b0 b1 b2) (x := EN.new 0 (upTo 3)) (y := w0.1) (out := w0.2) rfl (fitsDec (by decide)).1 (fitsDec (by decide)).2.1 rfl (by decide) ⟨by simp [G0], by simp [G0, len0, len1, len2, len3], by simp [G0], by simp [G0]⟩
  rw [gfin1] at this; exact this

theorem c_p2 (g b0 b1 b2 : Nat) : Trip Try.prog 22 #[.pointer (some ⟨g, 0, none⟩), .agg #[.int .i64 3, .int .i64 0]] [egroup g (G1 b0 b1 b2)] (fun r Δ => r = .tuple #[] ∧ Δ = [egroup g (G2 b0 b1 b2)]) := by
  have := c_play3 (g := g) (k := 1) (j := 0) (b := b1) (G := G1 b0 b1 b2) (x := (EN.new 1 (upTo 3))) (m := wm0) (y1 := w1a.1) (y := w1b.1) (out1 := w1a.2) (out2 := w1b.2) (out := ms1) rfl rfl rfl (fitsDec (by decide)).1 (by decide) (by decide) rfl (fitsDec (by decide)).1 (by decide) (fitsDec (by decide)).2.2 rfl rfl (by decide) ⟨by simp [G1], by simp [G1, len0, len1, len2, len3], by simp [G1], by simp [G1]⟩
  rw [gfin2] at this; exact this

theorem c_p3 (g b0 b1 b2 : Nat) : Trip Try.prog 22 #[.pointer (some ⟨g, 0, none⟩), .agg #[.int .i64 3, .int .i64 2]] [egroup g (G2 b0 b1 b2)] (fun r Δ => r = .tuple #[] ∧ Δ = [egroup g (G3 b0 b1 b2)]) := by
  have := c_play3 (g := g) (k := 0) (j := 2) (b := b0) (G := G2 b0 b1 b2) (x := w0.1) (m := wm2) (y1 := w2a.1) (y := w2b.1) (out1 := w2a.2) (out2 := w2b.2) (out := ms2) rfl rfl rfl (fitsDec (by decide)).1 (by decide) (by decide) rfl (fitsDec (by decide)).1 (by decide) (fitsDec (by decide)).2.2 rfl rfl (by decide) ⟨by simp [G2], by simp [G2, len0, len1, len2, len3], by simp [G2], by simp [G2]⟩
  rw [gfin3] at this; exact this

theorem c_p4 (g b0 b1 b2 : Nat) : Trip Try.prog 22 #[.pointer (some ⟨g, 0, none⟩), .agg #[.int .i64 3, .int .i64 3]] [egroup g (G3 b0 b1 b2)] (fun r Δ => r = .tuple #[] ∧ Δ = [egroup g (G4 b0 b1 b2)]) := by
  have := c_play3 (g := g) (k := 1) (j := 3) (b := b1) (G := G3 b0 b1 b2) (x := w1b.1) (m := wm3) (y1 := w3a.1) (y := w3b.1) (out1 := w3a.2) (out2 := w3b.2) (out := ms3) rfl rfl rfl (fitsDec (by decide)).1 (by decide) (by decide) rfl (fitsDec (by decide)).1 (by decide) (fitsDec (by decide)).2.2 rfl rfl (by decide) ⟨by simp [G3], by simp [G3, len0, len1, len2, len3], by simp [G3], by simp [G3]⟩
  rw [gfin4] at this; exact this

theorem c_p5 (g b0 b1 b2 : Nat) : Trip Try.prog 22 #[.pointer (some ⟨g, 0, none⟩), .agg #[.int .i64 3, .int .i64 5]] [egroup g (G4 b0 b1 b2)] (fun r Δ => r = .tuple #[] ∧ Δ = [egroup g (G5 b0 b1 b2)]) := by
  have := c_play3 (g := g) (k := 0) (j := 5) (b := b0) (G := G4 b0 b1 b2) (x := w2b.1) (m := wm5) (y1 := w4a.1) (y := w4b.1) (out1 := w4a.2) (out2 := w4b.2) (out := ms4) rfl rfl rfl (fitsDec (by decide)).1 (by decide) (by decide) rfl (fitsDec (by decide)).1 (by decide) (fitsDec (by decide)).2.2 rfl rfl (by decide) ⟨by simp [G4], by simp [G4, len0, len1, len2, len3], by simp [G4], by simp [G4]⟩
  rw [gfin5] at this; exact this

theorem c_awake  : Trip Try.prog 5 #[] [] fun r Δ => r = .bool true ∧ Δ = [] := by
  refine Trip.start 171 [.tmp 0] [] Try.func5 rfl Try.ntmps5 rfl trivial rfl ?_
  refine WPC.seqR ?_
  refine L_s (q_assign rfl) rfl ?_
  refine WPL.nil ?_
  refine WPC.seqR ?_
  refine WPL.cons rfl (C1.call (c_call Try.func21 rfl rfl rfl) c_begun3 (by repeat (first | exact Pick.nil | apply Pick.keep (by repeat (first | exact List.Mem.head _ | apply List.Mem.tail)) (by first | exact Pers.cells _ _ _ | exact Pers.slv _ _ _) | apply Pick.cons (by repeat (first | exact Pick1.here | apply Pick1.there)))) rfl ?_)
  rintro _ _ ⟨g, ns, rfl, hns, rfl⟩
  obtain ⟨b0, b1, b2, rfl⟩ := three hns
  refine WPL.imp (Δ := [egroup g (G0 b0 b1 b2)]) (Imp.refl _) ?_
  refine WPL.putS ?_
  refine L_s (q_assign rfl) rfl ?_
  refine WPL.nil ?_
  refine WPC.seq ?_
  refine WPC.seqR ?_
  refine L_s (q_move rfl) rfl ?_
  first | refine L_s (q_ptNilEq un_ptr_pursuivantlaw11_group rfl rfl) rfl ?_ | refine L_s (q_ptNoneEq un_ptr_pursuivantlaw11_group rfl rfl) rfl ?_
  refine WPL.nil ?_
  refine WPC.cond rfl (fun h0 => ?_) (fun h0 => ?_)
  · try simp only [decide_eq_true_eq, decide_eq_false_iff_not, beq_iff_eq, bne_iff_ne, beq_eq_false_iff_ne, bne_eq_false_iff_eq, Bool.not_eq_true', Bool.not_eq_false', Bool.not_eq_eq_eq_not, Bool.not_true, Bool.not_false, ne_eq, Decidable.not_not, Int.not_lt, Int.not_le, gt_iff_lt, ge_iff_le] at h0
    exact absurd h0 (by simp)
  · try simp only [decide_eq_true_eq, decide_eq_false_iff_not, beq_iff_eq, bne_iff_ne, beq_eq_false_iff_ne, bne_eq_false_iff_eq, Bool.not_eq_true', Bool.not_eq_false', Bool.not_eq_eq_eq_not, Bool.not_true, Bool.not_false, ne_eq, Decidable.not_not, Int.not_lt, Int.not_le, gt_iff_lt, ge_iff_le] at h0
    refine WPC.skip ?_
    refine thenQ_n ?_
    refine WPC.seqR ?_
    refine L_s (q_move rfl) rfl ?_
    refine L_s (q_build (cs := [_, _]) pl_pursuivantlaw11_Op rfl rfl) rfl ?_
    refine WPL.cons rfl (C1.call (c_call Try.func22 rfl rfl rfl) (c_p1 g b0 b1 b2) (by repeat (first | exact Pick.nil | apply Pick.keep (by repeat (first | exact List.Mem.head _ | apply List.Mem.tail)) (by first | exact Pers.cells _ _ _ | exact Pers.slv _ _ _) | apply Pick.cons (by repeat (first | exact Pick1.here | apply Pick1.there)))) rfl ?_)
    rintro _ _ ⟨rfl, rfl⟩
    refine WPL.putS ?_
    refine WPL.nil ?_
    refine WPC.seq ?_
    refine WPC.seqR ?_
    refine WPL.exg (L := fun L => egroupL g (G1 b0 b1 b2) L) fun L => WPL.pure fun k1 => WPL.bufFact (sz := 10) (a := L.ma) (m := L.mn) (k := L.mc) (cs := (G1 b0 b1 b2).msgs.flatMap encM) (.tail _ (.tail _ (.head _))) fun k2 => ?_
    obtain ⟨na, nn, nc, ma, mn, mc, ta, tn, tc, la, ln, lc⟩ := L
    dsimp only at k1 k2
    obtain rfl : mn = 2 := by have := k2.len; rw [flat_length encM_len] at this; simp [G1, len0, len1, len2, len3, len4] at this; omega
    obtain rfl : nn = 3 := by have := k1.len; simp [G1] at this; omega
    have hpm : Pl ma := k2.at (by omega) (by omega)
    have hpn : Pl na := k1.at (by omega) (by omega)
    refine WPL.imp (Imp.pick (Δ := [buf 10 ma 2 mc ((G1 b0 b1 b2).msgs.flatMap encM), cells true g 0 [.slice na 3 nc, .slice ma 2 mc, .slice ta tn tc, .slice la ln lc], sl false na ((G1 b0 b1 b2).ns.map ptrE), buf 1 ta tn tc ((G1 b0 b1 b2).terms.map (.int .u64)), buf 1 la ln lc ((G1 b0 b1 b2).leads.map (.int .i64)), enodes (G1 b0 b1 b2).ns]) (by repeat (first | exact Pick.nil | apply Pick.keep (by repeat (first | exact List.Mem.head _ | apply List.Mem.tail)) (by first | exact Pers.cells _ _ _ | exact Pers.slv _ _ _) | apply Pick.cons (by repeat (first | exact Pick1.here | apply Pick1.there))))) ?_
    refine WPL.bufOpen fun sp _ hsp => ?_
    refine L_s (q_move rfl) rfl ?_
    first | refine L_s (q_nilP rfl) rfl ?_ | refine L_s (q_nilF rfl) rfl ?_
    first | refine L_s (q_faK fa_pursuivantlaw11_group_msgs rfl) rfl ?_ | refine L_s (q_fa fa_pursuivantlaw11_group_msgs rfl) rfl ?_
    first | refine L_s (q_load1z ld_sl_api_Msg rfl (by repeat (first | exact List.Mem.head _ | apply List.Mem.tail)) (by rfl)) rfl ?_ | refine L_s (q_load1 ld_sl_api_Msg rfl (by repeat (first | exact List.Mem.head _ | apply List.Mem.tail)) rfl (by rfl)) rfl ?_
    refine L_s (q_len rfl un_sl_api_Msg rfl) rfl ?_
    refine L_s (q_int rfl rfl rfl) rfl ?_
    refine WPL.nil ?_
    refine WPC.cond rfl (fun h1 => ?_) (fun h1 => ?_)
    · try simp only [decide_eq_true_eq, decide_eq_false_iff_not, beq_iff_eq, bne_iff_ne, beq_eq_false_iff_ne, bne_eq_false_iff_eq, Bool.not_eq_true', Bool.not_eq_false', Bool.not_eq_eq_eq_not, Bool.not_true, Bool.not_false, ne_eq, Decidable.not_not, Int.not_lt, Int.not_le, gt_iff_lt, ge_iff_le] at h1
      exact absurd rfl h1
    · try simp only [decide_eq_true_eq, decide_eq_false_iff_not, beq_iff_eq, bne_iff_ne, beq_eq_false_iff_ne, bne_eq_false_iff_eq, Bool.not_eq_true', Bool.not_eq_false', Bool.not_eq_eq_eq_not, Bool.not_true, Bool.not_false, ne_eq, Decidable.not_not, Int.not_lt, Int.not_le, gt_iff_lt, ge_iff_le] at h1
      refine WPC.skip ?_
      refine thenQ_n ?_
      refine WPC.seqR ?_
      refine L_s (q_move rfl) rfl ?_
      first | refine L_s (q_nilP rfl) rfl ?_ | refine L_s (q_nilF rfl) rfl ?_
      first | refine L_s (q_faK fa_pursuivantlaw11_group_msgs rfl) rfl ?_ | refine L_s (q_fa fa_pursuivantlaw11_group_msgs rfl) rfl ?_
      first | refine L_s (q_load1z ld_sl_api_Msg rfl (by repeat (first | exact List.Mem.head _ | apply List.Mem.tail)) (by rfl)) rfl ?_ | refine L_s (q_load1 ld_sl_api_Msg rfl (by repeat (first | exact List.Mem.head _ | apply List.Mem.tail)) rfl (by rfl)) rfl ?_
      first | refine L_s (q_idxN sl_sl_api_Msg rfl rfl (by omega) (by assumption)) rfl ?_ | refine L_s (q_idx sl_sl_api_Msg rfl rfl (by omega) (by omega) (by assumption)) rfl ?_
      first | refine L_s (q_faK fa_api_Msg_Kind rfl) rfl ?_ | refine L_s (q_fa fa_api_Msg_Kind rfl) rfl ?_
      refine L_s (show Q1 _ _ _ _ (.int .i64 3) from q_ldFlat1 (k := 10) (i := 0) (j := 0) (e := wm0) (xs := (G1 b0 b1 b2).msgs) (enc := encM) ld_int rfl (by repeat (first | exact List.Mem.head _ | apply List.Mem.tail)) encM_len rfl (by omega) rfl) rfl ?_
      refine L_s (q_int rfl rfl rfl) rfl ?_
      refine L_s (q_move rfl) rfl ?_
      apply WPL.joinA (e' := [(0, _), (1, _)]) 26 35 9 rfl
      · intro g7_8
        try simp only [decide_eq_true_eq, decide_eq_false_iff_not, beq_iff_eq, bne_iff_ne, beq_eq_false_iff_ne, bne_eq_false_iff_eq, Bool.not_eq_true', Bool.not_eq_false', Bool.not_eq_eq_eq_not, Bool.not_true, Bool.not_false, ne_eq, Decidable.not_not, Int.not_lt, Int.not_le, gt_iff_lt, ge_iff_le] at g7_8
        refine L_yes rfl rfl (q_move rfl) rfl ?_
        first | refine L_yes rfl rfl (q_nilP rfl) rfl ?_ | refine L_yes rfl rfl (q_nilF rfl) rfl ?_
        first | refine L_yes rfl rfl (q_faK fa_pursuivantlaw11_group_msgs rfl) rfl ?_ | refine L_yes rfl rfl (q_fa fa_pursuivantlaw11_group_msgs rfl) rfl ?_
        first | refine L_yes rfl rfl (q_load1z ld_sl_api_Msg rfl (by repeat (first | exact List.Mem.head _ | apply List.Mem.tail)) (by rfl)) rfl ?_ | refine L_yes rfl rfl (q_load1 ld_sl_api_Msg rfl (by repeat (first | exact List.Mem.head _ | apply List.Mem.tail)) rfl (by rfl)) rfl ?_
        first | refine L_yes rfl rfl (q_idxN sl_sl_api_Msg rfl rfl (by omega) (by assumption)) rfl ?_ | refine L_yes rfl rfl (q_idx sl_sl_api_Msg rfl rfl (by omega) (by omega) (by assumption)) rfl ?_
        first | refine L_yes rfl rfl (q_faK fa_api_Msg_To rfl) rfl ?_ | refine L_yes rfl rfl (q_fa fa_api_Msg_To rfl) rfl ?_
        refine L_yes rfl rfl (show Q1 _ _ _ _ (.int .i64 1) from q_ldFlat1 (k := 10) (i := 0) (j := 2) (e := wm0) (xs := (G1 b0 b1 b2).msgs) (enc := encM) ld_int rfl (by repeat (first | exact List.Mem.head _ | apply List.Mem.tail)) encM_len rfl (by omega) rfl) rfl ?_
        refine L_yes rfl rfl (q_int rfl rfl rfl) rfl ?_
        first | refine L_s (q_pickT rfl rfl) rfl ?_ | refine L_s (q_pickF rfl rfl) rfl ?_
        first | exact WPL.jn rfl rfl (by repeat (first | exact trivial | refine ⟨rfl, ?_⟩)) | exact WPL.jnI rfl rfl (by repeat (first | exact trivial | refine ⟨rfl, ?_⟩)) (Imp.pick (by repeat (first | exact Pick.nil | apply Pick.keep (by repeat (first | exact List.Mem.head _ | apply List.Mem.tail)) (by first | exact Pers.cells _ _ _ | exact Pers.slv _ _ _) | apply Pick.cons (by repeat (first | exact Pick1.here | apply Pick1.there)))))
      · intro g7_8
        try simp only [decide_eq_true_eq, decide_eq_false_iff_not, beq_iff_eq, bne_iff_ne, beq_eq_false_iff_ne, bne_eq_false_iff_eq, Bool.not_eq_true', Bool.not_eq_false', Bool.not_eq_eq_eq_not, Bool.not_true, Bool.not_false, ne_eq, Decidable.not_not, Int.not_lt, Int.not_le, gt_iff_lt, ge_iff_le] at g7_8
        refine L_no rfl rfl rfl rfl ?_
        refine L_no rfl rfl rfl rfl ?_
        refine L_no rfl rfl rfl rfl ?_
        refine L_no rfl rfl rfl rfl ?_
        refine L_no rfl rfl rfl rfl ?_
        refine L_no rfl rfl rfl rfl ?_
        refine L_no rfl rfl rfl rfl ?_
        refine L_no rfl rfl rfl rfl ?_
        first | refine L_s (q_pickT rfl rfl) rfl ?_ | refine L_s (q_pickF rfl rfl) rfl ?_
        first | exact WPL.jn rfl rfl (by repeat (first | exact trivial | refine ⟨rfl, ?_⟩)) | exact WPL.jnI rfl rfl (by repeat (first | exact trivial | refine ⟨rfl, ?_⟩)) (Imp.pick (by repeat (first | exact Pick.nil | apply Pick.keep (by repeat (first | exact List.Mem.head _ | apply List.Mem.tail)) (by first | exact Pers.cells _ _ _ | exact Pers.slv _ _ _) | apply Pick.cons (by repeat (first | exact Pick1.here | apply Pick1.there)))))
      refine L_s (q_move rfl) rfl ?_
      apply WPL.joinA (e' := [(0, _), (1, _)]) 36 45 9 rfl
      · intro g7_18
        try simp only [decide_eq_true_eq, decide_eq_false_iff_not, beq_iff_eq, bne_iff_ne, beq_eq_false_iff_ne, bne_eq_false_iff_eq, Bool.not_eq_true', Bool.not_eq_false', Bool.not_eq_eq_eq_not, Bool.not_true, Bool.not_false, ne_eq, Decidable.not_not, Int.not_lt, Int.not_le, gt_iff_lt, ge_iff_le] at g7_18
        refine L_yes rfl rfl (q_move rfl) rfl ?_
        first | refine L_yes rfl rfl (q_nilP rfl) rfl ?_ | refine L_yes rfl rfl (q_nilF rfl) rfl ?_
        first | refine L_yes rfl rfl (q_faK fa_pursuivantlaw11_group_msgs rfl) rfl ?_ | refine L_yes rfl rfl (q_fa fa_pursuivantlaw11_group_msgs rfl) rfl ?_
        first | refine L_yes rfl rfl (q_load1z ld_sl_api_Msg rfl (by repeat (first | exact List.Mem.head _ | apply List.Mem.tail)) (by rfl)) rfl ?_ | refine L_yes rfl rfl (q_load1 ld_sl_api_Msg rfl (by repeat (first | exact List.Mem.head _ | apply List.Mem.tail)) rfl (by rfl)) rfl ?_
        first | refine L_yes rfl rfl (q_idxN sl_sl_api_Msg rfl rfl (by omega) (by assumption)) rfl ?_ | refine L_yes rfl rfl (q_idx sl_sl_api_Msg rfl rfl (by omega) (by omega) (by assumption)) rfl ?_
        first | refine L_yes rfl rfl (q_faK fa_api_Msg_Term rfl) rfl ?_ | refine L_yes rfl rfl (q_fa fa_api_Msg_Term rfl) rfl ?_
        refine L_yes rfl rfl (show Q1 _ _ _ _ (.int .u64 1) from q_ldFlat1 (k := 10) (i := 0) (j := 3) (e := wm0) (xs := (G1 b0 b1 b2).msgs) (enc := encM) ld_uint64 rfl (by repeat (first | exact List.Mem.head _ | apply List.Mem.tail)) encM_len rfl (by omega) rfl) rfl ?_
        refine L_yes rfl rfl (q_int rfl rfl rfl) rfl ?_
        first | refine L_s (q_pickT rfl rfl) rfl ?_ | refine L_s (q_pickF rfl rfl) rfl ?_
        first | exact WPL.jn rfl rfl (by repeat (first | exact trivial | refine ⟨rfl, ?_⟩)) | exact WPL.jnI rfl rfl (by repeat (first | exact trivial | refine ⟨rfl, ?_⟩)) (Imp.pick (by repeat (first | exact Pick.nil | apply Pick.keep (by repeat (first | exact List.Mem.head _ | apply List.Mem.tail)) (by first | exact Pers.cells _ _ _ | exact Pers.slv _ _ _) | apply Pick.cons (by repeat (first | exact Pick1.here | apply Pick1.there)))))
      · intro g7_18
        try simp only [decide_eq_true_eq, decide_eq_false_iff_not, beq_iff_eq, bne_iff_ne, beq_eq_false_iff_ne, bne_eq_false_iff_eq, Bool.not_eq_true', Bool.not_eq_false', Bool.not_eq_eq_eq_not, Bool.not_true, Bool.not_false, ne_eq, Decidable.not_not, Int.not_lt, Int.not_le, gt_iff_lt, ge_iff_le] at g7_18
        refine L_no rfl rfl rfl rfl ?_
        refine L_no rfl rfl rfl rfl ?_
        refine L_no rfl rfl rfl rfl ?_
        refine L_no rfl rfl rfl rfl ?_
        refine L_no rfl rfl rfl rfl ?_
        refine L_no rfl rfl rfl rfl ?_
        refine L_no rfl rfl rfl rfl ?_
        refine L_no rfl rfl rfl rfl ?_
        first | refine L_s (q_pickT rfl rfl) rfl ?_ | refine L_s (q_pickF rfl rfl) rfl ?_
        first | exact WPL.jn rfl rfl (by repeat (first | exact trivial | refine ⟨rfl, ?_⟩)) | exact WPL.jnI rfl rfl (by repeat (first | exact trivial | refine ⟨rfl, ?_⟩)) (Imp.pick (by repeat (first | exact Pick.nil | apply Pick.keep (by repeat (first | exact List.Mem.head _ | apply List.Mem.tail)) (by first | exact Pers.cells _ _ _ | exact Pers.slv _ _ _) | apply Pick.cons (by repeat (first | exact Pick1.here | apply Pick1.there)))))
      refine L_s (q_assign rfl) rfl ?_
      refine WPL.nil ?_
      refine WPC.seqR ?_
      refine L_s (q_move rfl) rfl ?_
      refine L_s (q_build (cs := [_, _]) pl_pursuivantlaw11_Op rfl rfl) rfl ?_
      refine WPL.imp ((Imp.pick (Δ := [sl true ma ((G1 b0 b1 b2).msgs.flatMap encM), cells true (blk ma) (off ma + ((G1 b0 b1 b2).msgs.flatMap encM).length) sp, cells true g 0 [.slice na 3 nc, .slice ma 2 mc, .slice ta tn tc, .slice la ln lc], sl false na ((G1 b0 b1 b2).ns.map ptrE), buf 1 ta tn tc ((G1 b0 b1 b2).terms.map (.int .u64)), buf 1 la ln lc ((G1 b0 b1 b2).leads.map (.int .i64)), enodes (G1 b0 b1 b2).ns]) (by repeat (first | exact Pick.nil | apply Pick.keep (by repeat (first | exact List.Mem.head _ | apply List.Mem.tail)) (by first | exact Pers.cells _ _ _ | exact Pers.slv _ _ _) | apply Pick.cons (by repeat (first | exact Pick1.here | apply Pick1.there))))).trans (Imp.bufClose k2 hsp)) ?_
      refine WPL.imp ((Imp.pick (by repeat (first | exact Pick.nil | apply Pick.keep (by repeat (first | exact List.Mem.head _ | apply List.Mem.tail)) (by first | exact Pers.cells _ _ _ | exact Pers.slv _ _ _) | apply Pick.cons (by repeat (first | exact Pick1.here | apply Pick1.there))))).trans (egroup_close (g := g) (G := (G1 b0 b1 b2)) ⟨na, 3, nc, ma, 2, mc, ta, tn, tc, la, ln, lc⟩ k1 (Γ := []))) ?_
      refine WPL.cons rfl (C1.call (c_call Try.func22 rfl rfl rfl) (c_p2 g b0 b1 b2) (by repeat (first | exact Pick.nil | apply Pick.keep (by repeat (first | exact List.Mem.head _ | apply List.Mem.tail)) (by first | exact Pers.cells _ _ _ | exact Pers.slv _ _ _) | apply Pick.cons (by repeat (first | exact Pick1.here | apply Pick1.there)))) rfl ?_)
      rintro _ _ ⟨rfl, rfl⟩
      refine WPL.putS ?_
      refine WPL.nil ?_
      refine WPC.seqR ?_
      refine WPL.exg (L := fun L => egroupL g (G2 b0 b1 b2) L) fun L => WPL.pure fun k1 => WPL.bufFact (sz := 10) (a := L.ma) (m := L.mn) (k := L.mc) (cs := (G2 b0 b1 b2).msgs.flatMap encM) (.tail _ (.tail _ (.head _))) fun k2 => ?_
      obtain ⟨na, nn, nc, ma, mn, mc, ta, tn, tc, la, ln, lc⟩ := L
      dsimp only at k1 k2
      obtain rfl : mn = 3 := by have := k2.len; rw [flat_length encM_len] at this; simp [G2, len0, len1, len2, len3, len4] at this; omega
      obtain rfl : nn = 3 := by have := k1.len; simp [G2] at this; omega
      have hpm : Pl ma := k2.at (by omega) (by omega)
      have hpn : Pl na := k1.at (by omega) (by omega)
      refine WPL.imp (Imp.pick (Δ := [buf 10 ma 3 mc ((G2 b0 b1 b2).msgs.flatMap encM), cells true g 0 [.slice na 3 nc, .slice ma 3 mc, .slice ta tn tc, .slice la ln lc], sl false na ((G2 b0 b1 b2).ns.map ptrE), buf 1 ta tn tc ((G2 b0 b1 b2).terms.map (.int .u64)), buf 1 la ln lc ((G2 b0 b1 b2).leads.map (.int .i64)), enodes (G2 b0 b1 b2).ns]) (by repeat (first | exact Pick.nil | apply Pick.keep (by repeat (first | exact List.Mem.head _ | apply List.Mem.tail)) (by first | exact Pers.cells _ _ _ | exact Pers.slv _ _ _) | apply Pick.cons (by repeat (first | exact Pick1.here | apply Pick1.there))))) ?_
      refine WPL.bufOpen fun sp _ hsp => ?_
      refine WPL.imp (Imp.pick (Δ := [grp [enode b0 0 w0.1, enode b1 0 w1b.1, enode b2 0 (EN.new 2 (upTo 3))], sl true ma ((G2 b0 b1 b2).msgs.flatMap encM), cells true (blk ma) (off ma + ((G2 b0 b1 b2).msgs.flatMap encM).length) sp, cells true g 0 [.slice na 3 nc, .slice ma 3 mc, .slice ta tn tc, .slice la ln lc], sl false na ((G2 b0 b1 b2).ns.map ptrE), buf 1 ta tn tc ((G2 b0 b1 b2).terms.map (.int .u64)), buf 1 la ln lc ((G2 b0 b1 b2).leads.map (.int .i64))]) (by repeat (first | exact Pick.nil | apply Pick.keep (by repeat (first | exact List.Mem.head _ | apply List.Mem.tail)) (by first | exact Pers.cells _ _ _ | exact Pers.slv _ _ _) | apply Pick.cons (by repeat (first | exact Pick1.here | apply Pick1.there))))) ?_
      refine WPL.grp (L := [enode b0 0 w0.1, enode b1 0 w1b.1, enode b2 0 (EN.new 2 (upTo 3))]) ?_
      refine WPL.imp (Imp.pick (Δ := [enode b1 0 w1b.1, enode b0 0 w0.1, enode b2 0 (EN.new 2 (upTo 3)), sl true ma ((G2 b0 b1 b2).msgs.flatMap encM), cells true (blk ma) (off ma + ((G2 b0 b1 b2).msgs.flatMap encM).length) sp, cells true g 0 [.slice na 3 nc, .slice ma 3 mc, .slice ta tn tc, .slice la ln lc], sl false na ((G2 b0 b1 b2).ns.map ptrE), buf 1 ta tn tc ((G2 b0 b1 b2).terms.map (.int .u64)), buf 1 la ln lc ((G2 b0 b1 b2).leads.map (.int .i64))]) (by repeat (first | exact Pick.nil | apply Pick.keep (by repeat (first | exact List.Mem.head _ | apply List.Mem.tail)) (by first | exact Pers.cells _ _ _ | exact Pers.slv _ _ _) | apply Pick.cons (by repeat (first | exact Pick1.here | apply Pick1.there))))) ?_
      refine WPL.exg (L := fun N => enodeL b1 0 w1b.1 N) fun N1 => WPL.pure fun hN1 => ?_
      refine L_s (q_move rfl) rfl ?_
      first | refine L_s (q_nilP rfl) rfl ?_ | refine L_s (q_nilF rfl) rfl ?_
      first | refine L_s (q_faK fa_pursuivantlaw11_group_msgs rfl) rfl ?_ | refine L_s (q_fa fa_pursuivantlaw11_group_msgs rfl) rfl ?_
      first | refine L_s (q_load1z ld_sl_api_Msg rfl (by repeat (first | exact List.Mem.head _ | apply List.Mem.tail)) (by rfl)) rfl ?_ | refine L_s (q_load1 ld_sl_api_Msg rfl (by repeat (first | exact List.Mem.head _ | apply List.Mem.tail)) rfl (by rfl)) rfl ?_
      refine L_s (q_len rfl un_sl_api_Msg rfl) rfl ?_
      refine L_s (q_int rfl rfl rfl) rfl ?_
      refine L_s (q_move rfl) rfl ?_
      apply WPL.joinA (e' := [(0, _), (1, _), (2, _)]) 55 64 9 rfl
      · intro g9_6
        try simp only [decide_eq_true_eq, decide_eq_false_iff_not, beq_iff_eq, bne_iff_ne, beq_eq_false_iff_ne, bne_eq_false_iff_eq, Bool.not_eq_true', Bool.not_eq_false', Bool.not_eq_eq_eq_not, Bool.not_true, Bool.not_false, ne_eq, Decidable.not_not, Int.not_lt, Int.not_le, gt_iff_lt, ge_iff_le] at g9_6
        refine L_yes rfl rfl (q_move rfl) rfl ?_
        first | refine L_yes rfl rfl (q_nilP rfl) rfl ?_ | refine L_yes rfl rfl (q_nilF rfl) rfl ?_
        first | refine L_yes rfl rfl (q_faK fa_pursuivantlaw11_group_msgs rfl) rfl ?_ | refine L_yes rfl rfl (q_fa fa_pursuivantlaw11_group_msgs rfl) rfl ?_
        first | refine L_yes rfl rfl (q_load1z ld_sl_api_Msg rfl (by repeat (first | exact List.Mem.head _ | apply List.Mem.tail)) (by rfl)) rfl ?_ | refine L_yes rfl rfl (q_load1 ld_sl_api_Msg rfl (by repeat (first | exact List.Mem.head _ | apply List.Mem.tail)) rfl (by rfl)) rfl ?_
        first | refine L_yes rfl rfl (q_idxN sl_sl_api_Msg rfl rfl (by omega) (by assumption)) rfl ?_ | refine L_yes rfl rfl (q_idx sl_sl_api_Msg rfl rfl (by omega) (by omega) (by assumption)) rfl ?_
        first | refine L_yes rfl rfl (q_faK fa_api_Msg_Kind rfl) rfl ?_ | refine L_yes rfl rfl (q_fa fa_api_Msg_Kind rfl) rfl ?_
        refine L_yes rfl rfl (show Q1 _ _ _ _ (.int .i64 4) from q_ldFlat1 (k := 10) (i := 2) (j := 0) (e := wm2) (xs := (G2 b0 b1 b2).msgs) (enc := encM) ld_int rfl (by repeat (first | exact List.Mem.head _ | apply List.Mem.tail)) encM_len rfl (by omega) rfl) rfl ?_
        refine L_yes rfl rfl (q_int rfl rfl rfl) rfl ?_
        first | refine L_s (q_pickT rfl rfl) rfl ?_ | refine L_s (q_pickF rfl rfl) rfl ?_
        first | exact WPL.jn rfl rfl (by repeat (first | exact trivial | refine ⟨rfl, ?_⟩)) | exact WPL.jnI rfl rfl (by repeat (first | exact trivial | refine ⟨rfl, ?_⟩)) (Imp.pick (by repeat (first | exact Pick.nil | apply Pick.keep (by repeat (first | exact List.Mem.head _ | apply List.Mem.tail)) (by first | exact Pers.cells _ _ _ | exact Pers.slv _ _ _) | apply Pick.cons (by repeat (first | exact Pick1.here | apply Pick1.there)))))
      · intro g9_6
        try simp only [decide_eq_true_eq, decide_eq_false_iff_not, beq_iff_eq, bne_iff_ne, beq_eq_false_iff_ne, bne_eq_false_iff_eq, Bool.not_eq_true', Bool.not_eq_false', Bool.not_eq_eq_eq_not, Bool.not_true, Bool.not_false, ne_eq, Decidable.not_not, Int.not_lt, Int.not_le, gt_iff_lt, ge_iff_le] at g9_6
        refine L_no rfl rfl rfl rfl ?_
        refine L_no rfl rfl rfl rfl ?_
        refine L_no rfl rfl rfl rfl ?_
        refine L_no rfl rfl rfl rfl ?_
        refine L_no rfl rfl rfl rfl ?_
        refine L_no rfl rfl rfl rfl ?_
        refine L_no rfl rfl rfl rfl ?_
        refine L_no rfl rfl rfl rfl ?_
        first | refine L_s (q_pickT rfl rfl) rfl ?_ | refine L_s (q_pickF rfl rfl) rfl ?_
        first | exact WPL.jn rfl rfl (by repeat (first | exact trivial | refine ⟨rfl, ?_⟩)) | exact WPL.jnI rfl rfl (by repeat (first | exact trivial | refine ⟨rfl, ?_⟩)) (Imp.pick (by repeat (first | exact Pick.nil | apply Pick.keep (by repeat (first | exact List.Mem.head _ | apply List.Mem.tail)) (by first | exact Pers.cells _ _ _ | exact Pers.slv _ _ _) | apply Pick.cons (by repeat (first | exact Pick1.here | apply Pick1.there)))))
      refine L_s (q_move rfl) rfl ?_
      apply WPL.joinA (e' := [(0, _), (1, _), (2, _)]) 65 73 8 rfl
      · intro g9_16
        try simp only [decide_eq_true_eq, decide_eq_false_iff_not, beq_iff_eq, bne_iff_ne, beq_eq_false_iff_ne, bne_eq_false_iff_eq, Bool.not_eq_true', Bool.not_eq_false', Bool.not_eq_eq_eq_not, Bool.not_true, Bool.not_false, ne_eq, Decidable.not_not, Int.not_lt, Int.not_le, gt_iff_lt, ge_iff_le] at g9_16
        refine L_yes rfl rfl (q_move rfl) rfl ?_
        first | refine L_yes rfl rfl (q_nilP rfl) rfl ?_ | refine L_yes rfl rfl (q_nilF rfl) rfl ?_
        first | refine L_yes rfl rfl (q_faK fa_pursuivantlaw11_group_msgs rfl) rfl ?_ | refine L_yes rfl rfl (q_fa fa_pursuivantlaw11_group_msgs rfl) rfl ?_
        first | refine L_yes rfl rfl (q_load1z ld_sl_api_Msg rfl (by repeat (first | exact List.Mem.head _ | apply List.Mem.tail)) (by rfl)) rfl ?_ | refine L_yes rfl rfl (q_load1 ld_sl_api_Msg rfl (by repeat (first | exact List.Mem.head _ | apply List.Mem.tail)) rfl (by rfl)) rfl ?_
        first | refine L_yes rfl rfl (q_idxN sl_sl_api_Msg rfl rfl (by omega) (by assumption)) rfl ?_ | refine L_yes rfl rfl (q_idx sl_sl_api_Msg rfl rfl (by omega) (by omega) (by assumption)) rfl ?_
        first | refine L_yes rfl rfl (q_faK fa_api_Msg_OK rfl) rfl ?_ | refine L_yes rfl rfl (q_fa fa_api_Msg_OK rfl) rfl ?_
        refine L_yes rfl rfl (show Q1 _ _ _ _ (.bool true) from q_ldFlat1 (k := 10) (i := 2) (j := 7) (e := wm2) (xs := (G2 b0 b1 b2).msgs) (enc := encM) ld_bool rfl (by repeat (first | exact List.Mem.head _ | apply List.Mem.tail)) encM_len rfl (by omega) rfl) rfl ?_
        first | refine L_s (q_pickT rfl rfl) rfl ?_ | refine L_s (q_pickF rfl rfl) rfl ?_
        first | exact WPL.jn rfl rfl (by repeat (first | exact trivial | refine ⟨rfl, ?_⟩)) | exact WPL.jnI rfl rfl (by repeat (first | exact trivial | refine ⟨rfl, ?_⟩)) (Imp.pick (by repeat (first | exact Pick.nil | apply Pick.keep (by repeat (first | exact List.Mem.head _ | apply List.Mem.tail)) (by first | exact Pers.cells _ _ _ | exact Pers.slv _ _ _) | apply Pick.cons (by repeat (first | exact Pick1.here | apply Pick1.there)))))
      · intro g9_16
        try simp only [decide_eq_true_eq, decide_eq_false_iff_not, beq_iff_eq, bne_iff_ne, beq_eq_false_iff_ne, bne_eq_false_iff_eq, Bool.not_eq_true', Bool.not_eq_false', Bool.not_eq_eq_eq_not, Bool.not_true, Bool.not_false, ne_eq, Decidable.not_not, Int.not_lt, Int.not_le, gt_iff_lt, ge_iff_le] at g9_16
        refine L_no rfl rfl rfl rfl ?_
        refine L_no rfl rfl rfl rfl ?_
        refine L_no rfl rfl rfl rfl ?_
        refine L_no rfl rfl rfl rfl ?_
        refine L_no rfl rfl rfl rfl ?_
        refine L_no rfl rfl rfl rfl ?_
        refine L_no rfl rfl rfl rfl ?_
        first | refine L_s (q_pickT rfl rfl) rfl ?_ | refine L_s (q_pickF rfl rfl) rfl ?_
        first | exact WPL.jn rfl rfl (by repeat (first | exact trivial | refine ⟨rfl, ?_⟩)) | exact WPL.jnI rfl rfl (by repeat (first | exact trivial | refine ⟨rfl, ?_⟩)) (Imp.pick (by repeat (first | exact Pick.nil | apply Pick.keep (by repeat (first | exact List.Mem.head _ | apply List.Mem.tail)) (by first | exact Pers.cells _ _ _ | exact Pers.slv _ _ _) | apply Pick.cons (by repeat (first | exact Pick1.here | apply Pick1.there)))))
      refine L_s (q_move rfl) rfl ?_
      apply WPL.joinA (e' := [(0, _), (1, _), (2, _)]) 74 85 11 rfl
      · intro g9_25
        try simp only [decide_eq_true_eq, decide_eq_false_iff_not, beq_iff_eq, bne_iff_ne, beq_eq_false_iff_ne, bne_eq_false_iff_eq, Bool.not_eq_true', Bool.not_eq_false', Bool.not_eq_eq_eq_not, Bool.not_true, Bool.not_false, ne_eq, Decidable.not_not, Int.not_lt, Int.not_le, gt_iff_lt, ge_iff_le] at g9_25
        refine L_yes rfl rfl (q_move rfl) rfl ?_
        first | refine L_yes rfl rfl (q_nilP rfl) rfl ?_ | refine L_yes rfl rfl (q_nilF rfl) rfl ?_
        first | refine L_yes rfl rfl (q_faK fa_pursuivantlaw11_group_nodes rfl) rfl ?_ | refine L_yes rfl rfl (q_fa fa_pursuivantlaw11_group_nodes rfl) rfl ?_
        first | refine L_yes rfl rfl (q_load1z ld_sl_ptr_elect_Node rfl (by repeat (first | exact List.Mem.head _ | apply List.Mem.tail)) (by rfl)) rfl ?_ | refine L_yes rfl rfl (q_load1 ld_sl_ptr_elect_Node rfl (by repeat (first | exact List.Mem.head _ | apply List.Mem.tail)) rfl (by rfl)) rfl ?_
        first | refine L_yes rfl rfl (q_idxN sl_sl_ptr_elect_Node rfl rfl (by omega) (by assumption)) rfl ?_ | refine L_yes rfl rfl (q_idx sl_sl_ptr_elect_Node rfl rfl (by omega) (by omega) (by assumption)) rfl ?_
        refine L_yes rfl rfl (show Q1 _ _ _ _ (.pointer (some ⟨b1, 0, none⟩)) from q_ldMap (f := ptrE) (i := 1) (xs := (G2 b0 b1 b2).ns) (e := (b1, w1b.1)) ld_ptr_elect_Node rfl (by repeat (first | exact List.Mem.head _ | apply List.Mem.tail)) rfl) rfl ?_
        first | refine L_yes rfl rfl (q_nilP rfl) rfl ?_ | refine L_yes rfl rfl (q_nilF rfl) rfl ?_
        first | refine L_yes rfl rfl (q_faK fa_elect_Node_Term rfl) rfl ?_ | refine L_yes rfl rfl (q_fa fa_elect_Node_Term rfl) rfl ?_
        first | refine L_yes rfl rfl (q_load1z ld_uint64 rfl (by repeat (first | exact List.Mem.head _ | apply List.Mem.tail)) (by rfl)) rfl ?_ | refine L_yes rfl rfl (q_load1 ld_uint64 rfl (by repeat (first | exact List.Mem.head _ | apply List.Mem.tail)) rfl (by rfl)) rfl ?_
        refine L_yes rfl rfl (q_int rfl rfl rfl) rfl ?_
        first | refine L_s (q_pickT rfl rfl) rfl ?_ | refine L_s (q_pickF rfl rfl) rfl ?_
        first | exact WPL.jn rfl rfl (by repeat (first | exact trivial | refine ⟨rfl, ?_⟩)) | exact WPL.jnI rfl rfl (by repeat (first | exact trivial | refine ⟨rfl, ?_⟩)) (Imp.pick (by repeat (first | exact Pick.nil | apply Pick.keep (by repeat (first | exact List.Mem.head _ | apply List.Mem.tail)) (by first | exact Pers.cells _ _ _ | exact Pers.slv _ _ _) | apply Pick.cons (by repeat (first | exact Pick1.here | apply Pick1.there)))))
      · intro g9_25
        try simp only [decide_eq_true_eq, decide_eq_false_iff_not, beq_iff_eq, bne_iff_ne, beq_eq_false_iff_ne, bne_eq_false_iff_eq, Bool.not_eq_true', Bool.not_eq_false', Bool.not_eq_eq_eq_not, Bool.not_true, Bool.not_false, ne_eq, Decidable.not_not, Int.not_lt, Int.not_le, gt_iff_lt, ge_iff_le] at g9_25
        refine L_no rfl rfl rfl rfl ?_
        refine L_no rfl rfl rfl rfl ?_
        refine L_no rfl rfl rfl rfl ?_
        refine L_no rfl rfl rfl rfl ?_
        refine L_no rfl rfl rfl rfl ?_
        refine L_no rfl rfl rfl rfl ?_
        refine L_no rfl rfl rfl rfl ?_
        refine L_no rfl rfl rfl rfl ?_
        refine L_no rfl rfl rfl rfl ?_
        refine L_no rfl rfl rfl rfl ?_
        first | refine L_s (q_pickT rfl rfl) rfl ?_ | refine L_s (q_pickF rfl rfl) rfl ?_
        first | exact WPL.jn rfl rfl (by repeat (first | exact trivial | refine ⟨rfl, ?_⟩)) | exact WPL.jnI rfl rfl (by repeat (first | exact trivial | refine ⟨rfl, ?_⟩)) (Imp.pick (by repeat (first | exact Pick.nil | apply Pick.keep (by repeat (first | exact List.Mem.head _ | apply List.Mem.tail)) (by first | exact Pers.cells _ _ _ | exact Pers.slv _ _ _) | apply Pick.cons (by repeat (first | exact Pick1.here | apply Pick1.there)))))
      refine L_s (q_assign rfl) rfl ?_
      refine WPL.nil ?_
      refine WPC.seqR ?_
      refine L_s (q_move rfl) rfl ?_
      refine L_s (q_build (cs := [_, _]) pl_pursuivantlaw11_Op rfl rfl) rfl ?_
      refine WPL.imp ((Imp.pick (Δ := [cells true b1 0 (nodeC w1b.1 N1), sl false N1.ca (w1b.1.conf.map (.int .i64)), buf 1 N1.ya N1.yn N1.yc (w1b.1.yes.map (.int .i64)), sl false N1.ea (w1b.1.es.flatMap encE), cells true N1.na 0 (w1b.1.next.map (.int .u64)), cells true N1.ma 0 (w1b.1.mtch.map (.int .u64)), enode b0 0 w0.1, enode b2 0 (EN.new 2 (upTo 3)), sl true ma ((G2 b0 b1 b2).msgs.flatMap encM), cells true (blk ma) (off ma + ((G2 b0 b1 b2).msgs.flatMap encM).length) sp, cells true g 0 [.slice na 3 nc, .slice ma 3 mc, .slice ta tn tc, .slice la ln lc], sl false na ((G2 b0 b1 b2).ns.map ptrE), buf 1 ta tn tc ((G2 b0 b1 b2).terms.map (.int .u64)), buf 1 la ln lc ((G2 b0 b1 b2).leads.map (.int .i64))]) (by repeat (first | exact Pick.nil | apply Pick.keep (by repeat (first | exact List.Mem.head _ | apply List.Mem.tail)) (by first | exact Pers.cells _ _ _ | exact Pers.slv _ _ _) | apply Pick.cons (by repeat (first | exact Pick1.here | apply Pick1.there))))).trans (enode_close (x := w1b.1) (b := b1) (o := 0) N1 hN1)) ?_
      refine WPL.imp ((Imp.pick (Δ := [enode b0 0 w0.1, enode b1 0 w1b.1, enode b2 0 (EN.new 2 (upTo 3)), sl true ma ((G2 b0 b1 b2).msgs.flatMap encM), cells true (blk ma) (off ma + ((G2 b0 b1 b2).msgs.flatMap encM).length) sp, cells true g 0 [.slice na 3 nc, .slice ma 3 mc, .slice ta tn tc, .slice la ln lc], sl false na ((G2 b0 b1 b2).ns.map ptrE), buf 1 ta tn tc ((G2 b0 b1 b2).terms.map (.int .u64)), buf 1 la ln lc ((G2 b0 b1 b2).leads.map (.int .i64))]) (by repeat (first | exact Pick.nil | apply Pick.keep (by repeat (first | exact List.Mem.head _ | apply List.Mem.tail)) (by first | exact Pers.cells _ _ _ | exact Pers.slv _ _ _) | apply Pick.cons (by repeat (first | exact Pick1.here | apply Pick1.there))))).trans (Imp.mkGrp (L := [enode b0 0 w0.1, enode b1 0 w1b.1, enode b2 0 (EN.new 2 (upTo 3))]) (Γ := [sl true ma ((G2 b0 b1 b2).msgs.flatMap encM), cells true (blk ma) (off ma + ((G2 b0 b1 b2).msgs.flatMap encM).length) sp, cells true g 0 [.slice na 3 nc, .slice ma 3 mc, .slice ta tn tc, .slice la ln lc], sl false na ((G2 b0 b1 b2).ns.map ptrE), buf 1 ta tn tc ((G2 b0 b1 b2).terms.map (.int .u64)), buf 1 la ln lc ((G2 b0 b1 b2).leads.map (.int .i64))]))) ?_
      refine WPL.imp ((Imp.pick (Δ := [sl true ma ((G2 b0 b1 b2).msgs.flatMap encM), cells true (blk ma) (off ma + ((G2 b0 b1 b2).msgs.flatMap encM).length) sp, cells true g 0 [.slice na 3 nc, .slice ma 3 mc, .slice ta tn tc, .slice la ln lc], sl false na ((G2 b0 b1 b2).ns.map ptrE), buf 1 ta tn tc ((G2 b0 b1 b2).terms.map (.int .u64)), buf 1 la ln lc ((G2 b0 b1 b2).leads.map (.int .i64)), grp [enode b0 0 w0.1, enode b1 0 w1b.1, enode b2 0 (EN.new 2 (upTo 3))]]) (by repeat (first | exact Pick.nil | apply Pick.keep (by repeat (first | exact List.Mem.head _ | apply List.Mem.tail)) (by first | exact Pers.cells _ _ _ | exact Pers.slv _ _ _) | apply Pick.cons (by repeat (first | exact Pick1.here | apply Pick1.there))))).trans (Imp.bufClose k2 hsp)) ?_
      refine WPL.imp ((Imp.pick (by repeat (first | exact Pick.nil | apply Pick.keep (by repeat (first | exact List.Mem.head _ | apply List.Mem.tail)) (by first | exact Pers.cells _ _ _ | exact Pers.slv _ _ _) | apply Pick.cons (by repeat (first | exact Pick1.here | apply Pick1.there))))).trans (egroup_close (g := g) (G := (G2 b0 b1 b2)) ⟨na, 3, nc, ma, 3, mc, ta, tn, tc, la, ln, lc⟩ k1 (Γ := []))) ?_
      refine WPL.cons rfl (C1.call (c_call Try.func22 rfl rfl rfl) (c_p3 g b0 b1 b2) (by repeat (first | exact Pick.nil | apply Pick.keep (by repeat (first | exact List.Mem.head _ | apply List.Mem.tail)) (by first | exact Pers.cells _ _ _ | exact Pers.slv _ _ _) | apply Pick.cons (by repeat (first | exact Pick1.here | apply Pick1.there)))) rfl ?_)
      rintro _ _ ⟨rfl, rfl⟩
      refine WPL.putS ?_
      refine WPL.nil ?_
      refine WPC.seqR ?_
      refine WPL.exg (L := fun L => egroupL g (G3 b0 b1 b2) L) fun L => WPL.pure fun k1 => WPL.bufFact (sz := 10) (a := L.ma) (m := L.mn) (k := L.mc) (cs := (G3 b0 b1 b2).msgs.flatMap encM) (.tail _ (.tail _ (.head _))) fun k2 => ?_
      obtain ⟨na, nn, nc, ma, mn, mc, ta, tn, tc, la, ln, lc⟩ := L
      dsimp only at k1 k2
      obtain rfl : mn = 5 := by have := k2.len; rw [flat_length encM_len] at this; simp [G3, len0, len1, len2, len3, len4] at this; omega
      obtain rfl : nn = 3 := by have := k1.len; simp [G3] at this; omega
      have hpm : Pl ma := k2.at (by omega) (by omega)
      have hpn : Pl na := k1.at (by omega) (by omega)
      refine WPL.imp (Imp.pick (Δ := [buf 10 ma 5 mc ((G3 b0 b1 b2).msgs.flatMap encM), cells true g 0 [.slice na 3 nc, .slice ma 5 mc, .slice ta tn tc, .slice la ln lc], sl false na ((G3 b0 b1 b2).ns.map ptrE), buf 1 ta tn tc ((G3 b0 b1 b2).terms.map (.int .u64)), buf 1 la ln lc ((G3 b0 b1 b2).leads.map (.int .i64)), enodes (G3 b0 b1 b2).ns]) (by repeat (first | exact Pick.nil | apply Pick.keep (by repeat (first | exact List.Mem.head _ | apply List.Mem.tail)) (by first | exact Pers.cells _ _ _ | exact Pers.slv _ _ _) | apply Pick.cons (by repeat (first | exact Pick1.here | apply Pick1.there))))) ?_
      refine WPL.bufOpen fun sp _ hsp => ?_
      refine WPL.imp (Imp.pick (Δ := [grp [enode b0 0 w2b.1, enode b1 0 w1b.1, enode b2 0 (EN.new 2 (upTo 3))], sl true ma ((G3 b0 b1 b2).msgs.flatMap encM), cells true (blk ma) (off ma + ((G3 b0 b1 b2).msgs.flatMap encM).length) sp, cells true g 0 [.slice na 3 nc, .slice ma 5 mc, .slice ta tn tc, .slice la ln lc], sl false na ((G3 b0 b1 b2).ns.map ptrE), buf 1 ta tn tc ((G3 b0 b1 b2).terms.map (.int .u64)), buf 1 la ln lc ((G3 b0 b1 b2).leads.map (.int .i64))]) (by repeat (first | exact Pick.nil | apply Pick.keep (by repeat (first | exact List.Mem.head _ | apply List.Mem.tail)) (by first | exact Pers.cells _ _ _ | exact Pers.slv _ _ _) | apply Pick.cons (by repeat (first | exact Pick1.here | apply Pick1.there))))) ?_
      refine WPL.grp (L := [enode b0 0 w2b.1, enode b1 0 w1b.1, enode b2 0 (EN.new 2 (upTo 3))]) ?_
      refine WPL.imp (Imp.pick (Δ := [enode b0 0 w2b.1, enode b1 0 w1b.1, enode b2 0 (EN.new 2 (upTo 3)), sl true ma ((G3 b0 b1 b2).msgs.flatMap encM), cells true (blk ma) (off ma + ((G3 b0 b1 b2).msgs.flatMap encM).length) sp, cells true g 0 [.slice na 3 nc, .slice ma 5 mc, .slice ta tn tc, .slice la ln lc], sl false na ((G3 b0 b1 b2).ns.map ptrE), buf 1 ta tn tc ((G3 b0 b1 b2).terms.map (.int .u64)), buf 1 la ln lc ((G3 b0 b1 b2).leads.map (.int .i64))]) (by repeat (first | exact Pick.nil | apply Pick.keep (by repeat (first | exact List.Mem.head _ | apply List.Mem.tail)) (by first | exact Pers.cells _ _ _ | exact Pers.slv _ _ _) | apply Pick.cons (by repeat (first | exact Pick1.here | apply Pick1.there))))) ?_
      refine WPL.exg (L := fun N => enodeL b0 0 w2b.1 N) fun N0 => WPL.pure fun hN0 => ?_
      refine L_s (q_move rfl) rfl ?_
      first | refine L_s (q_nilP rfl) rfl ?_ | refine L_s (q_nilF rfl) rfl ?_
      first | refine L_s (q_faK fa_pursuivantlaw11_group_msgs rfl) rfl ?_ | refine L_s (q_fa fa_pursuivantlaw11_group_msgs rfl) rfl ?_
      first | refine L_s (q_load1z ld_sl_api_Msg rfl (by repeat (first | exact List.Mem.head _ | apply List.Mem.tail)) (by rfl)) rfl ?_ | refine L_s (q_load1 ld_sl_api_Msg rfl (by repeat (first | exact List.Mem.head _ | apply List.Mem.tail)) rfl (by rfl)) rfl ?_
      refine L_s (q_len rfl un_sl_api_Msg rfl) rfl ?_
      refine L_s (q_int rfl rfl rfl) rfl ?_
      refine L_s (q_move rfl) rfl ?_
      apply WPL.joinA (e' := [(0, _), (1, _), (2, _), (3, _)]) 95 104 9 rfl
      · intro g11_6
        try simp only [decide_eq_true_eq, decide_eq_false_iff_not, beq_iff_eq, bne_iff_ne, beq_eq_false_iff_ne, bne_eq_false_iff_eq, Bool.not_eq_true', Bool.not_eq_false', Bool.not_eq_eq_eq_not, Bool.not_true, Bool.not_false, ne_eq, Decidable.not_not, Int.not_lt, Int.not_le, gt_iff_lt, ge_iff_le] at g11_6
        refine L_yes rfl rfl (q_move rfl) rfl ?_
        first | refine L_yes rfl rfl (q_nilP rfl) rfl ?_ | refine L_yes rfl rfl (q_nilF rfl) rfl ?_
        first | refine L_yes rfl rfl (q_faK fa_pursuivantlaw11_group_msgs rfl) rfl ?_ | refine L_yes rfl rfl (q_fa fa_pursuivantlaw11_group_msgs rfl) rfl ?_
        first | refine L_yes rfl rfl (q_load1z ld_sl_api_Msg rfl (by repeat (first | exact List.Mem.head _ | apply List.Mem.tail)) (by rfl)) rfl ?_ | refine L_yes rfl rfl (q_load1 ld_sl_api_Msg rfl (by repeat (first | exact List.Mem.head _ | apply List.Mem.tail)) rfl (by rfl)) rfl ?_
        first | refine L_yes rfl rfl (q_idxN sl_sl_api_Msg rfl rfl (by omega) (by assumption)) rfl ?_ | refine L_yes rfl rfl (q_idx sl_sl_api_Msg rfl rfl (by omega) (by omega) (by assumption)) rfl ?_
        first | refine L_yes rfl rfl (q_faK fa_api_Msg_Kind rfl) rfl ?_ | refine L_yes rfl rfl (q_fa fa_api_Msg_Kind rfl) rfl ?_
        refine L_yes rfl rfl (show Q1 _ _ _ _ (.int .i64 1) from q_ldFlat1 (k := 10) (i := 3) (j := 0) (e := wm3) (xs := (G3 b0 b1 b2).msgs) (enc := encM) ld_int rfl (by repeat (first | exact List.Mem.head _ | apply List.Mem.tail)) encM_len rfl (by omega) rfl) rfl ?_
        refine L_yes rfl rfl (q_int rfl rfl rfl) rfl ?_
        first | refine L_s (q_pickT rfl rfl) rfl ?_ | refine L_s (q_pickF rfl rfl) rfl ?_
        first | exact WPL.jn rfl rfl (by repeat (first | exact trivial | refine ⟨rfl, ?_⟩)) | exact WPL.jnI rfl rfl (by repeat (first | exact trivial | refine ⟨rfl, ?_⟩)) (Imp.pick (by repeat (first | exact Pick.nil | apply Pick.keep (by repeat (first | exact List.Mem.head _ | apply List.Mem.tail)) (by first | exact Pers.cells _ _ _ | exact Pers.slv _ _ _) | apply Pick.cons (by repeat (first | exact Pick1.here | apply Pick1.there)))))
      · intro g11_6
        try simp only [decide_eq_true_eq, decide_eq_false_iff_not, beq_iff_eq, bne_iff_ne, beq_eq_false_iff_ne, bne_eq_false_iff_eq, Bool.not_eq_true', Bool.not_eq_false', Bool.not_eq_eq_eq_not, Bool.not_true, Bool.not_false, ne_eq, Decidable.not_not, Int.not_lt, Int.not_le, gt_iff_lt, ge_iff_le] at g11_6
        refine L_no rfl rfl rfl rfl ?_
        refine L_no rfl rfl rfl rfl ?_
        refine L_no rfl rfl rfl rfl ?_
        refine L_no rfl rfl rfl rfl ?_
        refine L_no rfl rfl rfl rfl ?_
        refine L_no rfl rfl rfl rfl ?_
        refine L_no rfl rfl rfl rfl ?_
        refine L_no rfl rfl rfl rfl ?_
        first | refine L_s (q_pickT rfl rfl) rfl ?_ | refine L_s (q_pickF rfl rfl) rfl ?_
        first | exact WPL.jn rfl rfl (by repeat (first | exact trivial | refine ⟨rfl, ?_⟩)) | exact WPL.jnI rfl rfl (by repeat (first | exact trivial | refine ⟨rfl, ?_⟩)) (Imp.pick (by repeat (first | exact Pick.nil | apply Pick.keep (by repeat (first | exact List.Mem.head _ | apply List.Mem.tail)) (by first | exact Pers.cells _ _ _ | exact Pers.slv _ _ _) | apply Pick.cons (by repeat (first | exact Pick1.here | apply Pick1.there)))))
      refine L_s (q_move rfl) rfl ?_
      apply WPL.joinA (e' := [(0, _), (1, _), (2, _), (3, _)]) 105 116 11 rfl
      · intro g11_16
        try simp only [decide_eq_true_eq, decide_eq_false_iff_not, beq_iff_eq, bne_iff_ne, beq_eq_false_iff_ne, bne_eq_false_iff_eq, Bool.not_eq_true', Bool.not_eq_false', Bool.not_eq_eq_eq_not, Bool.not_true, Bool.not_false, ne_eq, Decidable.not_not, Int.not_lt, Int.not_le, gt_iff_lt, ge_iff_le] at g11_16
        refine L_yes rfl rfl (q_move rfl) rfl ?_
        first | refine L_yes rfl rfl (q_nilP rfl) rfl ?_ | refine L_yes rfl rfl (q_nilF rfl) rfl ?_
        first | refine L_yes rfl rfl (q_faK fa_pursuivantlaw11_group_nodes rfl) rfl ?_ | refine L_yes rfl rfl (q_fa fa_pursuivantlaw11_group_nodes rfl) rfl ?_
        first | refine L_yes rfl rfl (q_load1z ld_sl_ptr_elect_Node rfl (by repeat (first | exact List.Mem.head _ | apply List.Mem.tail)) (by rfl)) rfl ?_ | refine L_yes rfl rfl (q_load1 ld_sl_ptr_elect_Node rfl (by repeat (first | exact List.Mem.head _ | apply List.Mem.tail)) rfl (by rfl)) rfl ?_
        first | refine L_yes rfl rfl (q_idxN sl_sl_ptr_elect_Node rfl rfl (by omega) (by assumption)) rfl ?_ | refine L_yes rfl rfl (q_idx sl_sl_ptr_elect_Node rfl rfl (by omega) (by omega) (by assumption)) rfl ?_
        refine L_yes rfl rfl (show Q1 _ _ _ _ (.pointer (some ⟨b0, 0, none⟩)) from q_ldMap (f := ptrE) (i := 0) (xs := (G3 b0 b1 b2).ns) (e := (b0, w2b.1)) ld_ptr_elect_Node rfl (by repeat (first | exact List.Mem.head _ | apply List.Mem.tail)) rfl) rfl ?_
        first | refine L_yes rfl rfl (q_nilP rfl) rfl ?_ | refine L_yes rfl rfl (q_nilF rfl) rfl ?_
        first | refine L_yes rfl rfl (q_faK fa_elect_Node_Role rfl) rfl ?_ | refine L_yes rfl rfl (q_fa fa_elect_Node_Role rfl) rfl ?_
        first | refine L_yes rfl rfl (q_load1z ld_int rfl (by repeat (first | exact List.Mem.head _ | apply List.Mem.tail)) (by rfl)) rfl ?_ | refine L_yes rfl rfl (q_load1 ld_int rfl (by repeat (first | exact List.Mem.head _ | apply List.Mem.tail)) rfl (by rfl)) rfl ?_
        refine L_yes rfl rfl (q_int rfl rfl rfl) rfl ?_
        first | refine L_s (q_pickT rfl rfl) rfl ?_ | refine L_s (q_pickF rfl rfl) rfl ?_
        first | exact WPL.jn rfl rfl (by repeat (first | exact trivial | refine ⟨rfl, ?_⟩)) | exact WPL.jnI rfl rfl (by repeat (first | exact trivial | refine ⟨rfl, ?_⟩)) (Imp.pick (by repeat (first | exact Pick.nil | apply Pick.keep (by repeat (first | exact List.Mem.head _ | apply List.Mem.tail)) (by first | exact Pers.cells _ _ _ | exact Pers.slv _ _ _) | apply Pick.cons (by repeat (first | exact Pick1.here | apply Pick1.there)))))
      · intro g11_16
        try simp only [decide_eq_true_eq, decide_eq_false_iff_not, beq_iff_eq, bne_iff_ne, beq_eq_false_iff_ne, bne_eq_false_iff_eq, Bool.not_eq_true', Bool.not_eq_false', Bool.not_eq_eq_eq_not, Bool.not_true, Bool.not_false, ne_eq, Decidable.not_not, Int.not_lt, Int.not_le, gt_iff_lt, ge_iff_le] at g11_16
        refine L_no rfl rfl rfl rfl ?_
        refine L_no rfl rfl rfl rfl ?_
        refine L_no rfl rfl rfl rfl ?_
        refine L_no rfl rfl rfl rfl ?_
        refine L_no rfl rfl rfl rfl ?_
        refine L_no rfl rfl rfl rfl ?_
        refine L_no rfl rfl rfl rfl ?_
        refine L_no rfl rfl rfl rfl ?_
        refine L_no rfl rfl rfl rfl ?_
        refine L_no rfl rfl rfl rfl ?_
        first | refine L_s (q_pickT rfl rfl) rfl ?_ | refine L_s (q_pickF rfl rfl) rfl ?_
        first | exact WPL.jn rfl rfl (by repeat (first | exact trivial | refine ⟨rfl, ?_⟩)) | exact WPL.jnI rfl rfl (by repeat (first | exact trivial | refine ⟨rfl, ?_⟩)) (Imp.pick (by repeat (first | exact Pick.nil | apply Pick.keep (by repeat (first | exact List.Mem.head _ | apply List.Mem.tail)) (by first | exact Pers.cells _ _ _ | exact Pers.slv _ _ _) | apply Pick.cons (by repeat (first | exact Pick1.here | apply Pick1.there)))))
      refine L_s (q_assign rfl) rfl ?_
      refine WPL.nil ?_
      refine WPC.seqR ?_
      refine L_s (q_move rfl) rfl ?_
      refine L_s (q_build (cs := [_, _]) pl_pursuivantlaw11_Op rfl rfl) rfl ?_
      refine WPL.imp ((Imp.pick (Δ := [cells true b0 0 (nodeC w2b.1 N0), sl false N0.ca (w2b.1.conf.map (.int .i64)), buf 1 N0.ya N0.yn N0.yc (w2b.1.yes.map (.int .i64)), sl false N0.ea (w2b.1.es.flatMap encE), cells true N0.na 0 (w2b.1.next.map (.int .u64)), cells true N0.ma 0 (w2b.1.mtch.map (.int .u64)), enode b1 0 w1b.1, enode b2 0 (EN.new 2 (upTo 3)), sl true ma ((G3 b0 b1 b2).msgs.flatMap encM), cells true (blk ma) (off ma + ((G3 b0 b1 b2).msgs.flatMap encM).length) sp, cells true g 0 [.slice na 3 nc, .slice ma 5 mc, .slice ta tn tc, .slice la ln lc], sl false na ((G3 b0 b1 b2).ns.map ptrE), buf 1 ta tn tc ((G3 b0 b1 b2).terms.map (.int .u64)), buf 1 la ln lc ((G3 b0 b1 b2).leads.map (.int .i64))]) (by repeat (first | exact Pick.nil | apply Pick.keep (by repeat (first | exact List.Mem.head _ | apply List.Mem.tail)) (by first | exact Pers.cells _ _ _ | exact Pers.slv _ _ _) | apply Pick.cons (by repeat (first | exact Pick1.here | apply Pick1.there))))).trans (enode_close (x := w2b.1) (b := b0) (o := 0) N0 hN0)) ?_
      refine WPL.imp ((Imp.pick (Δ := [enode b0 0 w2b.1, enode b1 0 w1b.1, enode b2 0 (EN.new 2 (upTo 3)), sl true ma ((G3 b0 b1 b2).msgs.flatMap encM), cells true (blk ma) (off ma + ((G3 b0 b1 b2).msgs.flatMap encM).length) sp, cells true g 0 [.slice na 3 nc, .slice ma 5 mc, .slice ta tn tc, .slice la ln lc], sl false na ((G3 b0 b1 b2).ns.map ptrE), buf 1 ta tn tc ((G3 b0 b1 b2).terms.map (.int .u64)), buf 1 la ln lc ((G3 b0 b1 b2).leads.map (.int .i64))]) (by repeat (first | exact Pick.nil | apply Pick.keep (by repeat (first | exact List.Mem.head _ | apply List.Mem.tail)) (by first | exact Pers.cells _ _ _ | exact Pers.slv _ _ _) | apply Pick.cons (by repeat (first | exact Pick1.here | apply Pick1.there))))).trans (Imp.mkGrp (L := [enode b0 0 w2b.1, enode b1 0 w1b.1, enode b2 0 (EN.new 2 (upTo 3))]) (Γ := [sl true ma ((G3 b0 b1 b2).msgs.flatMap encM), cells true (blk ma) (off ma + ((G3 b0 b1 b2).msgs.flatMap encM).length) sp, cells true g 0 [.slice na 3 nc, .slice ma 5 mc, .slice ta tn tc, .slice la ln lc], sl false na ((G3 b0 b1 b2).ns.map ptrE), buf 1 ta tn tc ((G3 b0 b1 b2).terms.map (.int .u64)), buf 1 la ln lc ((G3 b0 b1 b2).leads.map (.int .i64))]))) ?_
      refine WPL.imp ((Imp.pick (Δ := [sl true ma ((G3 b0 b1 b2).msgs.flatMap encM), cells true (blk ma) (off ma + ((G3 b0 b1 b2).msgs.flatMap encM).length) sp, cells true g 0 [.slice na 3 nc, .slice ma 5 mc, .slice ta tn tc, .slice la ln lc], sl false na ((G3 b0 b1 b2).ns.map ptrE), buf 1 ta tn tc ((G3 b0 b1 b2).terms.map (.int .u64)), buf 1 la ln lc ((G3 b0 b1 b2).leads.map (.int .i64)), grp [enode b0 0 w2b.1, enode b1 0 w1b.1, enode b2 0 (EN.new 2 (upTo 3))]]) (by repeat (first | exact Pick.nil | apply Pick.keep (by repeat (first | exact List.Mem.head _ | apply List.Mem.tail)) (by first | exact Pers.cells _ _ _ | exact Pers.slv _ _ _) | apply Pick.cons (by repeat (first | exact Pick1.here | apply Pick1.there))))).trans (Imp.bufClose k2 hsp)) ?_
      refine WPL.imp ((Imp.pick (by repeat (first | exact Pick.nil | apply Pick.keep (by repeat (first | exact List.Mem.head _ | apply List.Mem.tail)) (by first | exact Pers.cells _ _ _ | exact Pers.slv _ _ _) | apply Pick.cons (by repeat (first | exact Pick1.here | apply Pick1.there))))).trans (egroup_close (g := g) (G := (G3 b0 b1 b2)) ⟨na, 3, nc, ma, 5, mc, ta, tn, tc, la, ln, lc⟩ k1 (Γ := []))) ?_
      refine WPL.cons rfl (C1.call (c_call Try.func22 rfl rfl rfl) (c_p4 g b0 b1 b2) (by repeat (first | exact Pick.nil | apply Pick.keep (by repeat (first | exact List.Mem.head _ | apply List.Mem.tail)) (by first | exact Pers.cells _ _ _ | exact Pers.slv _ _ _) | apply Pick.cons (by repeat (first | exact Pick1.here | apply Pick1.there)))) rfl ?_)
      rintro _ _ ⟨rfl, rfl⟩
      refine WPL.putS ?_
      refine WPL.nil ?_
      refine WPC.seqR ?_
      refine L_s (q_move rfl) rfl ?_
      refine L_s (q_build (cs := [_, _]) pl_pursuivantlaw11_Op rfl rfl) rfl ?_
      refine WPL.cons rfl (C1.call (c_call Try.func22 rfl rfl rfl) (c_p5 g b0 b1 b2) (by repeat (first | exact Pick.nil | apply Pick.keep (by repeat (first | exact List.Mem.head _ | apply List.Mem.tail)) (by first | exact Pers.cells _ _ _ | exact Pers.slv _ _ _) | apply Pick.cons (by repeat (first | exact Pick1.here | apply Pick1.there)))) rfl ?_)
      rintro _ _ ⟨rfl, rfl⟩
      refine WPL.putS ?_
      refine WPL.nil ?_
      refine WPC.seqR ?_
      refine WPL.exg (L := fun L => egroupL g (G5 b0 b1 b2) L) fun L => WPL.pure fun k1 => WPL.bufFact (sz := 10) (a := L.ma) (m := L.mn) (k := L.mc) (cs := (G5 b0 b1 b2).msgs.flatMap encM) (.tail _ (.tail _ (.head _))) fun k2 => ?_
      obtain ⟨na, nn, nc, ma, mn, mc, ta, tn, tc, la, ln, lc⟩ := L
      dsimp only at k1 k2
      obtain rfl : mn = 6 := by have := k2.len; rw [flat_length encM_len] at this; simp [G5, len0, len1, len2, len3, len4] at this; omega
      obtain rfl : nn = 3 := by have := k1.len; simp [G5] at this; omega
      have hpm : Pl ma := k2.at (by omega) (by omega)
      have hpn : Pl na := k1.at (by omega) (by omega)
      refine WPL.imp (Imp.pick (Δ := [buf 10 ma 6 mc ((G5 b0 b1 b2).msgs.flatMap encM), cells true g 0 [.slice na 3 nc, .slice ma 6 mc, .slice ta tn tc, .slice la ln lc], sl false na ((G5 b0 b1 b2).ns.map ptrE), buf 1 ta tn tc ((G5 b0 b1 b2).terms.map (.int .u64)), buf 1 la ln lc ((G5 b0 b1 b2).leads.map (.int .i64)), enodes (G5 b0 b1 b2).ns]) (by repeat (first | exact Pick.nil | apply Pick.keep (by repeat (first | exact List.Mem.head _ | apply List.Mem.tail)) (by first | exact Pers.cells _ _ _ | exact Pers.slv _ _ _) | apply Pick.cons (by repeat (first | exact Pick1.here | apply Pick1.there))))) ?_
      refine WPL.bufOpen fun sp _ hsp => ?_
      refine WPL.imp (Imp.pick (Δ := [grp [enode b0 0 w4b.1, enode b1 0 w3b.1, enode b2 0 (EN.new 2 (upTo 3))], sl true ma ((G5 b0 b1 b2).msgs.flatMap encM), cells true (blk ma) (off ma + ((G5 b0 b1 b2).msgs.flatMap encM).length) sp, cells true g 0 [.slice na 3 nc, .slice ma 6 mc, .slice ta tn tc, .slice la ln lc], sl false na ((G5 b0 b1 b2).ns.map ptrE), buf 1 ta tn tc ((G5 b0 b1 b2).terms.map (.int .u64)), buf 1 la ln lc ((G5 b0 b1 b2).leads.map (.int .i64))]) (by repeat (first | exact Pick.nil | apply Pick.keep (by repeat (first | exact List.Mem.head _ | apply List.Mem.tail)) (by first | exact Pers.cells _ _ _ | exact Pers.slv _ _ _) | apply Pick.cons (by repeat (first | exact Pick1.here | apply Pick1.there))))) ?_
      refine WPL.grp (L := [enode b0 0 w4b.1, enode b1 0 w3b.1, enode b2 0 (EN.new 2 (upTo 3))]) ?_
      refine WPL.imp (Imp.pick (Δ := [enode b1 0 w3b.1, enode b0 0 w4b.1, enode b2 0 (EN.new 2 (upTo 3)), sl true ma ((G5 b0 b1 b2).msgs.flatMap encM), cells true (blk ma) (off ma + ((G5 b0 b1 b2).msgs.flatMap encM).length) sp, cells true g 0 [.slice na 3 nc, .slice ma 6 mc, .slice ta tn tc, .slice la ln lc], sl false na ((G5 b0 b1 b2).ns.map ptrE), buf 1 ta tn tc ((G5 b0 b1 b2).terms.map (.int .u64)), buf 1 la ln lc ((G5 b0 b1 b2).leads.map (.int .i64))]) (by repeat (first | exact Pick.nil | apply Pick.keep (by repeat (first | exact List.Mem.head _ | apply List.Mem.tail)) (by first | exact Pers.cells _ _ _ | exact Pers.slv _ _ _) | apply Pick.cons (by repeat (first | exact Pick1.here | apply Pick1.there))))) ?_
      refine WPL.exg (L := fun N => enodeL b1 0 w3b.1 N) fun N1 => WPL.pure fun hN1 => ?_
      refine WPL.imp (Imp.pick (Δ := [enode b0 0 w4b.1, cells true b1 0 (nodeC w3b.1 N1), sl false N1.ca (w3b.1.conf.map (.int .i64)), buf 1 N1.ya N1.yn N1.yc (w3b.1.yes.map (.int .i64)), sl false N1.ea (w3b.1.es.flatMap encE), cells true N1.na 0 (w3b.1.next.map (.int .u64)), cells true N1.ma 0 (w3b.1.mtch.map (.int .u64)), enode b2 0 (EN.new 2 (upTo 3)), sl true ma ((G5 b0 b1 b2).msgs.flatMap encM), cells true (blk ma) (off ma + ((G5 b0 b1 b2).msgs.flatMap encM).length) sp, cells true g 0 [.slice na 3 nc, .slice ma 6 mc, .slice ta tn tc, .slice la ln lc], sl false na ((G5 b0 b1 b2).ns.map ptrE), buf 1 ta tn tc ((G5 b0 b1 b2).terms.map (.int .u64)), buf 1 la ln lc ((G5 b0 b1 b2).leads.map (.int .i64))]) (by repeat (first | exact Pick.nil | apply Pick.keep (by repeat (first | exact List.Mem.head _ | apply List.Mem.tail)) (by first | exact Pers.cells _ _ _ | exact Pers.slv _ _ _) | apply Pick.cons (by repeat (first | exact Pick1.here | apply Pick1.there))))) ?_
      refine WPL.exg (L := fun N => enodeL b0 0 w4b.1 N) fun N0 => WPL.pure fun hN0 => ?_
      have hen1 : N0.en = 1 := by have := hN0.e.len; rw [flat_length encE_len] at this; have h : w4b.1.es.length = 1 := rfl; omega
      refine L_s (q_move rfl) rfl ?_
      first | refine L_s (q_nilP rfl) rfl ?_ | refine L_s (q_nilF rfl) rfl ?_
      first | refine L_s (q_faK fa_pursuivantlaw11_group_nodes rfl) rfl ?_ | refine L_s (q_fa fa_pursuivantlaw11_group_nodes rfl) rfl ?_
      first | refine L_s (q_load1z ld_sl_ptr_elect_Node rfl (by repeat (first | exact List.Mem.head _ | apply List.Mem.tail)) (by rfl)) rfl ?_ | refine L_s (q_load1 ld_sl_ptr_elect_Node rfl (by repeat (first | exact List.Mem.head _ | apply List.Mem.tail)) rfl (by rfl)) rfl ?_
      first | refine L_s (q_idxN sl_sl_ptr_elect_Node rfl rfl (by omega) (by assumption)) rfl ?_ | refine L_s (q_idx sl_sl_ptr_elect_Node rfl rfl (by omega) (by omega) (by assumption)) rfl ?_
      refine L_s (show Q1 _ _ _ _ (.pointer (some ⟨b0, 0, none⟩)) from q_ldMap (f := ptrE) (i := 0) (xs := (G5 b0 b1 b2).ns) (e := (b0, w4b.1)) ld_ptr_elect_Node rfl (by repeat (first | exact List.Mem.head _ | apply List.Mem.tail)) rfl) rfl ?_
      refine L_s (q_assign rfl) rfl ?_
      refine WPL.nil ?_
      refine WPC.seqR ?_
      refine L_s (q_move rfl) rfl ?_
      refine L_s (q_move rfl) rfl ?_
      apply WPL.joinA (e' := [(0, _), (1, _), (4, _), (5, _)]) 130 132 2 rfl
      · intro g15_1
        try simp only [decide_eq_true_eq, decide_eq_false_iff_not, beq_iff_eq, bne_iff_ne, beq_eq_false_iff_ne, bne_eq_false_iff_eq, Bool.not_eq_true', Bool.not_eq_false', Bool.not_eq_eq_eq_not, Bool.not_true, Bool.not_false, ne_eq, Decidable.not_not, Int.not_lt, Int.not_le, gt_iff_lt, ge_iff_le] at g15_1
        refine L_yes rfl rfl (q_move rfl) rfl ?_
        first | refine L_s (q_pickT rfl rfl) rfl ?_ | refine L_s (q_pickF rfl rfl) rfl ?_
        first | exact WPL.jn rfl rfl (by repeat (first | exact trivial | refine ⟨rfl, ?_⟩)) | exact WPL.jnI rfl rfl (by repeat (first | exact trivial | refine ⟨rfl, ?_⟩)) (Imp.pick (by repeat (first | exact Pick.nil | apply Pick.keep (by repeat (first | exact List.Mem.head _ | apply List.Mem.tail)) (by first | exact Pers.cells _ _ _ | exact Pers.slv _ _ _) | apply Pick.cons (by repeat (first | exact Pick1.here | apply Pick1.there)))))
      · intro g15_1
        try simp only [decide_eq_true_eq, decide_eq_false_iff_not, beq_iff_eq, bne_iff_ne, beq_eq_false_iff_ne, bne_eq_false_iff_eq, Bool.not_eq_true', Bool.not_eq_false', Bool.not_eq_eq_eq_not, Bool.not_true, Bool.not_false, ne_eq, Decidable.not_not, Int.not_lt, Int.not_le, gt_iff_lt, ge_iff_le] at g15_1
        refine L_no rfl rfl rfl rfl ?_
        first | refine L_s (q_pickT rfl rfl) rfl ?_ | refine L_s (q_pickF rfl rfl) rfl ?_
        first | exact WPL.jn rfl rfl (by repeat (first | exact trivial | refine ⟨rfl, ?_⟩)) | exact WPL.jnI rfl rfl (by repeat (first | exact trivial | refine ⟨rfl, ?_⟩)) (Imp.pick (by repeat (first | exact Pick.nil | apply Pick.keep (by repeat (first | exact List.Mem.head _ | apply List.Mem.tail)) (by first | exact Pers.cells _ _ _ | exact Pers.slv _ _ _) | apply Pick.cons (by repeat (first | exact Pick1.here | apply Pick1.there)))))
      refine L_s (q_move rfl) rfl ?_
      apply WPL.joinA (e' := [(0, _), (1, _), (5, _)]) 133 135 2 rfl
      · intro g15_4
        try simp only [decide_eq_true_eq, decide_eq_false_iff_not, beq_iff_eq, bne_iff_ne, beq_eq_false_iff_ne, bne_eq_false_iff_eq, Bool.not_eq_true', Bool.not_eq_false', Bool.not_eq_eq_eq_not, Bool.not_true, Bool.not_false, ne_eq, Decidable.not_not, Int.not_lt, Int.not_le, gt_iff_lt, ge_iff_le] at g15_4
        refine L_yes rfl rfl (q_move rfl) rfl ?_
        first | refine L_s (q_pickT rfl rfl) rfl ?_ | refine L_s (q_pickF rfl rfl) rfl ?_
        first | exact WPL.jn rfl rfl (by repeat (first | exact trivial | refine ⟨rfl, ?_⟩)) | exact WPL.jnI rfl rfl (by repeat (first | exact trivial | refine ⟨rfl, ?_⟩)) (Imp.pick (by repeat (first | exact Pick.nil | apply Pick.keep (by repeat (first | exact List.Mem.head _ | apply List.Mem.tail)) (by first | exact Pers.cells _ _ _ | exact Pers.slv _ _ _) | apply Pick.cons (by repeat (first | exact Pick1.here | apply Pick1.there)))))
      · intro g15_4
        try simp only [decide_eq_true_eq, decide_eq_false_iff_not, beq_iff_eq, bne_iff_ne, beq_eq_false_iff_ne, bne_eq_false_iff_eq, Bool.not_eq_true', Bool.not_eq_false', Bool.not_eq_eq_eq_not, Bool.not_true, Bool.not_false, ne_eq, Decidable.not_not, Int.not_lt, Int.not_le, gt_iff_lt, ge_iff_le] at g15_4
        refine L_no rfl rfl rfl rfl ?_
        first | refine L_s (q_pickT rfl rfl) rfl ?_ | refine L_s (q_pickF rfl rfl) rfl ?_
        first | exact WPL.jn rfl rfl (by repeat (first | exact trivial | refine ⟨rfl, ?_⟩)) | exact WPL.jnI rfl rfl (by repeat (first | exact trivial | refine ⟨rfl, ?_⟩)) (Imp.pick (by repeat (first | exact Pick.nil | apply Pick.keep (by repeat (first | exact List.Mem.head _ | apply List.Mem.tail)) (by first | exact Pers.cells _ _ _ | exact Pers.slv _ _ _) | apply Pick.cons (by repeat (first | exact Pick1.here | apply Pick1.there)))))
      refine L_s (q_move rfl) rfl ?_
      apply WPL.joinA (e' := [(0, _), (1, _), (5, _)]) 136 142 6 rfl
      · intro g15_7
        try simp only [decide_eq_true_eq, decide_eq_false_iff_not, beq_iff_eq, bne_iff_ne, beq_eq_false_iff_ne, bne_eq_false_iff_eq, Bool.not_eq_true', Bool.not_eq_false', Bool.not_eq_eq_eq_not, Bool.not_true, Bool.not_false, ne_eq, Decidable.not_not, Int.not_lt, Int.not_le, gt_iff_lt, ge_iff_le] at g15_7
        refine L_yes rfl rfl (q_move rfl) rfl ?_
        first | refine L_yes rfl rfl (q_nilP rfl) rfl ?_ | refine L_yes rfl rfl (q_nilF rfl) rfl ?_
        first | refine L_yes rfl rfl (q_faK fa_elect_Node_Role rfl) rfl ?_ | refine L_yes rfl rfl (q_fa fa_elect_Node_Role rfl) rfl ?_
        first | refine L_yes rfl rfl (q_load1z ld_int rfl (by repeat (first | exact List.Mem.head _ | apply List.Mem.tail)) (by rfl)) rfl ?_ | refine L_yes rfl rfl (q_load1 ld_int rfl (by repeat (first | exact List.Mem.head _ | apply List.Mem.tail)) rfl (by rfl)) rfl ?_
        refine L_yes rfl rfl (q_int rfl rfl rfl) rfl ?_
        first | refine L_s (q_pickT rfl rfl) rfl ?_ | refine L_s (q_pickF rfl rfl) rfl ?_
        first | exact WPL.jn rfl rfl (by repeat (first | exact trivial | refine ⟨rfl, ?_⟩)) | exact WPL.jnI rfl rfl (by repeat (first | exact trivial | refine ⟨rfl, ?_⟩)) (Imp.pick (by repeat (first | exact Pick.nil | apply Pick.keep (by repeat (first | exact List.Mem.head _ | apply List.Mem.tail)) (by first | exact Pers.cells _ _ _ | exact Pers.slv _ _ _) | apply Pick.cons (by repeat (first | exact Pick1.here | apply Pick1.there)))))
      · intro g15_7
        try simp only [decide_eq_true_eq, decide_eq_false_iff_not, beq_iff_eq, bne_iff_ne, beq_eq_false_iff_ne, bne_eq_false_iff_eq, Bool.not_eq_true', Bool.not_eq_false', Bool.not_eq_eq_eq_not, Bool.not_true, Bool.not_false, ne_eq, Decidable.not_not, Int.not_lt, Int.not_le, gt_iff_lt, ge_iff_le] at g15_7
        refine L_no rfl rfl rfl rfl ?_
        refine L_no rfl rfl rfl rfl ?_
        refine L_no rfl rfl rfl rfl ?_
        refine L_no rfl rfl rfl rfl ?_
        refine L_no rfl rfl rfl rfl ?_
        first | refine L_s (q_pickT rfl rfl) rfl ?_ | refine L_s (q_pickF rfl rfl) rfl ?_
        first | exact WPL.jn rfl rfl (by repeat (first | exact trivial | refine ⟨rfl, ?_⟩)) | exact WPL.jnI rfl rfl (by repeat (first | exact trivial | refine ⟨rfl, ?_⟩)) (Imp.pick (by repeat (first | exact Pick.nil | apply Pick.keep (by repeat (first | exact List.Mem.head _ | apply List.Mem.tail)) (by first | exact Pers.cells _ _ _ | exact Pers.slv _ _ _) | apply Pick.cons (by repeat (first | exact Pick1.here | apply Pick1.there)))))
      refine L_s (q_move rfl) rfl ?_
      apply WPL.joinA (e' := [(0, _), (1, _), (5, _)]) 143 149 6 rfl
      · intro g15_14
        try simp only [decide_eq_true_eq, decide_eq_false_iff_not, beq_iff_eq, bne_iff_ne, beq_eq_false_iff_ne, bne_eq_false_iff_eq, Bool.not_eq_true', Bool.not_eq_false', Bool.not_eq_eq_eq_not, Bool.not_true, Bool.not_false, ne_eq, Decidable.not_not, Int.not_lt, Int.not_le, gt_iff_lt, ge_iff_le] at g15_14
        refine L_yes rfl rfl (q_move rfl) rfl ?_
        first | refine L_yes rfl rfl (q_nilP rfl) rfl ?_ | refine L_yes rfl rfl (q_nilF rfl) rfl ?_
        first | refine L_yes rfl rfl (q_faK fa_elect_Node_Term rfl) rfl ?_ | refine L_yes rfl rfl (q_fa fa_elect_Node_Term rfl) rfl ?_
        first | refine L_yes rfl rfl (q_load1z ld_uint64 rfl (by repeat (first | exact List.Mem.head _ | apply List.Mem.tail)) (by rfl)) rfl ?_ | refine L_yes rfl rfl (q_load1 ld_uint64 rfl (by repeat (first | exact List.Mem.head _ | apply List.Mem.tail)) rfl (by rfl)) rfl ?_
        refine L_yes rfl rfl (q_int rfl rfl rfl) rfl ?_
        first | refine L_s (q_pickT rfl rfl) rfl ?_ | refine L_s (q_pickF rfl rfl) rfl ?_
        first | exact WPL.jn rfl rfl (by repeat (first | exact trivial | refine ⟨rfl, ?_⟩)) | exact WPL.jnI rfl rfl (by repeat (first | exact trivial | refine ⟨rfl, ?_⟩)) (Imp.pick (by repeat (first | exact Pick.nil | apply Pick.keep (by repeat (first | exact List.Mem.head _ | apply List.Mem.tail)) (by first | exact Pers.cells _ _ _ | exact Pers.slv _ _ _) | apply Pick.cons (by repeat (first | exact Pick1.here | apply Pick1.there)))))
      · intro g15_14
        try simp only [decide_eq_true_eq, decide_eq_false_iff_not, beq_iff_eq, bne_iff_ne, beq_eq_false_iff_ne, bne_eq_false_iff_eq, Bool.not_eq_true', Bool.not_eq_false', Bool.not_eq_eq_eq_not, Bool.not_true, Bool.not_false, ne_eq, Decidable.not_not, Int.not_lt, Int.not_le, gt_iff_lt, ge_iff_le] at g15_14
        refine L_no rfl rfl rfl rfl ?_
        refine L_no rfl rfl rfl rfl ?_
        refine L_no rfl rfl rfl rfl ?_
        refine L_no rfl rfl rfl rfl ?_
        refine L_no rfl rfl rfl rfl ?_
        first | refine L_s (q_pickT rfl rfl) rfl ?_ | refine L_s (q_pickF rfl rfl) rfl ?_
        first | exact WPL.jn rfl rfl (by repeat (first | exact trivial | refine ⟨rfl, ?_⟩)) | exact WPL.jnI rfl rfl (by repeat (first | exact trivial | refine ⟨rfl, ?_⟩)) (Imp.pick (by repeat (first | exact Pick.nil | apply Pick.keep (by repeat (first | exact List.Mem.head _ | apply List.Mem.tail)) (by first | exact Pers.cells _ _ _ | exact Pers.slv _ _ _) | apply Pick.cons (by repeat (first | exact Pick1.here | apply Pick1.there)))))
      refine L_s (q_move rfl) rfl ?_
      apply WPL.joinA (e' := [(0, _), (1, _)]) 150 158 8 rfl
      · intro g15_21
        try simp only [decide_eq_true_eq, decide_eq_false_iff_not, beq_iff_eq, bne_iff_ne, beq_eq_false_iff_ne, bne_eq_false_iff_eq, Bool.not_eq_true', Bool.not_eq_false', Bool.not_eq_eq_eq_not, Bool.not_true, Bool.not_false, ne_eq, Decidable.not_not, Int.not_lt, Int.not_le, gt_iff_lt, ge_iff_le] at g15_21
        refine L_yes rfl rfl (q_move rfl) rfl ?_
        first | refine L_yes rfl rfl (q_nilP rfl) rfl ?_ | refine L_yes rfl rfl (q_nilF rfl) rfl ?_
        first | refine L_yes rfl rfl (q_faK fa_elect_Node_Log rfl) rfl ?_ | refine L_yes rfl rfl (q_fa fa_elect_Node_Log rfl) rfl ?_
        first | refine L_yes rfl rfl (q_faK fa_terms_Log_Entries rfl) rfl ?_ | refine L_yes rfl rfl (q_fa fa_terms_Log_Entries rfl) rfl ?_
        first | refine L_yes rfl rfl (q_load1z ld_sl_api_Entry rfl (by repeat (first | exact List.Mem.head _ | apply List.Mem.tail)) (by rfl)) rfl ?_ | refine L_yes rfl rfl (q_load1 ld_sl_api_Entry rfl (by repeat (first | exact List.Mem.head _ | apply List.Mem.tail)) rfl (by rfl)) rfl ?_
        refine L_yes rfl rfl (q_len rfl un_sl_api_Entry rfl) rfl ?_
        refine L_yes rfl rfl (q_int rfl rfl rfl) rfl ?_
        first | refine L_s (q_pickT rfl rfl) rfl ?_ | refine L_s (q_pickF rfl rfl) rfl ?_
        first | exact WPL.jn rfl rfl (by repeat (first | exact trivial | refine ⟨rfl, ?_⟩)) | exact WPL.jnI rfl rfl (by repeat (first | exact trivial | refine ⟨rfl, ?_⟩)) (Imp.pick (by repeat (first | exact Pick.nil | apply Pick.keep (by repeat (first | exact List.Mem.head _ | apply List.Mem.tail)) (by first | exact Pers.cells _ _ _ | exact Pers.slv _ _ _) | apply Pick.cons (by repeat (first | exact Pick1.here | apply Pick1.there)))))
      · intro g15_21
        try simp only [decide_eq_true_eq, decide_eq_false_iff_not, beq_iff_eq, bne_iff_ne, beq_eq_false_iff_ne, bne_eq_false_iff_eq, Bool.not_eq_true', Bool.not_eq_false', Bool.not_eq_eq_eq_not, Bool.not_true, Bool.not_false, ne_eq, Decidable.not_not, Int.not_lt, Int.not_le, gt_iff_lt, ge_iff_le] at g15_21
        refine L_no rfl rfl rfl rfl ?_
        refine L_no rfl rfl rfl rfl ?_
        refine L_no rfl rfl rfl rfl ?_
        refine L_no rfl rfl rfl rfl ?_
        refine L_no rfl rfl rfl rfl ?_
        refine L_no rfl rfl rfl rfl ?_
        refine L_no rfl rfl rfl rfl ?_
        first | refine L_s (q_pickT rfl rfl) rfl ?_ | refine L_s (q_pickF rfl rfl) rfl ?_
        first | exact WPL.jn rfl rfl (by repeat (first | exact trivial | refine ⟨rfl, ?_⟩)) | exact WPL.jnI rfl rfl (by repeat (first | exact trivial | refine ⟨rfl, ?_⟩)) (Imp.pick (by repeat (first | exact Pick.nil | apply Pick.keep (by repeat (first | exact List.Mem.head _ | apply List.Mem.tail)) (by first | exact Pers.cells _ _ _ | exact Pers.slv _ _ _) | apply Pick.cons (by repeat (first | exact Pick1.here | apply Pick1.there)))))
      refine L_s (q_move rfl) rfl ?_
      apply WPL.joinA (e' := [(0, _)]) 159 170 11 rfl
      · intro g15_30
        try simp only [decide_eq_true_eq, decide_eq_false_iff_not, beq_iff_eq, bne_iff_ne, beq_eq_false_iff_ne, bne_eq_false_iff_eq, Bool.not_eq_true', Bool.not_eq_false', Bool.not_eq_eq_eq_not, Bool.not_true, Bool.not_false, ne_eq, Decidable.not_not, Int.not_lt, Int.not_le, gt_iff_lt, ge_iff_le] at g15_30
        refine L_yes rfl rfl (q_move rfl) rfl ?_
        first | refine L_yes rfl rfl (q_nilP rfl) rfl ?_ | refine L_yes rfl rfl (q_nilF rfl) rfl ?_
        first | refine L_yes rfl rfl (q_faK fa_pursuivantlaw11_group_nodes rfl) rfl ?_ | refine L_yes rfl rfl (q_fa fa_pursuivantlaw11_group_nodes rfl) rfl ?_
        first | refine L_yes rfl rfl (q_load1z ld_sl_ptr_elect_Node rfl (by repeat (first | exact List.Mem.head _ | apply List.Mem.tail)) (by rfl)) rfl ?_ | refine L_yes rfl rfl (q_load1 ld_sl_ptr_elect_Node rfl (by repeat (first | exact List.Mem.head _ | apply List.Mem.tail)) rfl (by rfl)) rfl ?_
        first | refine L_yes rfl rfl (q_idxN sl_sl_ptr_elect_Node rfl rfl (by omega) (by assumption)) rfl ?_ | refine L_yes rfl rfl (q_idx sl_sl_ptr_elect_Node rfl rfl (by omega) (by omega) (by assumption)) rfl ?_
        refine L_yes rfl rfl (show Q1 _ _ _ _ (.pointer (some ⟨b1, 0, none⟩)) from q_ldMap (f := ptrE) (i := 1) (xs := (G5 b0 b1 b2).ns) (e := (b1, w3b.1)) ld_ptr_elect_Node rfl (by repeat (first | exact List.Mem.head _ | apply List.Mem.tail)) rfl) rfl ?_
        first | refine L_yes rfl rfl (q_nilP rfl) rfl ?_ | refine L_yes rfl rfl (q_nilF rfl) rfl ?_
        first | refine L_yes rfl rfl (q_faK fa_elect_Node_Vote rfl) rfl ?_ | refine L_yes rfl rfl (q_fa fa_elect_Node_Vote rfl) rfl ?_
        first | refine L_yes rfl rfl (q_load1z ld_int rfl (by repeat (first | exact List.Mem.head _ | apply List.Mem.tail)) (by rfl)) rfl ?_ | refine L_yes rfl rfl (q_load1 ld_int rfl (by repeat (first | exact List.Mem.head _ | apply List.Mem.tail)) rfl (by rfl)) rfl ?_
        refine L_yes rfl rfl (q_int rfl rfl rfl) rfl ?_
        first | refine L_s (q_pickT rfl rfl) rfl ?_ | refine L_s (q_pickF rfl rfl) rfl ?_
        first | exact WPL.jn rfl rfl (by repeat (first | exact trivial | refine ⟨rfl, ?_⟩)) | exact WPL.jnI rfl rfl (by repeat (first | exact trivial | refine ⟨rfl, ?_⟩)) (Imp.pick (by repeat (first | exact Pick.nil | apply Pick.keep (by repeat (first | exact List.Mem.head _ | apply List.Mem.tail)) (by first | exact Pers.cells _ _ _ | exact Pers.slv _ _ _) | apply Pick.cons (by repeat (first | exact Pick1.here | apply Pick1.there)))))
      · intro g15_30
        try simp only [decide_eq_true_eq, decide_eq_false_iff_not, beq_iff_eq, bne_iff_ne, beq_eq_false_iff_ne, bne_eq_false_iff_eq, Bool.not_eq_true', Bool.not_eq_false', Bool.not_eq_eq_eq_not, Bool.not_true, Bool.not_false, ne_eq, Decidable.not_not, Int.not_lt, Int.not_le, gt_iff_lt, ge_iff_le] at g15_30
        refine L_no rfl rfl rfl rfl ?_
        refine L_no rfl rfl rfl rfl ?_
        refine L_no rfl rfl rfl rfl ?_
        refine L_no rfl rfl rfl rfl ?_
        refine L_no rfl rfl rfl rfl ?_
        refine L_no rfl rfl rfl rfl ?_
        refine L_no rfl rfl rfl rfl ?_
        refine L_no rfl rfl rfl rfl ?_
        refine L_no rfl rfl rfl rfl ?_
        refine L_no rfl rfl rfl rfl ?_
        first | refine L_s (q_pickT rfl rfl) rfl ?_ | refine L_s (q_pickF rfl rfl) rfl ?_
        first | exact WPL.jn rfl rfl (by repeat (first | exact trivial | refine ⟨rfl, ?_⟩)) | exact WPL.jnI rfl rfl (by repeat (first | exact trivial | refine ⟨rfl, ?_⟩)) (Imp.pick (by repeat (first | exact Pick.nil | apply Pick.keep (by repeat (first | exact List.Mem.head _ | apply List.Mem.tail)) (by first | exact Pers.cells _ _ _ | exact Pers.slv _ _ _) | apply Pick.cons (by repeat (first | exact Pick1.here | apply Pick1.there)))))
      refine L_s (q_assign rfl) rfl ?_
      refine WPL.nil ?_
      refine WPC.ret ?_
      exact endR_r rfl (.tmp rfl .nil) (Imp.nil _) ⟨by simp only [packV, hen1]; rfl, rfl⟩

end Go.Sl
