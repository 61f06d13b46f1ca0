/- Walks: nodes. -/
import Derived.Test.YtpipmojaonialaaWQ
namespace Go.Sl
open Go Go.RowKit Go.Proofs
set_option linter.unusedSimpArgs false
set_option linter.unusedVariables false
attribute [local irreducible] faB szB ldB zB zL slB mkB arB plB intB cells objc star stars buf slv grp whole Sat WPC WPL WPA WPO Trip

theorem c_Others1 {p p' : Bool} {b o b1 : Nat} {x : EN} {L : NL} (v : Int) : Trip Try.prog 27 #[.int .i64 v, .pointer (some ⟨b1, 0, none⟩)] [grp [cells p' b1 0 [.pointer (some ⟨b, o, none⟩)], cells p b o (nodeC x L)]] fun r Δ => r = .bool (v == x.me) ∧ Δ = [grp [cells p' b1 0 [.pointer (some ⟨b, o, none⟩)], cells p b o (nodeC x L)]] := by
  refine Trip.grp ?_
  refine Trip.start 10 [.tmp 3] [(0, .int .i64 v), (1, .pointer (some ⟨b1, 0, none⟩))] Try.func27 rfl Try.ntmps27 rfl ⟨rfl, rfl, trivial⟩ rfl ?_
  refine WPC.seqR ?_
  refine L_s (q_assign rfl) rfl ?_
  refine WPL.nil ?_
  refine WPC.seqR ?_
  refine L_s (q_move rfl) rfl ?_
  first | refine L_s (q_load1z ld_ptr_elect_Node rfl (by repeat (first | exact List.Mem.head _ | apply List.Mem.tail)) (by rfl)) rfl ?_ | refine L_s (q_load1 ld_ptr_elect_Node rfl (by repeat (first | exact List.Mem.head _ | apply List.Mem.tail)) rfl (by rfl)) rfl ?_
  first | refine L_s (q_nilP rfl) rfl ?_ | refine L_s (q_nilF rfl) rfl ?_
  first | refine L_s (q_faK fa_elect_Node_Me rfl) rfl ?_ | refine L_s (q_fa fa_elect_Node_Me rfl) rfl ?_
  first | refine L_s (q_load1z ld_int rfl (by repeat (first | exact List.Mem.head _ | apply List.Mem.tail)) (by rfl)) rfl ?_ | refine L_s (q_load1 ld_int rfl (by repeat (first | exact List.Mem.head _ | apply List.Mem.tail)) rfl (by rfl)) rfl ?_
  refine L_s (q_int rfl rfl rfl) rfl ?_
  refine L_s (q_assign rfl) rfl ?_
  refine WPL.nil ?_
  refine WPC.ret ?_
  exact endR_r rfl (.tmp rfl .nil) ((Imp.pick (Δ := [cells p' b1 0 [.pointer (some ⟨b, o, none⟩)], cells p b o (nodeC x L)]) (by repeat (first | exact Pick.nil | apply Pick.keep (by repeat (first | exact List.Mem.head _ | apply List.Mem.tail)) (by first | exact Pers.cells _ _ _ | exact Pers.slv _ _ _) | apply Pick.cons (by repeat (first | exact Pick1.here | apply Pick1.there))))).trans (Imp.mkGrp (L := [cells p' b1 0 [.pointer (some ⟨b, o, none⟩)], cells p b o (nodeC x L)]) (Γ := []))) ⟨rfl, rfl⟩

theorem c_Others {p : Bool} {b o : Nat} {x : EN} {L : NL} (hs : Sok 1 L.ca L.cn L.cc (x.conf.map (.int .i64))) (hn : L.cn < 1073741824) : Trip Try.prog 7 #[.pointer (some ⟨b, o, none⟩)] [cells p b o (nodeC x L), sl false L.ca (x.conf.map (.int .i64))] fun r Δ => ∃ (a : Option Addr) (c : Nat), r = .slice a x.others.length c ∧ Sok 1 a x.others.length c (x.others.map (.int .i64)) ∧ x.others.length < 1073741824 ∧ Δ = sl false a (x.others.map (.int .i64)) :: [cells p b o (nodeC x L), sl false L.ca (x.conf.map (.int .i64))] := by
  refine Trip.start 10 [.tmp 2] [(0, .pointer (some ⟨b, o, none⟩))] Try.func7 rfl Try.ntmps7 rfl ⟨rfl, trivial⟩ rfl ?_
  refine WPC.seqR ?_
  first | refine WPL.cons rfl (E1.wpo (e_boxN rfl) rfl ?_) | refine WPL.cons rfl (E1.wpo (e_box1 rfl rfl) rfl ?_)
  rintro _ _ ⟨b1, rfl, rfl⟩
  refine WPL.putS ?_
  refine L_s (q_assign rfl) rfl ?_
  refine WPL.nil ?_
  refine WPC.seqR ?_
  first | refine L_s (q_load1z ld_ptr_elect_Node rfl (by repeat (first | exact List.Mem.head _ | apply List.Mem.tail)) (by rfl)) rfl ?_ | refine L_s (q_load1 ld_ptr_elect_Node rfl (by repeat (first | exact List.Mem.head _ | apply List.Mem.tail)) rfl (by rfl)) rfl ?_
  first | refine L_s (q_nilP rfl) rfl ?_ | refine L_s (q_nilF rfl) rfl ?_
  first | refine L_s (q_faK fa_elect_Node_Conf rfl) rfl ?_ | refine L_s (q_fa fa_elect_Node_Conf rfl) rfl ?_
  first | refine L_s (q_load1z ld_sl_int rfl (by repeat (first | exact List.Mem.head _ | apply List.Mem.tail)) (by rfl)) rfl ?_ | refine L_s (q_load1 ld_sl_int rfl (by repeat (first | exact List.Mem.head _ | apply List.Mem.tail)) rfl (by rfl)) rfl ?_
  refine WPL.cons rfl (C1.call (c_call Try.func26 rfl rfl rfl) (c_Clone hs hn) (by repeat (first | exact Pick.nil | apply Pick.keep (by repeat (first | exact List.Mem.head _ | apply List.Mem.tail)) (by first | exact Pers.cells _ _ _ | exact Pers.slv _ _ _) | apply Pick.cons (by repeat (first | exact Pick1.here | apply Pick1.there)))) rfl ?_)
  rintro _ _ ⟨a', c', rfl, rfl⟩
  refine WPL.bufSl fun hs' => ?_
  refine WPL.putS ?_
  refine L_s (q_func rfl rfl) rfl ?_
  refine WPL.imp ((Imp.pick (Δ := [cells true b1 0 [.pointer (some ⟨b, o, none⟩)], cells p b o (nodeC x L), sl true a' (x.conf.map (.int .i64)), sl false L.ca (x.conf.map (.int .i64))]) (by repeat (first | exact Pick.nil | apply Pick.keep (by repeat (first | exact List.Mem.head _ | apply List.Mem.tail)) (by first | exact Pers.cells _ _ _ | exact Pers.slv _ _ _) | apply Pick.cons (by repeat (first | exact Pick1.here | apply Pick1.there))))).trans (Imp.mkGrp (L := [cells true b1 0 [.pointer (some ⟨b, o, none⟩)], cells p b o (nodeC x L)]))) ?_
  refine WPL.cons rfl (C1.call (c_call Try.func25 rfl rfl rfl) (c_DeleteFunc hs' hn rfl rfl rfl (fun v => c_Others1 v)) (by repeat (first | exact Pick.nil | apply Pick.keep (by repeat (first | exact List.Mem.head _ | apply List.Mem.tail)) (by first | exact Pers.cells _ _ _ | exact Pers.slv _ _ _) | apply Pick.cons (by repeat (first | exact Pick1.here | apply Pick1.there)))) rfl ?_)
  rintro _ _ ⟨ys, zs, rfl, hle, rfl, rfl⟩
  have hle2 := hs'.cap
  have hpl := hs'.pl
  refine WPL.putS ?_
  refine L_s (q_assign rfl) rfl ?_
  refine WPL.nil ?_
  refine WPC.ret ?_
  exact endR_r rfl (.tmp rfl .nil) ((Imp.pick (Δ := [grp [cells true b1 0 [.pointer (some ⟨b, o, none⟩)], cells p b o (nodeC x L)], sl true a' (x.others.map (.int .i64) ++ zs), sl false L.ca (x.conf.map (.int .i64))]) (by repeat (first | exact Pick.nil | apply Pick.keep (by repeat (first | exact List.Mem.head _ | apply List.Mem.tail)) (by first | exact Pers.cells _ _ _ | exact Pers.slv _ _ _) | apply Pick.cons (by repeat (first | exact Pick1.here | apply Pick1.there))))).trans (Imp.unGrp.trans ((Imp.pick (Δ := [sl true a' (x.others.map (.int .i64) ++ zs), cells p b o (nodeC x L), sl false L.ca (x.conf.map (.int .i64))]) (by repeat (first | exact Pick.nil | apply Pick.keep (by repeat (first | exact List.Mem.head _ | apply List.Mem.tail)) (by first | exact Pers.cells _ _ _ | exact Pers.slv _ _ _) | apply Pick.cons (by repeat (first | exact Pick1.here | apply Pick1.there))))).trans Imp.headRo))) ⟨a', c', rfl, ⟨by simp, by show (x.conf.filter _).length ≤ _; omega, hpl.imp (fun h => by simp only [List.map_eq_nil_iff] at h; simp [EN.others, h]) id⟩, by show (x.conf.filter _).length < _; omega, rfl⟩

theorem c_Clip {a : Option Addr} {n c : Nat} (hc : n ≤ c) : Trip Try.prog 61 #[.slice a n c] [] fun r Δ => r = .slice a n n ∧ Δ = [] := by
  refine Trip.start 9 [.tmp 2] [(0, .slice a n c)] Try.func61 rfl Try.ntmps61 rfl ⟨rfl, trivial⟩ rfl ?_
  refine WPC.seqR ?_
  refine L_s (q_assign rfl) rfl ?_
  refine WPL.nil ?_
  refine WPC.seqR ?_
  refine L_s (q_move rfl) rfl ?_
  refine L_s (q_move rfl) rfl ?_
  refine L_s (q_len rfl un_sl_api_Entry rfl) rfl ?_
  refine L_s (q_move rfl) rfl ?_
  refine L_s (q_len rfl un_sl_api_Entry rfl) rfl ?_
  refine L_s (q_sliceHiM sl_sl_api_Entry rfl rfl rfl (by omega) (by omega)) rfl ?_
  refine L_s (q_assign rfl) rfl ?_
  refine WPL.nil ?_
  refine WPC.ret ?_
  exact endR_r rfl (.tmp rfl .nil) (Imp.pick (by repeat (first | exact Pick.nil | apply Pick.keep (by repeat (first | exact List.Mem.head _ | apply List.Mem.tail)) (by first | exact Pers.cells _ _ _ | exact Pers.slv _ _ _) | apply Pick.cons (by repeat (first | exact Pick1.here | apply Pick1.there))))) ⟨rfl, rfl⟩

theorem c_Add {p : Bool} {a : Option Addr} {n c : Nat} {base bt : Int} {es : List RE} (hs : Sok 3 a n c (es.flatMap encE)) (hn : n < 536870912) (e : RE) : Trip Try.prog 59 #[(.agg #[.int .u64 base, .int .u64 bt, .slice a n c]), .agg (encE e).toArray] [sl p a (es.flatMap encE)] fun r Δ => ∃ a' c', r = .agg #[.int .u64 base, .int .u64 bt, .slice a' (n + 1) c'] ∧ Δ = [buf 3 a' (n + 1) c' ((es ++ [e]).flatMap encE), sl p a (es.flatMap encE)] := by
  have hs2 : Sok 3 a n n (es.flatMap encE) := ⟨hs.len, Nat.le_refl _, hs.pl⟩
  refine Trip.start 13 [.cell 4 26] [(0, (.agg #[.int .u64 base, .int .u64 bt, .slice a n c])), (1, .agg (encE e).toArray)] Try.func59 rfl Try.ntmps59 rfl ⟨rfl, rfl, trivial⟩ rfl ?_
  refine WPC.seqR ?_
  first | refine WPL.cons rfl (E1.wpo (e_boxN rfl) rfl ?_) | refine WPL.cons rfl (E1.wpo (e_box1 rfl rfl) rfl ?_)
  rintro _ _ ⟨b1, rfl, rfl⟩
  refine WPL.putS ?_
  first | refine WPL.cons rfl (E1.wpo (e_boxN rfl) rfl ?_) | refine WPL.cons rfl (E1.wpo (e_box1 rfl rfl) rfl ?_)
  rintro _ _ ⟨b2, rfl, rfl⟩
  refine WPL.putS ?_
  refine WPL.cons rfl (E1.wpo (e_allocL zl_terms_Log) rfl ?_)
  rintro _ _ ⟨b3, rfl, rfl⟩
  refine WPL.putS ?_
  refine WPL.nil ?_
  refine WPC.seqD mixed ?_
  first | refine WPA.takeP 0 rfl (q_faK fa_terms_Log_Entries rfl) (by kernel_rfl) (by kernel_rfl) (by kernel_rfl) rfl rfl (.nil _) ?_ | refine WPA.takeP 0 rfl (q_fa fa_terms_Log_Entries rfl) (by kernel_rfl) (by kernel_rfl) (by kernel_rfl) rfl rfl (.nil _) ?_
  refine WPA.putS ?_
  first | refine WPA.takeL 1 rfl (Ent.mem (by repeat (first | exact List.Mem.head _ | apply List.Mem.tail))) (q_load1z ld_sl_api_Entry rfl (.head _) (by rfl)) (by kernel_rfl) (by kernel_rfl) (by kernel_rfl) rfl rfl (.nil _) ?_ | refine WPA.takeL 1 rfl (Ent.mem (by repeat (first | exact List.Mem.head _ | apply List.Mem.tail))) (q_load1 ld_sl_api_Entry rfl (.head _) rfl (by rfl)) (by kernel_rfl) (by kernel_rfl) (by kernel_rfl) rfl rfl (.nil _) ?_
  refine WPA.putS ?_
  first | refine WPA.takeL 3 rfl (Ent.mem (by repeat (first | exact List.Mem.head _ | apply List.Mem.tail))) (q_loadNz (us := [_, _, _]) ld_api_Entry rfl (.head _) (by exact ⟨rfl, rfl⟩)) (by kernel_rfl) (by kernel_rfl) (by kernel_rfl) rfl rfl (.cons (Ent.mem (by repeat (first | exact List.Mem.head _ | apply List.Mem.tail))) (.nil _)) ?_ | refine WPA.takeL 3 rfl (Ent.mem (by repeat (first | exact List.Mem.head _ | apply List.Mem.tail))) (q_loadNk (us := [_, _, _]) ld_api_Entry rfl (.head _) (by exact ⟨rfl, rfl⟩)) (by kernel_rfl) (by kernel_rfl) (by kernel_rfl) rfl rfl (.cons (Ent.mem (by repeat (first | exact List.Mem.head _ | apply List.Mem.tail))) (.nil _)) ?_
  refine WPA.putS ?_
  refine WPA.two 2 4 (by kernel_rfl) ?_ ?_
  · refine Eff.mk 2 [(3, [_])] rfl rfl (by repeat (first | exact .nil | refine .anc rfl ?_ | refine .keep (by repeat (first | exact List.Mem.head _ | apply List.Mem.tail)) ?_)) (C1.call (c_call Try.func61 rfl rfl rfl) (c_Clip hs.cap) (by repeat (first | exact Pick.nil | apply Pick.keep (by repeat (first | exact List.Mem.head _ | apply List.Mem.tail)) (by first | exact Pers.cells _ _ _ | exact Pers.slv _ _ _) | apply Pick.cons (by repeat (first | exact Pick1.here | apply Pick1.there)))) rfl ?_)
    rintro _ _ ⟨rfl, rfl⟩
    refine ⟨(.cons (Ent.mem (by repeat (first | exact List.Mem.head _ | apply List.Mem.tail))) (.nil _)), ?_⟩
    refine WPA.putS ?_
    refine WPA.oneE 4 [] (by kernel_rfl) rfl rfl (by repeat (first | exact .nil | refine .anc rfl ?_ | refine .keep (by repeat (first | exact List.Mem.head _ | apply List.Mem.tail)) ?_)) (E1.wpo (e_buildSlice mk_sl_api_Entry (by decide) rfl rfl rfl) rfl ?_)
    rintro _ _ ⟨bE, rfl, rfl⟩
    refine ⟨(.nil _), ?_⟩
    refine WPA.putS ?_
    refine WPA.oneE 5 [] (by kernel_rfl) rfl rfl (by repeat (first | exact .nil | refine .anc rfl ?_ | refine .keep (by repeat (first | exact List.Mem.head _ | apply List.Mem.tail)) ?_)) (E1.wpo (e_appendNew (m := 1) (cs := es.flatMap encE) (news := encE e) mk_sl_api_Entry (by decide) rfl rfl (Rd.mem hs2 (hs2.none0 (by omega)) (by repeat (first | exact List.Mem.head _ | apply List.Mem.tail))) (Rd.part (i := 0) (b := bE) (o := 0) (vs := encE e) (by repeat (first | exact List.Mem.head _ | apply List.Mem.tail)) rfl rfl rfl) rfl (.inl (by omega)) (by omega) (by omega)) rfl ?_)
    rintro _ _ ⟨a', c', rfl, -, rfl⟩
    refine ⟨(.nil _), ?_⟩
    refine WPA.putS ?_
    first | refine WPA.takeP 6 rfl (q_faK fa_terms_Log_Entries rfl) (by kernel_rfl) (by kernel_rfl) (by kernel_rfl) rfl rfl (.nil _) ?_ | refine WPA.takeP 6 rfl (q_fa fa_terms_Log_Entries rfl) (by kernel_rfl) (by kernel_rfl) (by kernel_rfl) rfl rfl (.nil _) ?_
    refine WPA.putS ?_
    refine WPA.oneE 7 [] (by kernel_rfl) rfl rfl (by repeat (first | exact .nil | refine .anc rfl ?_ | refine .keep (by repeat (first | exact List.Mem.head _ | apply List.Mem.tail)) ?_)) (S1.wpo (s_store1k sz_sl_api_Entry rfl rfl rfl rfl (by repeat (first | exact Upd.here | apply Upd.there)) (by repeat constructor)) rfl ?_)
    refine ⟨(.nil _), ?_⟩
    refine WPA.putN ?_
    refine WPA.done (by kernel_rfl) ?_
    refine WPC.seqR ?_
    first | refine L_s (q_loadNz (us := [_, _, _]) ld_terms_Log rfl (by repeat (first | exact List.Mem.head _ | apply List.Mem.tail)) (by exact ⟨rfl, rfl⟩)) rfl ?_ | refine L_s (q_loadNk (us := [_, _, _]) ld_terms_Log rfl (by repeat (first | exact List.Mem.head _ | apply List.Mem.tail)) (by exact ⟨rfl, rfl⟩)) rfl ?_
    refine WPL.cons rfl (S1.wpo (s_storeNz sz_terms_Log rfl rfl (by simp [Value.oneCell']) rfl (by repeat (first | exact Upd.here | apply Upd.there)) (by repeat constructor)) rfl ?_)
    refine WPL.putN ?_
    refine WPL.nil ?_
    refine WPC.ret ?_
    simp only [flat_snoc]
    exact endR_r rfl (.cellN (us := [_, _, _]) rfl ld_terms_Log (by repeat (first | exact List.Mem.head _ | apply List.Mem.tail)) rfl rfl .nil) (Imp.pick (by repeat (first | exact Pick.nil | apply Pick.keep (by repeat (first | exact List.Mem.head _ | apply List.Mem.tail)) (by first | exact Pers.cells _ _ _ | exact Pers.slv _ _ _) | apply Pick.cons (by repeat (first | exact Pick1.here | apply Pick1.there))))) ⟨a', c', rfl, rfl⟩
  · refine Eff.mk 4 [(1, [_])] rfl rfl (by repeat (first | exact .nil | refine .anc rfl ?_ | refine .keep (by repeat (first | exact List.Mem.head _ | apply List.Mem.tail)) ?_)) (E1.wpo (e_buildSlice mk_sl_api_Entry (by decide) rfl rfl rfl) rfl ?_)
    rintro _ _ ⟨bE, rfl, rfl⟩
    refine ⟨(.cons (Ent.mem (by repeat (first | exact List.Mem.head _ | apply List.Mem.tail))) (.nil _)), ?_⟩
    refine WPA.putS ?_
    refine WPA.oneE 2 [] (by kernel_rfl) rfl rfl (by repeat (first | exact .nil | refine .anc rfl ?_ | refine .keep (by repeat (first | exact List.Mem.head _ | apply List.Mem.tail)) ?_)) (C1.call (c_call Try.func61 rfl rfl rfl) (c_Clip hs.cap) (by repeat (first | exact Pick.nil | apply Pick.keep (by repeat (first | exact List.Mem.head _ | apply List.Mem.tail)) (by first | exact Pers.cells _ _ _ | exact Pers.slv _ _ _) | apply Pick.cons (by repeat (first | exact Pick1.here | apply Pick1.there)))) rfl ?_)
    rintro _ _ ⟨rfl, rfl⟩
    refine ⟨(.nil _), ?_⟩
    refine WPA.putS ?_
    refine WPA.oneE 5 [] (by kernel_rfl) rfl rfl (by repeat (first | exact .nil | refine .anc rfl ?_ | refine .keep (by repeat (first | exact List.Mem.head _ | apply List.Mem.tail)) ?_)) (E1.wpo (e_appendNew (m := 1) (cs := es.flatMap encE) (news := encE e) mk_sl_api_Entry (by decide) rfl rfl (Rd.mem hs2 (hs2.none0 (by omega)) (by repeat (first | exact List.Mem.head _ | apply List.Mem.tail))) (Rd.part (i := 0) (b := bE) (o := 0) (vs := encE e) (by repeat (first | exact List.Mem.head _ | apply List.Mem.tail)) rfl rfl rfl) rfl (.inl (by omega)) (by omega) (by omega)) rfl ?_)
    rintro _ _ ⟨a', c', rfl, -, rfl⟩
    refine ⟨(.nil _), ?_⟩
    refine WPA.putS ?_
    first | refine WPA.takeP 6 rfl (q_faK fa_terms_Log_Entries rfl) (by kernel_rfl) (by kernel_rfl) (by kernel_rfl) rfl rfl (.nil _) ?_ | refine WPA.takeP 6 rfl (q_fa fa_terms_Log_Entries rfl) (by kernel_rfl) (by kernel_rfl) (by kernel_rfl) rfl rfl (.nil _) ?_
    refine WPA.putS ?_
    refine WPA.oneE 7 [] (by kernel_rfl) rfl rfl (by repeat (first | exact .nil | refine .anc rfl ?_ | refine .keep (by repeat (first | exact List.Mem.head _ | apply List.Mem.tail)) ?_)) (S1.wpo (s_store1k sz_sl_api_Entry rfl rfl rfl rfl (by repeat (first | exact Upd.here | apply Upd.there)) (by repeat constructor)) rfl ?_)
    refine ⟨(.nil _), ?_⟩
    refine WPA.putN ?_
    refine WPA.done (by kernel_rfl) ?_
    refine WPC.seqR ?_
    first | refine L_s (q_loadNz (us := [_, _, _]) ld_terms_Log rfl (by repeat (first | exact List.Mem.head _ | apply List.Mem.tail)) (by exact ⟨rfl, rfl⟩)) rfl ?_ | refine L_s (q_loadNk (us := [_, _, _]) ld_terms_Log rfl (by repeat (first | exact List.Mem.head _ | apply List.Mem.tail)) (by exact ⟨rfl, rfl⟩)) rfl ?_
    refine WPL.cons rfl (S1.wpo (s_storeNz sz_terms_Log rfl rfl (by simp [Value.oneCell']) rfl (by repeat (first | exact Upd.here | apply Upd.there)) (by repeat constructor)) rfl ?_)
    refine WPL.putN ?_
    refine WPL.nil ?_
    refine WPC.ret ?_
    simp only [flat_snoc]
    exact endR_r rfl (.cellN (us := [_, _, _]) rfl ld_terms_Log (by repeat (first | exact List.Mem.head _ | apply List.Mem.tail)) rfl rfl .nil) (Imp.pick (by repeat (first | exact Pick.nil | apply Pick.keep (by repeat (first | exact List.Mem.head _ | apply List.Mem.tail)) (by first | exact Pers.cells _ _ _ | exact Pers.slv _ _ _) | apply Pick.cons (by repeat (first | exact Pick1.here | apply Pick1.there))))) ⟨a', c', rfl, rfl⟩

theorem c_lead {b o : Nat} {x : EN} (hx : x.fits) : Trip Try.prog 53 #[.pointer (some ⟨b, o, none⟩)] [enode b o x] fun r Δ => r = .tuple #[] ∧ Δ = [enode b o x.lead5] := by
  obtain ⟨me, vote, role, lead, conf, yes, term, commit, base, bt, es, heard, next, mtch⟩ := x
  obtain ⟨hme, hterm, hbase, hes, hys⟩ := hx
  dsimp only at hme hterm hbase hes
  obtain ⟨mn, rfl⟩ : ∃ mn : Nat, me = (mn : Int) := ⟨me.toNat, by omega⟩
  refine enode_open fun L hL => ?_
  obtain ⟨ca, cn, cc, ya, yn, yc, ea, en, ec, na, ma⟩ := L
  obtain ⟨hc, hcn, he, hen, hnx, hmt⟩ := hL
  dsimp only at hc hcn he hen hnx hmt
  dsimp only [nodeC]
  have hel : es.length = en := by have := he.len; rw [flat_length encE_len] at this; omega
  have hpn : Pl (some ⟨na, 0, none⟩) := rfl
  have hpm : Pl (some ⟨ma, 0, none⟩) := rfl
  have hb : 0 ≤ base ∧ base ≤ 4611686018427387904 := by omega
  rw [show EN.lead5 ⟨(mn : Int), vote, role, lead, conf, yes, term, commit, base, bt, es, heard, next, mtch⟩ = ⟨(mn : Int), vote, 3, (mn : Int), conf, [], term, commit, base, bt, es ++ [⟨term, 0, none, 0, 0⟩], heard, List.replicate 16 (base + ((en + 1 : Nat) : Int)), (List.replicate 16 0).set mn (base + ((en + 1 : Nat) : Int))⟩ by simp [EN.lead5, EN.grow, hel]]
  refine Trip.start 69 [] [(0, .pointer (some ⟨b, o, none⟩))] Try.func53 rfl Try.ntmps53 rfl ⟨rfl, trivial⟩ rfl ?_
  refine WPC.seqR ?_
  refine L_s (q_move rfl) rfl ?_
  refine L_s (q_move rfl) rfl ?_
  refine L_s (q_move rfl) rfl ?_
  refine L_s (q_move rfl) rfl ?_
  first | refine L_s (q_nilP rfl) rfl ?_ | refine L_s (q_nilF rfl) rfl ?_
  first | refine L_s (q_faK fa_elect_Node_Me rfl) rfl ?_ | refine L_s (q_fa fa_elect_Node_Me rfl) rfl ?_
  first | refine L_s (q_load1z ld_int rfl (by repeat (first | exact List.Mem.head _ | apply List.Mem.tail)) (by rfl)) rfl ?_ | refine L_s (q_load1 ld_int rfl (by repeat (first | exact List.Mem.head _ | apply List.Mem.tail)) rfl (by rfl)) rfl ?_
  first | refine L_s (q_nilP rfl) rfl ?_ | refine L_s (q_nilF rfl) rfl ?_
  first | refine L_s (q_faK fa_elect_Node_Role rfl) rfl ?_ | refine L_s (q_fa fa_elect_Node_Role rfl) rfl ?_
  refine WPL.cons rfl (S1.wpo (s_store1k sz_int rfl rfl rfl rfl (by repeat (first | exact Upd.here | apply Upd.there)) (by repeat constructor)) rfl ?_)
  refine WPL.putN ?_
  first | refine L_s (q_nilP rfl) rfl ?_ | refine L_s (q_nilF rfl) rfl ?_
  first | refine L_s (q_faK fa_elect_Node_Lead rfl) rfl ?_ | refine L_s (q_fa fa_elect_Node_Lead rfl) rfl ?_
  refine WPL.cons rfl (S1.wpo (s_store1k sz_int rfl rfl rfl rfl (by repeat (first | exact Upd.here | apply Upd.there)) (by repeat constructor)) rfl ?_)
  refine WPL.putN ?_
  first | refine L_s (q_nilP rfl) rfl ?_ | refine L_s (q_nilF rfl) rfl ?_
  first | refine L_s (q_faK fa_elect_Node_Yes rfl) rfl ?_ | refine L_s (q_fa fa_elect_Node_Yes rfl) rfl ?_
  refine WPL.cons rfl (S1.wpo (s_store1k sz_sl_int rfl rfl rfl rfl (by repeat (first | exact Upd.here | apply Upd.there)) (by repeat constructor)) rfl ?_)
  refine WPL.putN ?_
  refine WPL.nil ?_
  refine WPC.seqD mixed ?_
  refine WPA.takeP 0 rfl (q_move rfl) (by kernel_rfl) (by kernel_rfl) (by kernel_rfl) rfl rfl (.nil _) ?_
  refine WPA.putS ?_
  refine WPA.takeP 1 rfl (q_move rfl) (by kernel_rfl) (by kernel_rfl) (by kernel_rfl) rfl rfl (.nil _) ?_
  refine WPA.putS ?_
  first | refine WPA.takeP 2 rfl (q_nilP rfl) (by kernel_rfl) (by kernel_rfl) (by kernel_rfl) rfl rfl (.nil _) ?_ | refine WPA.takeP 2 rfl (q_nilF rfl) (by kernel_rfl) (by kernel_rfl) (by kernel_rfl) rfl rfl (.nil _) ?_
  refine WPA.putS ?_
  first | refine WPA.takeP 3 rfl (q_faK fa_elect_Node_Log rfl) (by kernel_rfl) (by kernel_rfl) (by kernel_rfl) rfl rfl (.nil _) ?_ | refine WPA.takeP 3 rfl (q_fa fa_elect_Node_Log rfl) (by kernel_rfl) (by kernel_rfl) (by kernel_rfl) rfl rfl (.nil _) ?_
  refine WPA.putS ?_
  first | refine WPA.takeL 4 rfl (Ent.mem (by repeat (first | exact List.Mem.head _ | apply List.Mem.tail))) (q_loadNz (us := [_, _, _]) ld_terms_Log rfl (.head _) (by exact ⟨rfl, rfl⟩)) (by kernel_rfl) (by kernel_rfl) (by kernel_rfl) rfl rfl (.nil _) ?_ | refine WPA.takeL 4 rfl (Ent.mem (by repeat (first | exact List.Mem.head _ | apply List.Mem.tail))) (q_loadNk (us := [_, _, _]) ld_terms_Log rfl (.head _) (by exact ⟨rfl, rfl⟩)) (by kernel_rfl) (by kernel_rfl) (by kernel_rfl) rfl rfl (.nil _) ?_
  refine WPA.putS ?_
  refine WPA.takeP 5 rfl (q_move rfl) (by kernel_rfl) (by kernel_rfl) (by kernel_rfl) rfl rfl (.cons (Ent.mem (by repeat (first | exact List.Mem.head _ | apply List.Mem.tail))) (.nil _)) ?_
  refine WPA.putS ?_
  first | refine WPA.takeP 6 rfl (q_nilP rfl) (by kernel_rfl) (by kernel_rfl) (by kernel_rfl) rfl rfl (.cons (Ent.mem (by repeat (first | exact List.Mem.head _ | apply List.Mem.tail))) (.nil _)) ?_ | refine WPA.takeP 6 rfl (q_nilF rfl) (by kernel_rfl) (by kernel_rfl) (by kernel_rfl) rfl rfl (.cons (Ent.mem (by repeat (first | exact List.Mem.head _ | apply List.Mem.tail))) (.nil _)) ?_
  refine WPA.putS ?_
  first | refine WPA.takeP 7 rfl (q_faK fa_elect_Node_Term rfl) (by kernel_rfl) (by kernel_rfl) (by kernel_rfl) rfl rfl (.cons (Ent.mem (by repeat (first | exact List.Mem.head _ | apply List.Mem.tail))) (.nil _)) ?_ | refine WPA.takeP 7 rfl (q_fa fa_elect_Node_Term rfl) (by kernel_rfl) (by kernel_rfl) (by kernel_rfl) rfl rfl (.cons (Ent.mem (by repeat (first | exact List.Mem.head _ | apply List.Mem.tail))) (.nil _)) ?_
  refine WPA.putS ?_
  first | refine WPA.takeL 8 rfl (Ent.mem (by repeat (first | exact List.Mem.head _ | apply List.Mem.tail))) (q_load1z ld_uint64 rfl (.head _) (by rfl)) (by kernel_rfl) (by kernel_rfl) (by kernel_rfl) rfl rfl (.cons (Ent.mem (by repeat (first | exact List.Mem.head _ | apply List.Mem.tail))) (.nil _)) ?_ | refine WPA.takeL 8 rfl (Ent.mem (by repeat (first | exact List.Mem.head _ | apply List.Mem.tail))) (q_load1 ld_uint64 rfl (.head _) rfl (by rfl)) (by kernel_rfl) (by kernel_rfl) (by kernel_rfl) rfl rfl (.cons (Ent.mem (by repeat (first | exact List.Mem.head _ | apply List.Mem.tail))) (.nil _)) ?_
  refine WPA.putS ?_
  refine WPA.takeP 9 rfl (q_build (cs := [_, _, _]) pl_api_Entry rfl rfl) (by kernel_rfl) (by kernel_rfl) (by kernel_rfl) rfl rfl (.cons (Ent.mem (by repeat (first | exact List.Mem.head _ | apply List.Mem.tail))) (.cons (Ent.mem (by repeat (first | exact List.Mem.head _ | apply List.Mem.tail))) (.nil _))) ?_
  refine WPA.putS ?_
  refine WPA.oneE 10 [] (by kernel_rfl) rfl rfl (by repeat (first | exact .nil | refine .anc rfl ?_ | refine .keep (by repeat (first | exact List.Mem.head _ | apply List.Mem.tail)) ?_)) (C1.call (c_call Try.func59 rfl rfl rfl) (c_Add he (by omega) ⟨term, 0, none, 0, 0⟩) (by repeat (first | exact Pick.nil | apply Pick.keep (by repeat (first | exact List.Mem.head _ | apply List.Mem.tail)) (by first | exact Pers.cells _ _ _ | exact Pers.slv _ _ _) | apply Pick.cons (by repeat (first | exact Pick1.here | apply Pick1.there)))) rfl ?_)
  rintro _ _ ⟨a', c', rfl, rfl⟩
  refine ⟨(.nil _), ?_⟩
  refine WPA.putS ?_
  first | refine WPA.takeP 11 rfl (q_nilP rfl) (by kernel_rfl) (by kernel_rfl) (by kernel_rfl) rfl rfl (.nil _) ?_ | refine WPA.takeP 11 rfl (q_nilF rfl) (by kernel_rfl) (by kernel_rfl) (by kernel_rfl) rfl rfl (.nil _) ?_
  refine WPA.putS ?_
  first | refine WPA.takeP 12 rfl (q_faK fa_elect_Node_Log rfl) (by kernel_rfl) (by kernel_rfl) (by kernel_rfl) rfl rfl (.nil _) ?_ | refine WPA.takeP 12 rfl (q_fa fa_elect_Node_Log rfl) (by kernel_rfl) (by kernel_rfl) (by kernel_rfl) rfl rfl (.nil _) ?_
  refine WPA.putS ?_
  refine WPA.oneE 13 [] (by kernel_rfl) rfl rfl (by repeat (first | exact .nil | refine .anc rfl ?_ | refine .keep (by repeat (first | exact List.Mem.head _ | apply List.Mem.tail)) ?_)) (S1.wpo (s_storeNk sz_terms_Log rfl rfl (by simp [Value.oneCell']) rfl (by repeat (first | exact Upd.here | apply Upd.there)) (by repeat constructor)) rfl ?_)
  refine ⟨(.nil _), ?_⟩
  refine WPA.putN ?_
  refine WPA.done (by kernel_rfl) ?_
  refine WPC.bufRo fun hs2 => ?_
  refine WPC.imp (Imp.bufNil (sz := 1)) ?_
  refine WPC.seq ?_
  refine WPC.seqR ?_
  refine L_s (q_move rfl) rfl ?_
  first | refine L_s (q_nilP rfl) rfl ?_ | refine L_s (q_nilF rfl) rfl ?_
  first | refine L_s (q_faK fa_elect_Node_Next rfl) rfl ?_ | refine L_s (q_fa fa_elect_Node_Next rfl) rfl ?_
  first | refine L_s (q_load1z ld_sl_uint64 rfl (by repeat (first | exact List.Mem.head _ | apply List.Mem.tail)) (by rfl)) rfl ?_ | refine L_s (q_load1 ld_sl_uint64 rfl (by repeat (first | exact List.Mem.head _ | apply List.Mem.tail)) rfl (by rfl)) rfl ?_
  refine L_s (q_len rfl un_sl_uint64 rfl) rfl ?_
  refine L_s (q_move rfl) rfl ?_
  refine WPL.nil ?_
  refine WPC.prune [(0, _), (33, _), (34, _)] (by repeat (first | exact trivial | refine ⟨rfl, ?_⟩)) ?_
  refine WPC.block ?_
  refine WPC.loopS (fun m e Γ => ∃ (k : Nat) (nx mt : List Int), m = 16 - k ∧ k ≤ 16 ∧ nx.length = 16 ∧ mt.length = 16 ∧ nx.take k = List.replicate k (base + ((en + 1 : Nat) : Int)) ∧ mt.take k = List.replicate k 0 ∧ e = [(0, .pointer (some ⟨b, o, none⟩)), (33, .int .i64 16), (34, .int .i64 (k : Int))] ∧ Γ = [cells true b o (nodeC ⟨(mn : Int), vote, 3, (mn : Int), conf, [], term, commit, base, bt, es ++ [⟨term, 0, none, 0, 0⟩], heard, nx, mt⟩ ⟨ca, cn, cc, none, 0, 0, a', en + 1, c', na, ma⟩), sl false ca (conf.map (.int .i64)), buf 1 none 0 0 [], sl false a' ((es ++ [(⟨term, 0, none, 0, 0⟩ : RE)]).flatMap encE), cells true na 0 (nx.map (.int .u64)), cells true ma 0 (mt.map (.int .u64))]) (16) ⟨0, next, mtch, rfl, by omega, hnx, hmt, rfl, rfl, rfl, rfl⟩ (by repeat (first | exact trivial | refine ⟨rfl, ?_⟩)) (Imp.pick (by repeat (first | exact Pick.nil | apply Pick.keep (by repeat (first | exact List.Mem.head _ | apply List.Mem.tail)) (by first | exact Pers.cells _ _ _ | exact Pers.slv _ _ _) | apply Pick.cons (by repeat (first | exact Pick1.here | apply Pick1.there))))) ?_
  rintro m e Γ ⟨k, nx, mt, rfl, hk, hnl, hml, hnt, hmt2, rfl, rfl⟩
  refine WPC.seqR ?_
  refine L_s (q_int rfl rfl rfl) rfl ?_
  refine WPL.nil ?_
  refine WPC.seq ?_
  refine WPC.cond rfl (fun h0 => ?_) (fun h0 => ?_)
  · simp only [decide_eq_true_eq] at h0
    have hk' : k < 16 := by omega
    refine WPC.skip ?_
    refine thenQ_n ?_
    refine WPC.seq ?_
    refine WPC.block ?_
    refine WPC.seqR ?_
    refine L_s (q_move rfl) rfl ?_
    refine L_s (q_assign rfl) rfl ?_
    refine WPL.nil ?_
    refine WPC.draw mixed ?_
    refine WPA.takeP 0 rfl (q_move rfl) (by kernel_rfl) (by kernel_rfl) (by kernel_rfl) rfl rfl (.nil _) ?_
    refine WPA.putS ?_
    first | refine WPA.takeP 1 rfl (q_nilP rfl) (by kernel_rfl) (by kernel_rfl) (by kernel_rfl) rfl rfl (.nil _) ?_ | refine WPA.takeP 1 rfl (q_nilF rfl) (by kernel_rfl) (by kernel_rfl) (by kernel_rfl) rfl rfl (.nil _) ?_
    refine WPA.putS ?_
    first | refine WPA.takeP 2 rfl (q_faK fa_elect_Node_Next rfl) (by kernel_rfl) (by kernel_rfl) (by kernel_rfl) rfl rfl (.nil _) ?_ | refine WPA.takeP 2 rfl (q_fa fa_elect_Node_Next rfl) (by kernel_rfl) (by kernel_rfl) (by kernel_rfl) rfl rfl (.nil _) ?_
    refine WPA.putS ?_
    first | refine WPA.takeL 3 rfl (Ent.mem (by repeat (first | exact List.Mem.head _ | apply List.Mem.tail))) (q_load1z ld_sl_uint64 rfl (.head _) (by rfl)) (by kernel_rfl) (by kernel_rfl) (by kernel_rfl) rfl rfl (.nil _) ?_ | refine WPA.takeL 3 rfl (Ent.mem (by repeat (first | exact List.Mem.head _ | apply List.Mem.tail))) (q_load1 ld_sl_uint64 rfl (.head _) rfl (by rfl)) (by kernel_rfl) (by kernel_rfl) (by kernel_rfl) rfl rfl (.nil _) ?_
    refine WPA.putS ?_
    refine WPA.takeP 4 rfl (q_move rfl) (by kernel_rfl) (by kernel_rfl) (by kernel_rfl) rfl rfl (.cons (Ent.mem (by repeat (first | exact List.Mem.head _ | apply List.Mem.tail))) (.nil _)) ?_
    refine WPA.putS ?_
    refine WPA.takeP 5 rfl (q_move rfl) (by kernel_rfl) (by kernel_rfl) (by kernel_rfl) rfl rfl (.cons (Ent.mem (by repeat (first | exact List.Mem.head _ | apply List.Mem.tail))) (.nil _)) ?_
    refine WPA.putS ?_
    first | refine WPA.takeP 6 rfl (q_nilP rfl) (by kernel_rfl) (by kernel_rfl) (by kernel_rfl) rfl rfl (.cons (Ent.mem (by repeat (first | exact List.Mem.head _ | apply List.Mem.tail))) (.nil _)) ?_ | refine WPA.takeP 6 rfl (q_nilF rfl) (by kernel_rfl) (by kernel_rfl) (by kernel_rfl) rfl rfl (.cons (Ent.mem (by repeat (first | exact List.Mem.head _ | apply List.Mem.tail))) (.nil _)) ?_
    refine WPA.putS ?_
    first | refine WPA.takeP 7 rfl (q_faK fa_elect_Node_Match rfl) (by kernel_rfl) (by kernel_rfl) (by kernel_rfl) rfl rfl (.cons (Ent.mem (by repeat (first | exact List.Mem.head _ | apply List.Mem.tail))) (.nil _)) ?_ | refine WPA.takeP 7 rfl (q_fa fa_elect_Node_Match rfl) (by kernel_rfl) (by kernel_rfl) (by kernel_rfl) rfl rfl (.cons (Ent.mem (by repeat (first | exact List.Mem.head _ | apply List.Mem.tail))) (.nil _)) ?_
    refine WPA.putS ?_
    first | refine WPA.takeL 8 rfl (Ent.mem (by repeat (first | exact List.Mem.head _ | apply List.Mem.tail))) (q_load1z ld_sl_uint64 rfl (.head _) (by rfl)) (by kernel_rfl) (by kernel_rfl) (by kernel_rfl) rfl rfl (.cons (Ent.mem (by repeat (first | exact List.Mem.head _ | apply List.Mem.tail))) (.nil _)) ?_ | refine WPA.takeL 8 rfl (Ent.mem (by repeat (first | exact List.Mem.head _ | apply List.Mem.tail))) (q_load1 ld_sl_uint64 rfl (.head _) rfl (by rfl)) (by kernel_rfl) (by kernel_rfl) (by kernel_rfl) rfl rfl (.cons (Ent.mem (by repeat (first | exact List.Mem.head _ | apply List.Mem.tail))) (.nil _)) ?_
    refine WPA.putS ?_
    refine WPA.takeP 9 rfl (q_move rfl) (by kernel_rfl) (by kernel_rfl) (by kernel_rfl) rfl rfl (.cons (Ent.mem (by repeat (first | exact List.Mem.head _ | apply List.Mem.tail))) (.cons (Ent.mem (by repeat (first | exact List.Mem.head _ | apply List.Mem.tail))) (.nil _))) ?_
    refine WPA.putS ?_
    refine WPA.takeP 10 rfl (q_move rfl) (by kernel_rfl) (by kernel_rfl) (by kernel_rfl) rfl rfl (.cons (Ent.mem (by repeat (first | exact List.Mem.head _ | apply List.Mem.tail))) (.cons (Ent.mem (by repeat (first | exact List.Mem.head _ | apply List.Mem.tail))) (.nil _))) ?_
    refine WPA.putS ?_
    first | refine WPA.takeP 11 rfl (q_nilP rfl) (by kernel_rfl) (by kernel_rfl) (by kernel_rfl) rfl rfl (.cons (Ent.mem (by repeat (first | exact List.Mem.head _ | apply List.Mem.tail))) (.cons (Ent.mem (by repeat (first | exact List.Mem.head _ | apply List.Mem.tail))) (.nil _))) ?_ | refine WPA.takeP 11 rfl (q_nilF rfl) (by kernel_rfl) (by kernel_rfl) (by kernel_rfl) rfl rfl (.cons (Ent.mem (by repeat (first | exact List.Mem.head _ | apply List.Mem.tail))) (.cons (Ent.mem (by repeat (first | exact List.Mem.head _ | apply List.Mem.tail))) (.nil _))) ?_
    refine WPA.putS ?_
    first | refine WPA.takeP 12 rfl (q_faK fa_elect_Node_Log rfl) (by kernel_rfl) (by kernel_rfl) (by kernel_rfl) rfl rfl (.cons (Ent.mem (by repeat (first | exact List.Mem.head _ | apply List.Mem.tail))) (.cons (Ent.mem (by repeat (first | exact List.Mem.head _ | apply List.Mem.tail))) (.nil _))) ?_ | refine WPA.takeP 12 rfl (q_fa fa_elect_Node_Log rfl) (by kernel_rfl) (by kernel_rfl) (by kernel_rfl) rfl rfl (.cons (Ent.mem (by repeat (first | exact List.Mem.head _ | apply List.Mem.tail))) (.cons (Ent.mem (by repeat (first | exact List.Mem.head _ | apply List.Mem.tail))) (.nil _))) ?_
    refine WPA.putS ?_
    first | refine WPA.takeL 13 rfl (Ent.mem (by repeat (first | exact List.Mem.head _ | apply List.Mem.tail))) (q_loadNz (us := [_, _, _]) ld_terms_Log rfl (.head _) (by exact ⟨rfl, rfl⟩)) (by kernel_rfl) (by kernel_rfl) (by kernel_rfl) rfl rfl (.cons (Ent.mem (by repeat (first | exact List.Mem.head _ | apply List.Mem.tail))) (.cons (Ent.mem (by repeat (first | exact List.Mem.head _ | apply List.Mem.tail))) (.nil _))) ?_ | refine WPA.takeL 13 rfl (Ent.mem (by repeat (first | exact List.Mem.head _ | apply List.Mem.tail))) (q_loadNk (us := [_, _, _]) ld_terms_Log rfl (.head _) (by exact ⟨rfl, rfl⟩)) (by kernel_rfl) (by kernel_rfl) (by kernel_rfl) rfl rfl (.cons (Ent.mem (by repeat (first | exact List.Mem.head _ | apply List.Mem.tail))) (.cons (Ent.mem (by repeat (first | exact List.Mem.head _ | apply List.Mem.tail))) (.nil _))) ?_
    refine WPA.putS ?_
    refine WPA.oneE 14 [(8, [_]), (3, [_])] (by kernel_rfl) rfl rfl (by repeat (first | exact .nil | refine .anc rfl ?_ | refine .keep (by repeat (first | exact List.Mem.head _ | apply List.Mem.tail)) ?_)) (C1.call (c_call Try.func29 rfl rfl rfl) (c_Last (n := en + 1) hb (by omega)) (by repeat (first | exact Pick.nil | apply Pick.keep (by repeat (first | exact List.Mem.head _ | apply List.Mem.tail)) (by first | exact Pers.cells _ _ _ | exact Pers.slv _ _ _) | apply Pick.cons (by repeat (first | exact Pick1.here | apply Pick1.there)))) rfl ?_)
    rintro _ _ ⟨rfl, rfl⟩
    refine ⟨(.cons (Ent.mem (by repeat (first | exact List.Mem.head _ | apply List.Mem.tail))) (.cons (Ent.mem (by repeat (first | exact List.Mem.head _ | apply List.Mem.tail))) (.nil _))), ?_⟩
    refine WPA.putS ?_
    first | refine WPA.takeP 15 rfl (q_idxN sl_sl_uint64 rfl rfl (by omega) (by assumption)) (by kernel_rfl) (by kernel_rfl) (by kernel_rfl) rfl rfl (.cons (Ent.mem (by repeat (first | exact List.Mem.head _ | apply List.Mem.tail))) (.cons (Ent.mem (by repeat (first | exact List.Mem.head _ | apply List.Mem.tail))) (.nil _))) ?_ | refine WPA.takeP 15 rfl (q_idx sl_sl_uint64 rfl rfl (by omega) (by omega) (by assumption)) (by kernel_rfl) (by kernel_rfl) (by kernel_rfl) rfl rfl (.cons (Ent.mem (by repeat (first | exact List.Mem.head _ | apply List.Mem.tail))) (.cons (Ent.mem (by repeat (first | exact List.Mem.head _ | apply List.Mem.tail))) (.nil _))) ?_
    refine WPA.putS ?_
    refine WPA.oneE 16 [] (by kernel_rfl) rfl rfl (by repeat (first | exact .nil | refine .anc rfl ?_ | refine .keep (by repeat (first | exact List.Mem.head _ | apply List.Mem.tail)) ?_)) (S1.wpo (s_storeMap (xs := nx) (f := .int .u64) sz_uint64 rfl rfl rfl rfl (by omega) (by repeat (first | exact Upd.here | apply Upd.there))) rfl ?_)
    refine ⟨(.nil _), ?_⟩
    refine WPA.putN ?_
    first | refine WPA.takeP 17 rfl (q_idxN sl_sl_uint64 rfl rfl (by omega) (by assumption)) (by kernel_rfl) (by kernel_rfl) (by kernel_rfl) rfl rfl (.nil _) ?_ | refine WPA.takeP 17 rfl (q_idx sl_sl_uint64 rfl rfl (by omega) (by omega) (by assumption)) (by kernel_rfl) (by kernel_rfl) (by kernel_rfl) rfl rfl (.nil _) ?_
    refine WPA.putS ?_
    refine WPA.oneE 18 [] (by kernel_rfl) rfl rfl (by repeat (first | exact .nil | refine .anc rfl ?_ | refine .keep (by repeat (first | exact List.Mem.head _ | apply List.Mem.tail)) ?_)) (S1.wpo (s_storeMap (xs := mt) (f := .int .u64) sz_uint64 rfl rfl rfl rfl (by omega) (by repeat (first | exact Upd.here | apply Upd.there))) rfl ?_)
    refine ⟨(.nil _), ?_⟩
    refine WPA.putN ?_
    refine WPA.done (by kernel_rfl) ?_
    refine blockQ_n ?_
    refine thenQ_n ?_
    refine WPC.region ?_
    first | refine L_s (q_inc rfl rfl (by omega)) rfl ?_ | refine L_s (q_addI rfl rfl (by omega)) rfl ?_ | refine L_s (q_int rfl rfl rfl) rfl ?_
    refine L_s (q_move rfl) rfl ?_
    refine WPL.nil ?_
    refine thenQ_n ?_
    exact ⟨rfl, _, _, _, by omega, ⟨k + 1, nx.set k (base + ((en + 1 : Nat) : Int)), mt.set k 0, rfl, by omega, by simp [hnl], by simp [hml], take_set_rep (by omega) hnt, take_set_rep (by omega) hmt2, rfl, rfl⟩, (by repeat (first | exact trivial | refine ⟨rfl, ?_⟩)), Imp.pick (by repeat (first | exact Pick.nil | apply Pick.keep (by repeat (first | exact List.Mem.head _ | apply List.Mem.tail)) (by first | exact Pers.cells _ _ _ | exact Pers.slv _ _ _) | apply Pick.cons (by repeat (first | exact Pick1.here | apply Pick1.there))))⟩
  · simp only [decide_eq_false_iff_not] at h0
    have hk16 : 16 ≤ k := by omega
    have hk17 : k = 16 := Nat.le_antisymm hk hk16
    rw [hk17] at hnt hmt2
    have e1 := all_eq_replicate hnl hnt
    have e2 := all_eq_replicate hml hmt2
    clear hnt hmt2 hnl hml h0
    subst e1 e2
    refine WPC.exit ?_
    refine thenQ_e ?_
    refine thenQ_e ?_
    refine blockQ_here ?_
    refine thenQ_n ?_
    refine WPC.draw mixed ?_
    refine WPA.takeP 0 rfl (q_move rfl) (by kernel_rfl) (by kernel_rfl) (by kernel_rfl) rfl rfl (.nil _) ?_
    refine WPA.putS ?_
    first | refine WPA.takeP 1 rfl (q_nilP rfl) (by kernel_rfl) (by kernel_rfl) (by kernel_rfl) rfl rfl (.nil _) ?_ | refine WPA.takeP 1 rfl (q_nilF rfl) (by kernel_rfl) (by kernel_rfl) (by kernel_rfl) rfl rfl (.nil _) ?_
    refine WPA.putS ?_
    first | refine WPA.takeP 2 rfl (q_faK fa_elect_Node_Match rfl) (by kernel_rfl) (by kernel_rfl) (by kernel_rfl) rfl rfl (.nil _) ?_ | refine WPA.takeP 2 rfl (q_fa fa_elect_Node_Match rfl) (by kernel_rfl) (by kernel_rfl) (by kernel_rfl) rfl rfl (.nil _) ?_
    refine WPA.putS ?_
    first | refine WPA.takeL 3 rfl (Ent.mem (by repeat (first | exact List.Mem.head _ | apply List.Mem.tail))) (q_load1z ld_sl_uint64 rfl (.head _) (by rfl)) (by kernel_rfl) (by kernel_rfl) (by kernel_rfl) rfl rfl (.nil _) ?_ | refine WPA.takeL 3 rfl (Ent.mem (by repeat (first | exact List.Mem.head _ | apply List.Mem.tail))) (q_load1 ld_sl_uint64 rfl (.head _) rfl (by rfl)) (by kernel_rfl) (by kernel_rfl) (by kernel_rfl) rfl rfl (.nil _) ?_
    refine WPA.putS ?_
    refine WPA.takeP 4 rfl (q_move rfl) (by kernel_rfl) (by kernel_rfl) (by kernel_rfl) rfl rfl (.cons (Ent.mem (by repeat (first | exact List.Mem.head _ | apply List.Mem.tail))) (.nil _)) ?_
    refine WPA.putS ?_
    first | refine WPA.takeP 5 rfl (q_nilP rfl) (by kernel_rfl) (by kernel_rfl) (by kernel_rfl) rfl rfl (.cons (Ent.mem (by repeat (first | exact List.Mem.head _ | apply List.Mem.tail))) (.nil _)) ?_ | refine WPA.takeP 5 rfl (q_nilF rfl) (by kernel_rfl) (by kernel_rfl) (by kernel_rfl) rfl rfl (.cons (Ent.mem (by repeat (first | exact List.Mem.head _ | apply List.Mem.tail))) (.nil _)) ?_
    refine WPA.putS ?_
    first | refine WPA.takeP 6 rfl (q_faK fa_elect_Node_Me rfl) (by kernel_rfl) (by kernel_rfl) (by kernel_rfl) rfl rfl (.cons (Ent.mem (by repeat (first | exact List.Mem.head _ | apply List.Mem.tail))) (.nil _)) ?_ | refine WPA.takeP 6 rfl (q_fa fa_elect_Node_Me rfl) (by kernel_rfl) (by kernel_rfl) (by kernel_rfl) rfl rfl (.cons (Ent.mem (by repeat (first | exact List.Mem.head _ | apply List.Mem.tail))) (.nil _)) ?_
    refine WPA.putS ?_
    first | refine WPA.takeL 7 rfl (Ent.mem (by repeat (first | exact List.Mem.head _ | apply List.Mem.tail))) (q_load1z ld_int rfl (.head _) (by rfl)) (by kernel_rfl) (by kernel_rfl) (by kernel_rfl) rfl rfl (.cons (Ent.mem (by repeat (first | exact List.Mem.head _ | apply List.Mem.tail))) (.nil _)) ?_ | refine WPA.takeL 7 rfl (Ent.mem (by repeat (first | exact List.Mem.head _ | apply List.Mem.tail))) (q_load1 ld_int rfl (.head _) rfl (by rfl)) (by kernel_rfl) (by kernel_rfl) (by kernel_rfl) rfl rfl (.cons (Ent.mem (by repeat (first | exact List.Mem.head _ | apply List.Mem.tail))) (.nil _)) ?_
    refine WPA.putS ?_
    refine WPA.takeP 8 rfl (q_move rfl) (by kernel_rfl) (by kernel_rfl) (by kernel_rfl) rfl rfl (.cons (Ent.mem (by repeat (first | exact List.Mem.head _ | apply List.Mem.tail))) (.cons (Ent.mem (by repeat (first | exact List.Mem.head _ | apply List.Mem.tail))) (.nil _))) ?_
    refine WPA.putS ?_
    first | refine WPA.takeP 9 rfl (q_nilP rfl) (by kernel_rfl) (by kernel_rfl) (by kernel_rfl) rfl rfl (.cons (Ent.mem (by repeat (first | exact List.Mem.head _ | apply List.Mem.tail))) (.cons (Ent.mem (by repeat (first | exact List.Mem.head _ | apply List.Mem.tail))) (.nil _))) ?_ | refine WPA.takeP 9 rfl (q_nilF rfl) (by kernel_rfl) (by kernel_rfl) (by kernel_rfl) rfl rfl (.cons (Ent.mem (by repeat (first | exact List.Mem.head _ | apply List.Mem.tail))) (.cons (Ent.mem (by repeat (first | exact List.Mem.head _ | apply List.Mem.tail))) (.nil _))) ?_
    refine WPA.putS ?_
    first | refine WPA.takeP 10 rfl (q_faK fa_elect_Node_Log rfl) (by kernel_rfl) (by kernel_rfl) (by kernel_rfl) rfl rfl (.cons (Ent.mem (by repeat (first | exact List.Mem.head _ | apply List.Mem.tail))) (.cons (Ent.mem (by repeat (first | exact List.Mem.head _ | apply List.Mem.tail))) (.nil _))) ?_ | refine WPA.takeP 10 rfl (q_fa fa_elect_Node_Log rfl) (by kernel_rfl) (by kernel_rfl) (by kernel_rfl) rfl rfl (.cons (Ent.mem (by repeat (first | exact List.Mem.head _ | apply List.Mem.tail))) (.cons (Ent.mem (by repeat (first | exact List.Mem.head _ | apply List.Mem.tail))) (.nil _))) ?_
    refine WPA.putS ?_
    first | refine WPA.takeL 11 rfl (Ent.mem (by repeat (first | exact List.Mem.head _ | apply List.Mem.tail))) (q_loadNz (us := [_, _, _]) ld_terms_Log rfl (.head _) (by exact ⟨rfl, rfl⟩)) (by kernel_rfl) (by kernel_rfl) (by kernel_rfl) rfl rfl (.cons (Ent.mem (by repeat (first | exact List.Mem.head _ | apply List.Mem.tail))) (.cons (Ent.mem (by repeat (first | exact List.Mem.head _ | apply List.Mem.tail))) (.nil _))) ?_ | refine WPA.takeL 11 rfl (Ent.mem (by repeat (first | exact List.Mem.head _ | apply List.Mem.tail))) (q_loadNk (us := [_, _, _]) ld_terms_Log rfl (.head _) (by exact ⟨rfl, rfl⟩)) (by kernel_rfl) (by kernel_rfl) (by kernel_rfl) rfl rfl (.cons (Ent.mem (by repeat (first | exact List.Mem.head _ | apply List.Mem.tail))) (.cons (Ent.mem (by repeat (first | exact List.Mem.head _ | apply List.Mem.tail))) (.nil _))) ?_
    refine WPA.putS ?_
    refine WPA.oneE 12 [(7, [_]), (3, [_])] (by kernel_rfl) rfl rfl (by repeat (first | exact .nil | refine .anc rfl ?_ | refine .keep (by repeat (first | exact List.Mem.head _ | apply List.Mem.tail)) ?_)) (C1.call (c_call Try.func29 rfl rfl rfl) (c_Last (n := en + 1) hb (by omega)) (by repeat (first | exact Pick.nil | apply Pick.keep (by repeat (first | exact List.Mem.head _ | apply List.Mem.tail)) (by first | exact Pers.cells _ _ _ | exact Pers.slv _ _ _) | apply Pick.cons (by repeat (first | exact Pick1.here | apply Pick1.there)))) rfl ?_)
    rintro _ _ ⟨rfl, rfl⟩
    refine ⟨(.cons (Ent.mem (by repeat (first | exact List.Mem.head _ | apply List.Mem.tail))) (.cons (Ent.mem (by repeat (first | exact List.Mem.head _ | apply List.Mem.tail))) (.nil _))), ?_⟩
    refine WPA.putS ?_
    first | refine WPA.takeP 13 rfl (q_idxN sl_sl_uint64 rfl rfl (by omega) (by assumption)) (by kernel_rfl) (by kernel_rfl) (by kernel_rfl) rfl rfl (.cons (Ent.mem (by repeat (first | exact List.Mem.head _ | apply List.Mem.tail))) (.cons (Ent.mem (by repeat (first | exact List.Mem.head _ | apply List.Mem.tail))) (.nil _))) ?_ | refine WPA.takeP 13 rfl (q_idx sl_sl_uint64 rfl rfl (by omega) (by omega) (by assumption)) (by kernel_rfl) (by kernel_rfl) (by kernel_rfl) rfl rfl (.cons (Ent.mem (by repeat (first | exact List.Mem.head _ | apply List.Mem.tail))) (.cons (Ent.mem (by repeat (first | exact List.Mem.head _ | apply List.Mem.tail))) (.nil _))) ?_
    refine WPA.putS ?_
    refine WPA.oneE 14 [] (by kernel_rfl) rfl rfl (by repeat (first | exact .nil | refine .anc rfl ?_ | refine .keep (by repeat (first | exact List.Mem.head _ | apply List.Mem.tail)) ?_)) (S1.wpo (s_storeMap (xs := List.replicate 16 0) (f := .int .u64) sz_uint64 rfl rfl rfl rfl (by simp; omega) (by repeat (first | exact Upd.here | apply Upd.there))) rfl ?_)
    refine ⟨(.nil _), ?_⟩
    refine WPA.putN ?_
    refine WPA.done (by kernel_rfl) ?_
    exact endR_n rfl .nil ((Imp.pick (by repeat (first | exact Pick.nil | apply Pick.keep (by repeat (first | exact List.Mem.head _ | apply List.Mem.tail)) (by first | exact Pers.cells _ _ _ | exact Pers.slv _ _ _) | apply Pick.cons (by repeat (first | exact Pick1.here | apply Pick1.there))))).trans (enode_close ⟨ca, cn, cc, none, 0, 0, a', en + 1, c', na, ma⟩ ⟨hc, hcn, hs2, (by show en + 1 < _; omega), by simp, by simp⟩ (Γ := []))) ⟨rfl, rfl⟩

theorem c_toAll {p : Bool} {b o : Nat} {x : EN} {L : NL} (hs : Sok 1 L.ca L.cn L.cc (x.conf.map (.int .i64))) (hn : L.cn < 1073741824) (g : RM) : Trip Try.prog 33 #[.pointer (some ⟨b, o, none⟩), .agg (encM g).toArray] [cells p b o (nodeC x L), sl false L.ca (x.conf.map (.int .i64))] fun r Δ => ∃ (a : Option Addr) (c : Nat), r = .slice a (x.toAll g).length c ∧ Δ = buf 10 a (x.toAll g).length c ((x.toAll g).flatMap encM) :: [cells p b o (nodeC x L), sl false L.ca (x.conf.map (.int .i64))] := by
  refine Trip.start 28 [.tmp 4] [(0, .pointer (some ⟨b, o, none⟩)), (1, .agg (encM g).toArray)] Try.func33 rfl Try.ntmps33 rfl ⟨rfl, rfl, trivial⟩ rfl ?_
  refine WPC.seqR ?_
  first | refine WPL.cons rfl (E1.wpo (e_boxN rfl) rfl ?_) | refine WPL.cons rfl (E1.wpo (e_box1 rfl rfl) rfl ?_)
  rintro _ _ ⟨b1, rfl, rfl⟩
  refine WPL.putS ?_
  refine L_s (q_assign rfl) rfl ?_
  refine WPL.nil ?_
  refine WPC.seqR ?_
  refine L_s (q_assign rfl) rfl ?_
  refine WPL.nil ?_
  refine WPC.seq ?_
  refine WPC.seqR ?_
  refine L_s (q_move rfl) rfl ?_
  refine WPL.cons rfl (C1.call (c_call Try.func7 rfl rfl rfl) (c_Others hs hn) (by repeat (first | exact Pick.nil | apply Pick.keep (by repeat (first | exact List.Mem.head _ | apply List.Mem.tail)) (by first | exact Pers.cells _ _ _ | exact Pers.slv _ _ _) | apply Pick.cons (by repeat (first | exact Pick1.here | apply Pick1.there)))) rfl ?_)
  rintro _ _ ⟨a, c, rfl, hso, hno, rfl⟩
  refine WPL.putS ?_
  refine L_s (q_len rfl un_sl_int rfl) rfl ?_
  refine L_s (q_move rfl) rfl ?_
  refine WPL.nil ?_
  refine WPC.imp (Imp.bufNil (sz := 10)) ?_
  refine WPC.block ?_
  refine WPC.loopS (fun m e Γ => ∃ (k : Nat) (a2 : Option Addr) (c2 : Nat) (f1 t1 : Int), m = x.others.length - k ∧ k ≤ x.others.length ∧ e = [(0, .pointer (some ⟨b, o, none⟩)), (9, .slice a x.others.length c), (10, .int .i64 (x.others.length : Int)), (11, .int .i64 (k : Int)), (5, .slice a2 k c2), (3, .pointer (some ⟨b1, 0, none⟩))] ∧ Γ = [cells true b1 0 (encM { g with fr := f1, to := t1 }), buf 10 a2 k c2 (((x.others.take k).map (fun i => ({ g with fr := x.me, to := i } : RM))).flatMap encM), sl false a (x.others.map (.int .i64)), cells p b o (nodeC x L), sl false L.ca (x.conf.map (.int .i64))]) (x.others.length) ⟨0, none, 0, g.fr, g.to, rfl, by omega, rfl, rfl⟩ (by repeat (first | exact trivial | refine ⟨rfl, ?_⟩)) (Imp.pick (by repeat (first | exact Pick.nil | apply Pick.keep (by repeat (first | exact List.Mem.head _ | apply List.Mem.tail)) (by first | exact Pers.cells _ _ _ | exact Pers.slv _ _ _) | apply Pick.cons (by repeat (first | exact Pick1.here | apply Pick1.there))))) ?_
  rintro m e Γ ⟨k, a2, c2, f1, t1, rfl, hk, rfl, rfl⟩
  refine WPC.seqR ?_
  refine L_s (q_int rfl rfl rfl) rfl ?_
  refine WPL.nil ?_
  refine WPC.seq ?_
  refine WPC.cond rfl (fun h0 => ?_) (fun h0 => ?_)
  · simp only [decide_eq_true_eq] at h0
    have hk' : k < x.others.length := by omega
    have hp : Pl a := hso.at (by omega) (by omega)
    obtain ⟨i, hx⟩ : ∃ i, x.others[k]? = some i := ⟨x.others[k]'(by omega), by simp [hk']⟩
    refine WPC.skip ?_
    refine thenQ_n ?_
    refine WPC.seq ?_
    refine WPC.block ?_
    refine WPC.seqR ?_
    first | refine L_s (q_idxN sl_sl_int rfl rfl (by omega) (by assumption)) rfl ?_ | refine L_s (q_idx sl_sl_int rfl rfl (by omega) (by omega) (by assumption)) rfl ?_
    refine L_s (q_ldMap ld_int rfl (by repeat (first | exact List.Mem.head _ | apply List.Mem.tail)) hx) rfl ?_
    refine L_s (q_assign rfl) rfl ?_
    refine WPL.nil ?_
    refine WPC.seqR ?_
    refine L_s (q_move rfl) rfl ?_
    first | refine L_s (q_nilP rfl) rfl ?_ | refine L_s (q_nilF rfl) rfl ?_
    first | refine L_s (q_faK fa_elect_Node_Me rfl) rfl ?_ | refine L_s (q_fa fa_elect_Node_Me rfl) rfl ?_
    first | refine L_s (q_load1z ld_int rfl (by repeat (first | exact List.Mem.head _ | apply List.Mem.tail)) (by rfl)) rfl ?_ | refine L_s (q_load1 ld_int rfl (by repeat (first | exact List.Mem.head _ | apply List.Mem.tail)) rfl (by rfl)) rfl ?_
    refine L_s (q_move rfl) rfl ?_
    first | refine L_s (q_faK fa_api_Msg_From rfl) rfl ?_ | refine L_s (q_fa fa_api_Msg_From rfl) rfl ?_
    refine WPL.cons rfl (S1.wpo (s_store1k sz_int rfl rfl rfl rfl (by repeat (first | exact Upd.here | apply Upd.there)) (by repeat constructor)) rfl ?_)
    refine WPL.putN ?_
    first | refine L_s (q_faK fa_api_Msg_To rfl) rfl ?_ | refine L_s (q_fa fa_api_Msg_To rfl) rfl ?_
    refine WPL.cons rfl (S1.wpo (s_store1k sz_int rfl rfl rfl rfl (by repeat (first | exact Upd.here | apply Upd.there)) (by repeat constructor)) rfl ?_)
    refine WPL.putN ?_
    refine WPL.nil ?_
    refine WPC.region ?_
    refine L_s (q_move rfl) rfl ?_
    first | refine L_s (q_loadNz (us := [_, _, _, _, _, _, _, _, _, _]) ld_api_Msg rfl (by repeat (first | exact List.Mem.head _ | apply List.Mem.tail)) (by exact ⟨rfl, rfl⟩)) rfl ?_ | refine L_s (q_loadNk (us := [_, _, _, _, _, _, _, _, _, _]) ld_api_Msg rfl (by repeat (first | exact List.Mem.head _ | apply List.Mem.tail)) (by exact ⟨rfl, rfl⟩)) rfl ?_
    refine WPL.cons rfl (E1.wpo (e_buildSlice mk_sl_api_Msg (by decide) rfl rfl rfl) rfl ?_)
    rintro _ _ ⟨bE, rfl, rfl⟩
    refine WPL.putS ?_
    refine WPL.cons rfl (E1.wpo (e_append (m := 1) (news := encM { g with fr := x.me, to := i }) mk_sl_api_Msg (by decide) rfl rfl (by repeat (first | exact Pick1.here | apply Pick1.there)) (Rd.part (i := 0) (b := bE) (o := 0) (vs := encM { g with fr := x.me, to := i }) (by repeat (first | exact List.Mem.head _ | apply List.Mem.tail)) rfl rfl rfl) (by simp [Value.oneCell']) (by omega) (by omega)) rfl ?_)
    rintro _ _ ⟨a3, c3, rfl, -, rfl⟩
    refine WPL.putS ?_
    refine L_s (q_assign rfl) rfl ?_
    refine WPL.nil ?_
    refine blockQ_n ?_
    refine thenQ_n ?_
    refine WPC.region ?_
    first | refine L_s (q_inc rfl rfl (by omega)) rfl ?_ | refine L_s (q_addI rfl rfl (by omega)) rfl ?_ | refine L_s (q_int rfl rfl rfl) rfl ?_
    refine L_s (q_move rfl) rfl ?_
    refine WPL.nil ?_
    refine thenQ_n ?_
    exact ⟨rfl, _, _, _, by omega, ⟨k + 1, a3, c3, x.me, i, rfl, by omega, rfl, by rw [take_succ hx, List.map_append, List.map_singleton, flat_snoc]⟩, (by repeat (first | exact trivial | refine ⟨rfl, ?_⟩)), Imp.pick (by repeat (first | exact Pick.nil | apply Pick.keep (by repeat (first | exact List.Mem.head _ | apply List.Mem.tail)) (by first | exact Pers.cells _ _ _ | exact Pers.slv _ _ _) | apply Pick.cons (by repeat (first | exact Pick1.here | apply Pick1.there))))⟩
  · simp only [decide_eq_false_iff_not] at h0
    have hk' : x.others.length ≤ k := by omega
    refine WPC.exit ?_
    refine thenQ_e ?_
    refine thenQ_e ?_
    refine blockQ_here ?_
    refine thenQ_n ?_
    refine WPC.seqR ?_
    refine L_s (q_move rfl) rfl ?_
    refine L_s (q_assign rfl) rfl ?_
    refine WPL.nil ?_
    refine WPC.ret ?_
    have hk2 : k = x.others.length := Nat.le_antisymm hk hk'
    have e1 : x.toAll g = (x.others.take k).map (fun i => ({ g with fr := x.me, to := i } : RM)) := by rw [hk2, List.take_length]; rfl
    have e2 : (x.toAll g).length = k := by rw [EN.toAll, List.length_map, hk2]
    simp only [e2]
    rw [e1]
    exact endR_r rfl (.tmp rfl .nil) (Imp.pick (by repeat (first | exact Pick.nil | apply Pick.keep (by repeat (first | exact List.Mem.head _ | apply List.Mem.tail)) (by first | exact Pers.cells _ _ _ | exact Pers.slv _ _ _) | apply Pick.cons (by repeat (first | exact Pick1.here | apply Pick1.there))))) ⟨a2, c2, rfl, rfl⟩

end Go.Sl
