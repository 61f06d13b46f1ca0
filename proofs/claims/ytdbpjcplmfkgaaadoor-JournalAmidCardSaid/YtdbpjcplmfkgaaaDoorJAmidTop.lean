/- JournalAmid: at every input the law returns true, and what it was handed reads as it did; the table reads as the program's text lays it (tied). No conditions. -/
import Derived.Test.YtdbpjcplmfkgaaaDoorJT
import Derived.Test.YtdbpjcplmfkgaaaDoorCards
import Derived.Test.YtdbpjcplmfkgaaaDoorJU
namespace Go.Proofs.YtdbpjcplmfkgaaaDoor.journalAmid
open Go.ChangeShapes Go.WideShapes Go.ChangeAt Go.RowKit Go.Sl
theorem walk {n : Int} {a : Option Addr} {c : Nat} {ops : List OpV} {op : OpV} {F : Int} {pa : Option Addr} {pc : Nat} {ps : List Int} (w : World) (hL : laidMetH Tryd.prog laidL w) (hs : Sok 4 a ops.length c (ops.flatMap encO)) (ho : ∀ o ∈ ops, OpOk w o) (ro : ReadAt w a (ops.flatMap encO)) (hop : OpOk w op) (wF : (Lit.int .i64 F).wf = true) (hp : IS.ok ⟨ps, pa, ps.length, pc⟩) (rp : ReadAt w pa (ps.map (.int .i64))) :
    Calls Tryd.prog 6 #[.int .i64 n, .slice a ops.length c, .agg (encO op).toArray, .int .i64 F, .slice pa ps.length pc] w fun e w' => e = .returned (.bool true) ∧ Below w.heap.size w w' := by
  obtain ⟨od, on_, ⟨obs, oa, m, oc⟩, ⟨qs, qa, qn, qc⟩⟩ := op
  have hob0 := hop.b
  have hor := hop.rb
  have hon := hop.b.n
  simp only at hon hor
  subst hon
  have hob : Sok 1 oa obs.length oc (obs.map u8) := hob0
  have hF : -9223372036854775808 ≤ F ∧ F ≤ 9223372036854775807 := by simpa [Lit.wf, IntKind.has, IntKind.min, IntKind.max, IntKind.signed, IntKind.bits] using wF
  have i : Imp [whole w] [sl false a (ops.flatMap encO), tblA, whole w, sl false pa (ps.map (.int .i64)), sl false oa (obs.map u8)] := ((Imp.ofWhole ro).trans ((Imp.perm (.swap _ _ _)).trans ((Imp.tbl hL).trans ((Imp.perm (.swap _ _ _)).trans ((Imp.ofWhole rp).trans ((Imp.perm (.swap _ _ _)).trans ((Imp.ofWhole hor).trans ((Imp.perm (.swap _ _ _)).trans ((Imp.pick (by repeat (first | exact Pick.nil | apply Pick.keep (by repeat (first | exact List.Mem.head _ | apply List.Mem.tail)) (by first | exact Pers.cells _ _ _ | exact Pers.whole _) | apply Pick.cons (by repeat (first | exact Pick1.here | apply Pick1.there))))))))))))))
  by_cases hg : 1 ≤ n ∧ n ≤ 17 ∧ ops.length ≤ 30
  · obtain ⟨m, rfl⟩ : ∃ m : Nat, n = (m : Int) := ⟨n.toNat, by omega⟩
    exact of_trip (c_Amid (Pers.whole w) hs hp hob hF (by omega) hg.2.2 (opsD ho)) i
  · exact of_trip (c_AmidNil (Pers.whole w) hs hp hob hF hg) i
set_option maxRecDepth 100000 in
theorem lifted (os : Os) (started : os.Started) (H : Type) (enc : TypeId × Value → H) :
    ReturnsInHanded {} Tryd.checked os 6 .any (fun w args => (Rows.journalAmidSpec.pre enc Tryd.prog Tryd.f6 [] false w args ∧ laidMetH Tryd.prog laidL w) ∧ sizedMet enc Tryd.prog Tryd.f6 (OpenSpec.ofChange Rows.journalAmidSpec) false w args) (Rows.journalAmidSpec.post enc Tryd.prog Tryd.f6 false true false false) := by
  refine returnsInHanded_of_change_and (C := Tryd.checked) (X := fun w _ => laidMetH Tryd.prog laidL w) (fun _ _ _ hh h => h.of_heap hh) own started (by kernel_rfl) Tryd.func6
    (ChangeSpec.witness_shaped (enc := enc) (C := Tryd.checked) (os := os) (X := fun w _ => laidMetH Tryd.prog laidL w) false (World.doorLaid Tryd.prog 400 os) #[.int .i64 0, .slice none 0 0, .agg #[.int .i64 0, .int .i64 0, .slice none 0 0, .slice none 0 0], .int .i64 0, .slice none 0 0] 8 rfl (World.shaped_of_RefB (by kernel_rfl) (by kernel_rfl)) (by kernel_rfl) (by kernel_rfl) (by kernel_rfl) (door_met os _)) ?_
  intro W base args ds gs before hval0 hW _ _ hL _
  have hval : ∀ (j : Nat) t v, Tryd.f6.params[j]? = some t → args[j]? = some v → Value.okWide Tryd.prog W .any base t v := hval0
  have hW' := hW
  obtain ⟨p, q, hA0, hV, rfl, hfz, hnd⟩ := hW
  have hA : DataW.TrodAll enc Tryd.prog W 0 (fun _ => true) true Tryd.f6.params.toList args.toList ds p := hA0
  rw [Tryd.params6] at hA hval
  obtain ⟨v0, vs0, d0, ds0, p0, q0, hargs, rfl, rfl, h0, r0⟩ := trodAll_cons hA
  obtain ⟨v1, vs1, d1, ds1, p1, q1, rfl, rfl, rfl, h1, r1⟩ := trodAll_cons r0
  obtain ⟨v2, vs2, d2, ds2, p2, q2, rfl, rfl, rfl, h2, r2⟩ := trodAll_cons r1
  obtain ⟨v3, vs3, d3, ds3, p3, q3, rfl, rfl, rfl, h3, r3⟩ := trodAll_cons r2
  obtain ⟨v4, vs4, d4, ds4, p4, q4, rfl, rfl, rfl, h4, r4⟩ := trodAll_cons r3
  obtain ⟨rfl, rfl, rfl⟩ := trodAll_nil r4
  obtain rfl : args = #[v0, v1, v2, v3, v4] := by cases args; simp_all
  obtain ⟨rfl, rfl⟩ := trodVars_none hV
  obtain ⟨a0, rfl, rfl, rfl, w0⟩ := open_int Tryd.underlying3 (hval 0 3 v0 rfl rfl) h0
  obtain ⟨a1, n1, c1, rfl⟩ := okWide_slice Tryd.underlying22 (hval 1 22 v1 rfl rfl)
  have lt1 : ∀ x ∈ p1, x.block < W.heap.size := by obtain ⟨m, hm⟩ := h1; exact DataW.trod_lt m _ _ _ hm
  have k1 := h1
  obtain ⟨f1, g1⟩ := h1
  obtain ⟨c2, rfl⟩ : ∃ cs, v2 = .agg cs := by
    have := hval 2 43 v2 rfl rfl
    simp only [Value.okWide, Tryd.underlying43] at this
    obtain ⟨cs, h, -⟩ := this
    exact ⟨cs, h⟩
  have lt2 : ∀ x ∈ p2, x.block < W.heap.size := by obtain ⟨m, hm⟩ := h2; exact DataW.trod_lt m _ _ _ hm
  have k2 := h2
  obtain ⟨f2, g2⟩ := h2
  obtain ⟨a3, rfl, rfl, rfl, w3⟩ := open_int Tryd.underlying3 (hval 3 3 v3 rfl rfl) h3
  obtain ⟨a4, n4, c4, rfl⟩ := okWide_slice Tryd.underlying24 (hval 4 24 v4 rfl rfl)
  have lt4 : ∀ x ∈ p4, x.block < W.heap.size := by obtain ⟨m, hm⟩ := h4; exact DataW.trod_lt m _ _ _ hm
  have k4 := h4
  obtain ⟨f4, g4⟩ := h4
  obtain ⟨b1, e1, ops1, z1, s1, t1, u1⟩ := open_ops g1
  simp only [Value.cells] at z1
  obtain ⟨rfl, rfl, rfl⟩ : a1 = b1 ∧ n1 = ops1.length ∧ c1 = e1 := by simpa using z1
  obtain ⟨op2, z2, s2⟩ := open_op g2
  simp only [Value.cells] at z2
  obtain rfl : c2 = (encO op2).toArray := by cases c2; simp_all
  obtain ⟨⟨xs4, b4, m4, e4⟩, z4, s4, -, u4⟩ := open_ints g4
  simp only [Value.cells] at z4
  obtain ⟨rfl, rfl, rfl⟩ : a4 = b4 ∧ n4 = m4 ∧ c4 = e4 := by simpa using z4
  have l4 := s4.n
  simp only at l4
  subst l4
  clear hA0 hval0
  refine (walk W hL s1 t1 u1 s2 w3 s4 u4).mono fun e W' ⟨he, bel⟩ => ?_
  subst he
  exact ⟨_, rfl, _, _, _, [], _, [], hW', trodAll_mk1 (shut_bool Tryd.underlying4 _), (trodAll_cons_mk (shut_int Tryd.underlying3 w0) (trodAll_cons_mk (Below.trod laidOut (by kernel_rfl) (of_decide_eq_true (by kernel_rfl)) k1 bel lt1) (trodAll_cons_mk (Below.trod laidOut (by kernel_rfl) (of_decide_eq_true (by kernel_rfl)) k2 bel lt2) (trodAll_cons_mk (shut_int Tryd.underlying3 w3) (trodAll_cons_mk (Below.trod laidOut (by kernel_rfl) (of_decide_eq_true (by kernel_rfl)) k4 bel lt4) trodAll_mk0))))), rfl, bel.frame _, fun h => by cases h⟩
theorem over : Rows.JournalAmidSaid :=
  OpenClaim.holds_of_wide 6 Tryd.f6 rfl rfl rfl rfl rfl rfl rfl ⟨rfl, rfl, rfl, rfl, rfl⟩ rfl rfl rfl rfl rfl (by kernel_rfl) Tryd.func6 (by kernel_rfl)
    (of_decide_eq_true (by kernel_rfl)) (by unfold Func.isWrapper; first | (rw [if_pos (by decide +kernel)]; kernel_rfl) | (rw [if_neg (by decide +kernel)]; exact ⟨rfl, rfl⟩))
    (fun os started H enc _ => lifted os started H enc)
theorem proved : Rows.JournalAmidCardSaid :=
  Claim7.holds_tied_plain_at .later [] [.data] true (true, "abe5bf1c2ec5af2217fd9f2c1d833ccb082805d97ef1fe21d024d365e82aa239") false
    over (fun _ h => by cases h) (by kernel_rfl) (fun _ h => by cases h) journalAmid_row_tie rfl ⟨rfl, rfl⟩ (by kernel_rfl) rfl
    (fun f fn hf hfn => by
      obtain rfl : f = 6 := Option.some.inj ((show Tryd.prog.funcNamed "pursuivant/pursuivantlaw06.JournalAmid" = some 6 by kernel_rfl).symm.trans hf) |>.symm
      obtain rfl : fn = Tryd.f6 := (Option.some.inj (Tryd.func6.symm.trans hfn)).symm
      exact ⟨by kernel_rfl, fun j t ht => by
        rw [Tryd.params6] at ht
        have hm : t ∈ [3, 22, 43, 3, 24] := by simpa using Array.mem_of_getElem? ht
        have hall : ([3, 22, 43, 3, 24].all fun u => !Tryd.prog.wantsStandIn u) = true := by kernel_rfl
        exact (show Tryd.prog.wantsStandIn t = false by simpa using List.all_eq_true.1 hall t hm)⟩)
    (by kernel_rfl)
#print axioms proved
end Go.Proofs.YtdbpjcplmfkgaaaDoor.journalAmid
