/- KeepRefused: at every input the law returns true, and what it was handed reads as it did; the table reads as the program's text lays it (tied). No conditions. -/
import Derived.Test.YtacgammmpkibpaaDoorKBackTopm4
import Derived.Test.YtacgammmpkibpaaDoorCards
namespace Go.Proofs.YtacgammmpkibpaaDoor.keepRefused
open Go.ChangeShapes Go.WideShapes Go.ChangeAt Go.RowKit Go.Sl
theorem walk {a : Option Addr} {c : Nat} {ops : List KOp} {s : SV} {ps : List Int} {pa : Option Addr} {pc : Nat} (w : World) (hL : laidMetH Tryd.prog laidL w) (hs : Sok 8 a ops.length c (ops.flatMap encKO)) (hl0 : ops.length < 9223372036854775808) (ho : ∀ o ∈ ops, OpOk w o) (ro : ReadAt w a (ops.flatMap encKO)) (hS : SOk w s) (hp : IS.ok ⟨ps, pa, ps.length, pc⟩) (rp : ReadAt w pa (ps.map (.int .i64))) :
    Calls Tryd.prog 4 #[.slice a ops.length c, .agg (stV s).toArray, .slice pa ps.length pc] w fun e w' => e = .returned (.bool true) ∧ Below w.heap.size w w' := by
  have i : Imp [whole w] [sl false a (ops.flatMap encKO), tblA, whole w] := (Imp.ofWhole ro).trans ((Imp.perm (.swap _ _ _)).trans ((Imp.tbl hL).trans (Imp.pick (by repeat (first | exact Pick.nil | apply Pick.keep (by repeat (first | exact List.Mem.head _ | apply List.Mem.tail)) (by first | exact Pers.cells _ _ _ | exact Pers.whole _) | apply Pick.cons (by repeat (first | exact Pick1.here | apply Pick1.there)))))))
  by_cases hg : ops.length ≤ 12 ∧ ∀ o ∈ ops, o.s.n ≤ 12
  · exact of_trip (c_Refused (Pers.whole w) hs hl0 s (stD hS) ⟨ps, pa, ps.length, pc⟩ hp (fun _ => Imp.ofWhole rp) hg (opsD ho)) i
  · exact of_trip (c_RefNil (Pers.whole w) hs hl0 s (stD hS) ⟨ps, pa, ps.length, pc⟩ hp (fun _ => Imp.ofWhole rp) hg) i
set_option maxRecDepth 100000 in
theorem lifted (os : Os) (started : os.Started) (H : Type) (enc : TypeId × Value → H) :
    ReturnsInHanded {} Tryd.checked os 4 .any (fun w args => (Rows.keepRefusedSpec.pre enc Tryd.prog Tryd.f4 [] false w args ∧ laidMetH Tryd.prog laidL w) ∧ sizedMet enc Tryd.prog Tryd.f4 (OpenSpec.ofChange Rows.keepRefusedSpec) false w args) (Rows.keepRefusedSpec.post enc Tryd.prog Tryd.f4 false true false false) := by
  refine returnsInHanded_of_change_and (C := Tryd.checked) (X := fun w _ => laidMetH Tryd.prog laidL w) (fun _ _ _ hh h => h.of_heap hh) own started (by kernel_rfl) Tryd.func4
    (ChangeSpec.witness_shaped (enc := enc) (C := Tryd.checked) (os := os) (X := fun w _ => laidMetH Tryd.prog laidL w) false (World.doorLaid Tryd.prog 400 os) #[.slice none 0 0, .agg #[.int .u64 0, .int .i64 0, .int .u64 0, .int .u64 0, .slice none 0 0], .slice none 0 0] 8 rfl (World.shaped_of_RefB (by kernel_rfl) (by kernel_rfl)) (by kernel_rfl) (by kernel_rfl) (by kernel_rfl) (door_met os _)) ?_
  intro W base args ds gs before hval0 hW _ _ hL _
  have hval : ∀ (j : Nat) t v, Tryd.f4.params[j]? = some t → args[j]? = some v → Value.okWide Tryd.prog W .any base t v := hval0
  have hW' := hW
  obtain ⟨p, q, hA0, hV, rfl, hfz, hnd⟩ := hW
  have hA : DataW.TrodAll enc Tryd.prog W 0 (fun _ => true) true Tryd.f4.params.toList args.toList ds p := hA0
  rw [Tryd.params4] at hA hval
  obtain ⟨v0, vs0, d0, ds0, p0, q0, hargs, rfl, rfl, h0, r0⟩ := trodAll_cons hA
  obtain ⟨v1, vs1, d1, ds1, p1, q1, rfl, rfl, rfl, h1, r1⟩ := trodAll_cons r0
  obtain ⟨v2, vs2, d2, ds2, p2, q2, rfl, rfl, rfl, h2, r2⟩ := trodAll_cons r1
  obtain ⟨rfl, rfl, rfl⟩ := trodAll_nil r2
  obtain rfl : args = #[v0, v1, v2] := by cases args; simp_all
  obtain ⟨rfl, rfl⟩ := trodVars_none hV
  obtain ⟨a0, n0, c0, rfl⟩ := okWide_slice Tryd.underlying22 (hval 0 22 v0 rfl rfl)
  have lt0 : ∀ x ∈ p0, x.block < W.heap.size := by obtain ⟨m, hm⟩ := h0; exact DataW.trod_lt m _ _ _ hm
  have k0 := h0
  obtain ⟨f0, g0⟩ := h0
  obtain ⟨c1, rfl⟩ : ∃ cs, v1 = .agg cs := by
    have := hval 1 28 v1 rfl rfl
    simp only [Value.okWide, Tryd.underlying28] at this
    obtain ⟨cs, h, -⟩ := this
    exact ⟨cs, h⟩
  have lt1 : ∀ x ∈ p1, x.block < W.heap.size := by obtain ⟨m, hm⟩ := h1; exact DataW.trod_lt m _ _ _ hm
  have k1 := h1
  obtain ⟨f1, g1⟩ := h1
  obtain ⟨a2, n2, c2, rfl⟩ := okWide_slice Tryd.underlying29 (hval 2 29 v2 rfl rfl)
  have lt2 : ∀ x ∈ p2, x.block < W.heap.size := by obtain ⟨m, hm⟩ := h2; exact DataW.trod_lt m _ _ _ hm
  have k2 := h2
  obtain ⟨f2, g2⟩ := h2
  obtain ⟨b0, e0, ops0, z0, s0, j0, t0, u0⟩ := open_ops g0
  simp only [Value.cells] at z0
  obtain ⟨rfl, rfl, rfl⟩ : a0 = b0 ∧ n0 = ops0.length ∧ c0 = e0 := by simpa using z0
  obtain ⟨op1, z1, s1⟩ := open_state g1
  simp only [Value.cells] at z1
  obtain rfl : c1 = (stV op1).toArray := by cases c1; simp_all
  obtain ⟨⟨xs2, b2, m2, e2⟩, z2, s2, u2⟩ := open_ints g2
  simp only [Value.cells] at z2
  obtain ⟨rfl, rfl, rfl⟩ : a2 = b2 ∧ n2 = m2 ∧ c2 = e2 := by simpa using z2
  have l2 := s2.n
  simp only at l2
  subst l2
  clear hA0 hval0
  refine (walk W hL s0 j0 t0 u0 s1 s2 u2).mono fun e W' ⟨he, bel⟩ => ?_
  subst he
  exact ⟨_, rfl, _, _, _, [], _, [], hW', trodAll_mk1 (shut_bool Tryd.underlying4 _), (trodAll_cons_mk (Below.trod laidOut (by kernel_rfl) (of_decide_eq_true (by kernel_rfl)) k0 bel lt0) (trodAll_cons_mk (Below.trod laidOut (by kernel_rfl) (of_decide_eq_true (by kernel_rfl)) k1 bel lt1) (trodAll_cons_mk (Below.trod laidOut (by kernel_rfl) (of_decide_eq_true (by kernel_rfl)) k2 bel lt2) trodAll_mk0))), rfl, bel.frame _, fun h => by cases h⟩
theorem over : Rows.KeepRefusedSaid :=
  OpenClaim.holds_of_wide 4 Tryd.f4 rfl rfl rfl rfl rfl rfl rfl ⟨rfl, rfl, rfl, rfl, rfl⟩ rfl rfl rfl rfl rfl (by kernel_rfl) Tryd.func4 (by kernel_rfl)
    (of_decide_eq_true (by kernel_rfl)) (by unfold Func.isWrapper; first | (rw [if_pos (by decide +kernel)]; kernel_rfl) | (rw [if_neg (by decide +kernel)]; exact ⟨rfl, rfl⟩))
    (fun os started H enc _ => lifted os started H enc)
theorem proved : Rows.KeepRefusedCardSaid :=
  Claim7.holds_tied_plain_at .later [] [.data] true (true, "2284ba68699ffb3c1ca29f682210048f839b2f3d1860c0b4923c98b8b2405e57") false
    over (fun _ h => by cases h) (by kernel_rfl) (fun _ h => by cases h) keepRefused_row_tie rfl ⟨rfl, rfl⟩ (by kernel_rfl) rfl
    (fun f fn hf hfn => by
      obtain rfl : f = 4 := Option.some.inj ((show Tryd.prog.funcNamed "pursuivant/pursuivantlaw14.KeepRefused" = some 4 by kernel_rfl).symm.trans hf) |>.symm
      obtain rfl : fn = Tryd.f4 := (Option.some.inj (Tryd.func4.symm.trans hfn)).symm
      exact ⟨by kernel_rfl, fun j t ht => by
        rw [Tryd.params4] at ht
        have hm : t ∈ [22, 28, 29] := by simpa using Array.mem_of_getElem? ht
        have hall : ([22, 28, 29].all fun u => !Tryd.prog.wantsStandIn u) = true := by kernel_rfl
        exact (show Tryd.prog.wantsStandIn t = false by simpa using List.all_eq_true.1 hall t hm)⟩)
    (by kernel_rfl)
#print axioms proved
end Go.Proofs.YtacgammmpkibpaaDoor.keepRefused
