/- ElectQuiet: at every input the law returns true, and what it was handed reads as it did. No conditions. -/
import Derived.Test.YtpipmojaonialaaRows
import Derived.Test.YtpipmojaonialaaWE
import Derived.Test.YtpipmojaonialaaWT
import Derived.WalkKit
import Derived.ProofKit
import Derived.OpenShut
import Derived.ShutString
import Derived.ChangeOld
import Derived.Below
namespace Go.Proofs.Ytpipmojaonialaa.electQuiet
open Go.ChangeShapes Go.WideShapes Go.ChangeAt Go.RowKit Go.Sl

theorem own : ownKnob Try.prog.godebug = none := by kernel_rfl
theorem laidOut : laidOutB Try.prog = true := by kernel_rfl

theorem of_trip {f : FuncId} {args : Array Value} {Γ : List A} {w : World} (h : Trip Try.prog f args Γ (fun r Δ => r = .bool true ∧ Δ = [])) (i : Imp [whole w] Γ) :
    Calls Try.prog f args w fun e w' => e = .returned (.bool true) ∧ Below w.heap.size w w' := by
  refine (h (whole w) w (i _ _ (Sat.whole w))).mono fun e w' q => ?_
  obtain ⟨v, Δ, rfl, ⟨rfl, rfl⟩, s, ad⟩ := q
  exact ⟨rfl, Sat.below s ad⟩

theorem walk {ca ea : Option Addr} {cn cc en ec : Nat} {xs : List Int} {es mes : List RE} {me role vote term base bt : Int} {m : RM} (w : World)
    (hc : Sok 1 ca cn cc (xs.map (.int .i64))) (he : Sok 3 ea en ec (es.flatMap encE)) (hm : Sok 3 m.ea m.en m.ec (mes.flatMap encE)) (r1 : ReadAt w ca (xs.map (.int .i64))) (r2 : ReadAt w ea (es.flatMap encE)) (r3 : ReadAt w m.ea (mes.flatMap encE))
    (hterm : 0 ≤ term) (hbase : 0 ≤ base) (hmt : 0 ≤ m.term) :
    Calls Try.prog 4 #[.int .i64 me, .slice ca cn cc, .int .i64 role, .int .i64 vote, .int .u64 term, .agg #[.int .u64 base, .int .u64 bt, .slice ea en ec], .agg (encM m).toArray] w fun e w' => e = .returned (.bool true) ∧ Below w.heap.size w w' := by
  have i : Imp [whole w] [sl false ca (xs.map (.int .i64)), sl false ea (es.flatMap encE), sl false m.ea (mes.flatMap encE)] :=
    (Imp.ofWhole r3).trans ((Imp.perm (.swap _ _ _)).trans ((Imp.ofWhole r2).trans ((Imp.perm (.swap _ _ _)).trans ((Imp.ofWhole r1).trans (Imp.cons _ (Imp.drop _ _))))))
  by_cases hg : (right xs = true ∧ base < 1152921504606846976 ∧ (en : Int) ≤ 20 ∧ 0 ≤ me ∧ me ≤ 15 ∧ 0 ≤ role ∧ role ≤ 3 ∧ -1 ≤ vote ∧ vote ≤ 15 ∧ term < 1152921504606846976 ∧ ((0 : Nat) : Int) ≤ 20)
  · exact of_trip (c_Quiet hc he hm hg hterm hbase hmt) i
  · exact of_trip (c_QuietNil hc he hm hg) i

set_option maxRecDepth 100000 in
theorem lifted (os : Os) (started : os.Started) (H : Type) (enc : TypeId × Value → H) :
    ReturnsInHanded {} Try.checked os 4 .any (Rows.electQuietSpec.pre6 enc Try.prog Try.f4 Rows.electQuietRow.domain false) (Rows.electQuietSpec.post enc Try.prog Try.f4 false true false false) := by
  refine returnsInHanded_of_change (C := Try.checked) own started (by kernel_rfl) Try.func4
    (ChangeSpec.witness6 (enc := enc) (C := Try.checked) false ⟨#[], #[.int .i64 0, .slice none 0 0, .int .i64 0, .int .i64 0, .int .u64 0, .agg #[.int .u64 0, .int .u64 0, .slice none 0 0], .agg #[.int .i64 0, .int .i64 0, .int .i64 0, .int .u64 0, .int .u64 0, .int .u64 0, .int .u64 0, .bool false, .slice none 0 0, .slice none 0 0]], []⟩ 8 (by kernel_rfl) (by kernel_rfl) (by kernel_rfl) (by kernel_rfl)) ?_
  intro W base args ds gs before hval0 hW hcnd _
  have hval : ∀ (j : Nat) t v, Try.f4.params[j]? = some t → args[j]? = some v → Value.okWide Try.prog W .any base t v := hval0
  have hW' := hW
  obtain ⟨p, q, hA0, hV, rfl, hfz, hnd⟩ := hW
  have hA : DataW.TrodAll enc Try.prog W 0 (fun _ => true) true Try.f4.params.toList args.toList ds p := hA0
  rw [Try.params4] at hA hval
  obtain ⟨v0, vs0, d0, ds0, p0, q0, hargs, rfl, rfl, h0, r0⟩ := trodAll_cons hA
  obtain ⟨v1, vs1, d1, ds1, p1, q1, rfl, rfl, rfl, h1, r1⟩ := trodAll_cons r0
  obtain ⟨v2, vs2, d2, ds2, p2, q2, rfl, rfl, rfl, h2, r2⟩ := trodAll_cons r1
  obtain ⟨v3, vs3, d3, ds3, p3, q3, rfl, rfl, rfl, h3, r3⟩ := trodAll_cons r2
  obtain ⟨v4, vs4, d4, ds4, p4, q4, rfl, rfl, rfl, h4, r4⟩ := trodAll_cons r3
  obtain ⟨v5, vs5, d5, ds5, p5, q5, rfl, rfl, rfl, h5, r5⟩ := trodAll_cons r4
  obtain ⟨v6, vs6, d6, ds6, p6, q6, rfl, rfl, rfl, h6, r6⟩ := trodAll_cons r5
  obtain ⟨rfl, rfl, rfl⟩ := trodAll_nil r6
  obtain rfl : args = #[v0, v1, v2, v3, v4, v5, v6] := by cases args; simp_all
  obtain ⟨rfl, rfl⟩ := trodVars_none hV
  obtain ⟨a0, rfl, rfl, rfl, w0⟩ := open_int Try.underlying3 (hval 0 3 v0 rfl rfl) h0
  obtain ⟨a1, len1, cap1, rfl⟩ := okWide_slice Try.underlying22 (hval 1 22 v1 rfl rfl)
  obtain ⟨a2, rfl, rfl, rfl, w2⟩ := open_int Try.underlying3 (hval 2 3 v2 rfl rfl) h2
  obtain ⟨a3, rfl, rfl, rfl, w3⟩ := open_int Try.underlying3 (hval 3 3 v3 rfl rfl) h3
  obtain ⟨a4, rfl, rfl, rfl, w4⟩ := open_int Try.underlying23 (hval 4 23 v4 rfl rfl) h4
  obtain ⟨c5, rfl⟩ : ∃ cs, v5 = .agg cs := by
    have := hval 5 26 v5 rfl rfl
    simp only [Value.okWide, Try.underlying26] at this
    obtain ⟨cs, h, -⟩ := this
    exact ⟨cs, h⟩
  obtain ⟨c6, rfl⟩ : ∃ cs, v6 = .agg cs := by
    have := hval 6 44 v6 rfl rfl
    simp only [Value.okWide, Try.underlying44] at this
    obtain ⟨cs, h, -⟩ := this
    exact ⟨cs, h⟩
  have lt1 : ∀ x ∈ p1, x.block < W.heap.size := by obtain ⟨m, hm⟩ := h1; exact DataW.trod_lt m _ _ _ hm
  have lt5 : ∀ x ∈ p5, x.block < W.heap.size := by obtain ⟨m, hm⟩ := h5; exact DataW.trod_lt m _ _ _ hm
  have lt6 : ∀ x ∈ p6, x.block < W.heap.size := by obtain ⟨m, hm⟩ := h6; exact DataW.trod_lt m _ _ _ hm
  have k1 := h1
  have k5 := h5
  have k6 := h6
  obtain ⟨f1, g1⟩ := h1
  obtain ⟨f5, g5⟩ := h5
  obtain ⟨f6, g6⟩ := h6
  obtain ⟨ca, cn, cc, xs, e1, s1, -, -, t1⟩ := open_sl_ints Try.underlying22 Try.underlying3 co3 g1
  obtain ⟨b, bt, ea, en, ec, es, e5, hb, -, s5, -, t5⟩ := open_log g5
  obtain ⟨m, mes, e6, hmt, s6, -, t6⟩ := open_msg g6
  simp only [Value.cells] at e1 e5 e6
  obtain ⟨rfl, rfl, rfl⟩ : a1 = ca ∧ len1 = cn ∧ cap1 = cc := by simpa using e1
  obtain rfl : c5 = #[.int .u64 b, .int .u64 bt, .slice ea en ec] := by cases c5; simp_all
  obtain rfl : c6 = (encM m).toArray := by cases c6; simp_all
  clear hA0 hval0
  refine (walk W s1 s5 s6 t1 t5 t6 (wf_u64 w4).1 hb.1 hmt).mono fun e W' ⟨he, bel⟩ => ?_
  subst he
  exact ⟨_, rfl, _, _, _, [], _, [], hW', trodAll_mk1 (shut_bool Try.underlying4 _), (trodAll_cons_mk (shut_int Try.underlying3 w0) (trodAll_cons_mk (Below.trod laidOut (by kernel_rfl) (of_decide_eq_true (by kernel_rfl)) k1 bel lt1) (trodAll_cons_mk (shut_int Try.underlying3 w2) (trodAll_cons_mk (shut_int Try.underlying3 w3) (trodAll_cons_mk (shut_int Try.underlying23 w4) (trodAll_cons_mk (Below.trod laidOut (by kernel_rfl) (of_decide_eq_true (by kernel_rfl)) k5 bel lt5) (trodAll_cons_mk (Below.trod laidOut (by kernel_rfl) (of_decide_eq_true (by kernel_rfl)) k6 bel lt6) trodAll_mk0))))))), rfl, bel.frame _, fun h => by cases h⟩

theorem over : Rows.electQuietRow.holds Try.pinned (OpenSpec.ofChange Rows.electQuietSpec) :=
  OpenClaim.holds_of_wide 4 Try.f4 rfl rfl rfl rfl rfl rfl rfl ⟨rfl, rfl, rfl, rfl, rfl⟩ rfl rfl rfl rfl rfl (by kernel_rfl) Try.func4 (by kernel_rfl)
    (of_decide_eq_true (by kernel_rfl)) (by unfold Func.isWrapper; first | (rw [if_pos (by decide +kernel)]; kernel_rfl) | (rw [if_neg (by decide +kernel)]; exact ⟨rfl, rfl⟩))
    (fun os started H enc _ => lifted os started H enc)

theorem proved : Rows.ElectQuietSaid := over
#print axioms proved
end Go.Proofs.Ytpipmojaonialaa.electQuiet
