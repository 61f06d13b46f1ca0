/- ElectAsks: at every input the law returns true, and what it was handed reads as it did. No conditions. -/
import Derived.Test.YtpipmojaonialaaRows
import Derived.Test.YtpipmojaonialaaWK
import Derived.Test.YtpipmojaonialaaWT
import Derived.WalkKit
import Derived.ProofKit
import Derived.OpenShut
import Derived.ShutString
import Derived.ChangeOld
import Derived.Below
namespace Go.Proofs.Ytpipmojaonialaa.electAsks
open Go.ChangeShapes Go.WideShapes Go.ChangeAt Go.RowKit Go.Sl

theorem own : ownKnob Try.prog.godebug = none := by kernel_rfl
theorem laidOut : laidOutB Try.prog = true := by kernel_rfl

theorem of_trip {f : FuncId} {args : Array Value} {Γ : List A} {w : World} (h : Trip Try.prog f args Γ (fun r Δ => r = .bool true ∧ Δ = [])) (i : Imp [whole w] Γ) :
    Calls Try.prog f args w fun e w' => e = .returned (.bool true) ∧ Below w.heap.size w w' := by
  refine (h (whole w) w (i _ _ (Sat.whole w))).mono fun e w' q => ?_
  obtain ⟨v, Δ, rfl, ⟨rfl, rfl⟩, s, ad⟩ := q
  exact ⟨rfl, Sat.below s ad⟩

theorem data_of {w : World} {e : RE} (h : EOk w e) : EData (whole w) e := by
  obtain ⟨bs, h1, h2, -, h4⟩ := h.d
  refine ⟨bs, h1, ?_, fun Γ => Imp.ofWhole h4⟩
  have := h1.cap
  simp only [maxLen] at h2
  omega

theorem walk {ca ea : Option Addr} {cn cc en ec : Nat} {xs : List Int} {es : List RE} {me role vote term base bt next lead : Int} {real : Bool} (w : World)
    (hc : Sok 1 ca cn cc (xs.map (.int .i64))) (he : Sok 3 ea en ec (es.flatMap encE)) (r1 : ReadAt w ca (xs.map (.int .i64))) (r2 : ReadAt w ea (es.flatMap encE)) (hd : ∀ e ∈ es, EOk w e)
    (hterm : 0 ≤ term) (hbase : 0 ≤ base) :
    Calls Try.prog 3 #[.int .i64 me, .slice ca cn cc, .int .i64 role, .int .i64 vote, .int .u64 term, .agg #[.int .u64 base, .int .u64 bt, .slice ea en ec], .bool real, .int .u64 next, .int .i64 lead] w fun e w' => e = .returned (.bool true) ∧ Below w.heap.size w w' := by
  have i : Imp [whole w] [sl false ca (xs.map (.int .i64)), sl false ea (es.flatMap encE), whole w] :=
    (Imp.ofWhole r2).trans ((Imp.perm (.swap _ _ _)).trans ((Imp.ofWhole r1).trans (Imp.cons _ (Imp.perm (.swap _ _ _)))))
  by_cases hg : (right xs = true ∧ base < 1152921504606846976 ∧ (en : Int) ≤ 20 ∧ 0 ≤ me ∧ me ≤ 15 ∧ 0 ≤ role ∧ role ≤ 3 ∧ -1 ≤ vote ∧ vote ≤ 15 ∧ term < 1152921504606846976 ∧ ((0 : Nat) : Int) ≤ 20)
  · by_cases hx : next < 1152921504606846976
    · exact of_trip (c_Asks hc he hg hterm hbase hx fun e h => data_of (hd e h)) i
    · exact of_trip (c_AsksFar hc he hg (by omega)) i
  · exact of_trip (c_AsksNil hc he hg) i

set_option maxRecDepth 100000 in
theorem lifted (os : Os) (started : os.Started) (H : Type) (enc : TypeId × Value → H) :
    ReturnsInHanded {} Try.checked os 3 .any (Rows.electAsksSpec.pre6 enc Try.prog Try.f3 Rows.electAsksRow.domain false) (Rows.electAsksSpec.post enc Try.prog Try.f3 false true false false) := by
  refine returnsInHanded_of_change (C := Try.checked) own started (by kernel_rfl) Try.func3
    (ChangeSpec.witness6 (enc := enc) (C := Try.checked) false ⟨#[], #[.int .i64 0, .slice none 0 0, .int .i64 0, .int .i64 0, .int .u64 0, .agg #[.int .u64 0, .int .u64 0, .slice none 0 0], .bool false, .int .u64 0, .int .i64 0], []⟩ 8 (by kernel_rfl) (by kernel_rfl) (by kernel_rfl) (by kernel_rfl)) ?_
  intro W base args ds gs before hval0 hW hcnd _
  have hval : ∀ (j : Nat) t v, Try.f3.params[j]? = some t → args[j]? = some v → Value.okWide Try.prog W .any base t v := hval0
  have hW' := hW
  obtain ⟨p, q, hA0, hV, rfl, hfz, hnd⟩ := hW
  have hA : DataW.TrodAll enc Try.prog W 0 (fun _ => true) true Try.f3.params.toList args.toList ds p := hA0
  rw [Try.params3] at hA hval
  obtain ⟨v0, vs0, d0, ds0, p0, q0, hargs, rfl, rfl, h0, r0⟩ := trodAll_cons hA
  obtain ⟨v1, vs1, d1, ds1, p1, q1, rfl, rfl, rfl, h1, r1⟩ := trodAll_cons r0
  obtain ⟨v2, vs2, d2, ds2, p2, q2, rfl, rfl, rfl, h2, r2⟩ := trodAll_cons r1
  obtain ⟨v3, vs3, d3, ds3, p3, q3, rfl, rfl, rfl, h3, r3⟩ := trodAll_cons r2
  obtain ⟨v4, vs4, d4, ds4, p4, q4, rfl, rfl, rfl, h4, r4⟩ := trodAll_cons r3
  obtain ⟨v5, vs5, d5, ds5, p5, q5, rfl, rfl, rfl, h5, r5⟩ := trodAll_cons r4
  obtain ⟨v6, vs6, d6, ds6, p6, q6, rfl, rfl, rfl, h6, r6⟩ := trodAll_cons r5
  obtain ⟨v7, vs7, d7, ds7, p7, q7, rfl, rfl, rfl, h7, r7⟩ := trodAll_cons r6
  obtain ⟨v8, vs8, d8, ds8, p8, q8, rfl, rfl, rfl, h8, r8⟩ := trodAll_cons r7
  obtain ⟨rfl, rfl, rfl⟩ := trodAll_nil r8
  obtain rfl : args = #[v0, v1, v2, v3, v4, v5, v6, v7, v8] := by cases args; simp_all
  obtain ⟨rfl, rfl⟩ := trodVars_none hV
  obtain ⟨a0, rfl, rfl, rfl, w0⟩ := open_int Try.underlying3 (hval 0 3 v0 rfl rfl) h0
  obtain ⟨a1, len1, cap1, rfl⟩ := okWide_slice Try.underlying22 (hval 1 22 v1 rfl rfl)
  obtain ⟨a2, rfl, rfl, rfl, w2⟩ := open_int Try.underlying3 (hval 2 3 v2 rfl rfl) h2
  obtain ⟨a3, rfl, rfl, rfl, w3⟩ := open_int Try.underlying3 (hval 3 3 v3 rfl rfl) h3
  obtain ⟨a4, rfl, rfl, rfl, w4⟩ := open_int Try.underlying23 (hval 4 23 v4 rfl rfl) h4
  obtain ⟨c5, rfl⟩ : ∃ cs, v5 = .agg cs := by
    have := hval 5 26 v5 rfl rfl
    simp only [Value.okWide, Try.underlying26] at this
    obtain ⟨cs, h, -⟩ := this
    exact ⟨cs, h⟩
  obtain ⟨a6, rfl, rfl, rfl⟩ := open_bool Try.underlying4 (hval 6 4 v6 rfl rfl) h6
  obtain ⟨a7, rfl, rfl, rfl, w7⟩ := open_int Try.underlying23 (hval 7 23 v7 rfl rfl) h7
  obtain ⟨a8, rfl, rfl, rfl, w8⟩ := open_int Try.underlying3 (hval 8 3 v8 rfl rfl) h8
  have lt1 : ∀ x ∈ p1, x.block < W.heap.size := by obtain ⟨m, hm⟩ := h1; exact DataW.trod_lt m _ _ _ hm
  have lt5 : ∀ x ∈ p5, x.block < W.heap.size := by obtain ⟨m, hm⟩ := h5; exact DataW.trod_lt m _ _ _ hm
  have k1 := h1
  have k5 := h5
  obtain ⟨f1, g1⟩ := h1
  obtain ⟨f5, g5⟩ := h5
  obtain ⟨ca, cn, cc, xs, e1, s1, -, -, t1⟩ := open_sl_ints Try.underlying22 Try.underlying3 co3 g1
  obtain ⟨b, bt, ea, en, ec, es, e5, hb, -, s5, hes, t5⟩ := open_log g5
  simp only [Value.cells] at e1 e5
  obtain ⟨rfl, rfl, rfl⟩ : a1 = ca ∧ len1 = cn ∧ cap1 = cc := by simpa using e1
  obtain rfl : c5 = #[.int .u64 b, .int .u64 bt, .slice ea en ec] := by cases c5; simp_all
  clear hA0 hval0
  refine (walk W s1 s5 t1 t5 hes (wf_u64 w4).1 hb.1).mono fun e W' ⟨he, bel⟩ => ?_
  subst he
  exact ⟨_, rfl, _, _, _, [], _, [], hW', trodAll_mk1 (shut_bool Try.underlying4 _), (trodAll_cons_mk (shut_int Try.underlying3 w0) (trodAll_cons_mk (Below.trod laidOut (by kernel_rfl) (of_decide_eq_true (by kernel_rfl)) k1 bel lt1) (trodAll_cons_mk (shut_int Try.underlying3 w2) (trodAll_cons_mk (shut_int Try.underlying3 w3) (trodAll_cons_mk (shut_int Try.underlying23 w4) (trodAll_cons_mk (Below.trod laidOut (by kernel_rfl) (of_decide_eq_true (by kernel_rfl)) k5 bel lt5) (trodAll_cons_mk (shut_bool Try.underlying4 _) (trodAll_cons_mk (shut_int Try.underlying23 w7) (trodAll_cons_mk (shut_int Try.underlying3 w8) trodAll_mk0))))))))), rfl, bel.frame _, fun h => by cases h⟩

theorem over : Rows.electAsksRow.holds Try.pinned (OpenSpec.ofChange Rows.electAsksSpec) :=
  OpenClaim.holds_of_wide 3 Try.f3 rfl rfl rfl rfl rfl rfl rfl ⟨rfl, rfl, rfl, rfl, rfl⟩ rfl rfl rfl rfl rfl (by kernel_rfl) Try.func3 (by kernel_rfl)
    (of_decide_eq_true (by kernel_rfl)) (by unfold Func.isWrapper; first | (rw [if_pos (by decide +kernel)]; kernel_rfl) | (rw [if_neg (by decide +kernel)]; exact ⟨rfl, rfl⟩))
    (fun os started H enc _ => lifted os started H enc)

theorem proved : Rows.ElectAsksSaid := over
#print axioms proved
end Go.Proofs.Ytpipmojaonialaa.electAsks
