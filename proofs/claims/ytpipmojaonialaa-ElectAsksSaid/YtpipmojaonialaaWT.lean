/- What the arguments of chapter 11's statements are: logs, messages. -/
import Derived.Test.YtpipmojaonialaaChecked
import Derived.Test.YtpipmojaonialaaSlT
import Derived.Test.YtpipmojaonialaaRModel
namespace Go.Sl
open Go Go.RowKit Go.Proofs
section
variable {H : Type} {enc : TypeId × Value → H} {w : World} {base : Nat} {spare : Nat → Bool} {held : Bool}
theorem wf_u64 {n : Int} (h : (Lit.int .u64 n).wf = true) : 0 ≤ n ∧ n ≤ 18446744073709551615 := by
  simpa [Lit.wf, IntKind.has, IntKind.min, IntKind.max, IntKind.signed, IntKind.bits] using h
structure EOk (w : World) (e : RE) : Prop where
  t : 0 ≤ e.t ∧ e.t ≤ 18446744073709551615
  d : ∃ bs : List Int, Sok 1 e.da e.dn e.dc (bs.map (.int .u8)) ∧ e.dc ≤ maxLen ∧ (∀ x ∈ bs, (Lit.int .u8 x).wf = true) ∧ ReadAt w e.da (bs.map (.int .u8))
theorem co3 : Try.prog.cellsOf 3 = 1 := by kernel_rfl
theorem co4 : Try.prog.cellsOf 4 = 1 := by kernel_rfl
theorem co5 : Try.prog.cellsOf 5 = 1 := by kernel_rfl
theorem co23 : Try.prog.cellsOf 23 = 1 := by kernel_rfl
theorem co24 : Try.prog.cellsOf 24 = 1 := by kernel_rfl
theorem co26 : Try.prog.cellsOf 26 = 3 := by kernel_rfl
theorem co42 : Try.prog.cellsOf 42 = 1 := by kernel_rfl
theorem co44 : Try.prog.cellsOf 44 = 10 := by kernel_rfl
theorem co88 : Try.prog.cellsOf 88 = 3 := by kernel_rfl
theorem open_entry {fuel : Nat} {cs : List Value} {x : DataW H × List MemPlace} (h : DataW.trod enc Try.prog w base spare held fuel 88 cs = some x) : ∃ e : RE, cs = encE e ∧ EOk w e := by
  obtain ⟨hl, hf⟩ := trod_field Try.underlying88 h
  rw [co88] at hl
  match cs, hl with
  | [c0, c1, c2], _ =>
    obtain ⟨_, _, h0⟩ := hf 0 23 0 rfl
    obtain ⟨_, _, h1⟩ := hf 1 3 1 rfl
    obtain ⟨_, _, h2⟩ := hf 2 42 2 rfl
    simp only [co23, co3, co42, List.drop_zero, List.take_succ_cons, List.take_zero, List.drop_succ_cons] at h0 h1 h2
    obtain ⟨n0, e0, -, w0⟩ := DataW.trod_int Try.underlying23 h0
    obtain ⟨n1, e1, -, w1⟩ := DataW.trod_int Try.underlying3 h1
    obtain ⟨a, n, c, bs, e2, k1, k2, k3, k4⟩ := open_sl_ints Try.underlying42 Try.underlying5 co5 h2
    simp only [List.cons.injEq, and_true] at e0 e1 e2
    subst e0 e1 e2
    exact ⟨⟨n0, n1, a, n, c⟩, rfl, wf_u64 w0, bs, k1, k2, k3, k4⟩
theorem open_entries {fuel : Nat} {cs : List Value} {x : DataW H × List MemPlace} (h : DataW.trod enc Try.prog w base spare held fuel 24 cs = some x) :
    ∃ (a : Option Addr) (n c : Nat) (es : List RE), cs = [.slice a n c] ∧ Sok 3 a n c (es.flatMap encE) ∧ c ≤ maxLen ∧ (∀ e ∈ es, EOk w e) ∧ ReadAt w a (es.flatMap encE) :=
  open_slice Try.underlying24 co88 (by omega) (fun _ _ _ hy => open_entry hy) encE_len h
theorem open_log {fuel : Nat} {cs : List Value} {x : DataW H × List MemPlace} (h : DataW.trod enc Try.prog w base spare held fuel 26 cs = some x) :
    ∃ (b bt : Int) (a : Option Addr) (n c : Nat) (es : List RE), cs = [.int .u64 b, .int .u64 bt, .slice a n c] ∧ (0 ≤ b ∧ b ≤ 18446744073709551615) ∧ (0 ≤ bt ∧ bt ≤ 18446744073709551615) ∧ Sok 3 a n c (es.flatMap encE) ∧ (∀ e ∈ es, EOk w e) ∧ ReadAt w a (es.flatMap encE) := by
  obtain ⟨hl, hf⟩ := trod_field Try.underlying26 h
  rw [co26] at hl
  match cs, hl with
  | [c0, c1, c2], _ =>
    obtain ⟨_, _, h0⟩ := hf 0 23 0 rfl
    obtain ⟨_, _, h1⟩ := hf 1 23 1 rfl
    obtain ⟨_, _, h2⟩ := hf 2 24 2 rfl
    simp only [co23, co24, List.drop_zero, List.take_succ_cons, List.take_zero, List.drop_succ_cons] at h0 h1 h2
    obtain ⟨n0, e0, -, w0⟩ := DataW.trod_int Try.underlying23 h0
    obtain ⟨n1, e1, -, w1⟩ := DataW.trod_int Try.underlying23 h1
    obtain ⟨a, n, c, es, e2, k1, k2, k3, k4⟩ := open_entries h2
    simp only [List.cons.injEq, and_true] at e0 e1 e2
    subst e0 e1 e2
    exact ⟨n0, n1, a, n, c, es, rfl, wf_u64 w0, wf_u64 w1, k1, k3, k4⟩
theorem open_msg {fuel : Nat} {cs : List Value} {x : DataW H × List MemPlace} (h : DataW.trod enc Try.prog w base spare held fuel 44 cs = some x) :
    ∃ (m : RM) (es : List RE), cs = encM m ∧ 0 ≤ m.term ∧ Sok 3 m.ea m.en m.ec (es.flatMap encE) ∧ (∀ e ∈ es, EOk w e) ∧ ReadAt w m.ea (es.flatMap encE) := by
  obtain ⟨hl, hf⟩ := trod_field Try.underlying44 h
  rw [co44] at hl
  match cs, hl with
  | [c0, c1, c2, c3, c4, c5, c6, c7, c8, c9], _ =>
    obtain ⟨_, _, h0⟩ := hf 0 3 0 rfl
    obtain ⟨_, _, h1⟩ := hf 1 3 1 rfl
    obtain ⟨_, _, h2⟩ := hf 2 3 2 rfl
    obtain ⟨_, _, h3⟩ := hf 3 23 3 rfl
    obtain ⟨_, _, h4⟩ := hf 4 23 4 rfl
    obtain ⟨_, _, h5⟩ := hf 5 23 5 rfl
    obtain ⟨_, _, h6⟩ := hf 6 23 6 rfl
    obtain ⟨_, _, h7⟩ := hf 7 4 7 rfl
    obtain ⟨_, _, h8⟩ := hf 8 42 8 rfl
    obtain ⟨_, _, h9⟩ := hf 9 24 9 rfl
    simp only [co23, co24, co3, co4, co42, List.drop_zero, List.take_succ_cons, List.take_zero, List.drop_succ_cons] at h0 h1 h2 h3 h4 h5 h6 h7 h8 h9
    obtain ⟨n0, e0, -, -⟩ := DataW.trod_int Try.underlying3 h0
    obtain ⟨n1, e1, -, -⟩ := DataW.trod_int Try.underlying3 h1
    obtain ⟨n2, e2, -, -⟩ := DataW.trod_int Try.underlying3 h2
    obtain ⟨n3, e3, -, w3⟩ := DataW.trod_int Try.underlying23 h3
    obtain ⟨n4, e4, -, -⟩ := DataW.trod_int Try.underlying23 h4
    obtain ⟨n5, e5, -, -⟩ := DataW.trod_int Try.underlying23 h5
    obtain ⟨n6, e6, -, -⟩ := DataW.trod_int Try.underlying23 h6
    obtain ⟨b7, e7, -⟩ := DataW.trod_bool Try.underlying4 h7
    obtain ⟨da, dn, dc, bs, e8, -, -, -, -⟩ := open_sl_ints Try.underlying42 Try.underlying5 co5 h8
    obtain ⟨a, n, c, es, e9, k1, k2, k3, k4⟩ := open_entries h9
    simp only [List.cons.injEq, and_true] at e0 e1 e2 e3 e4 e5 e6 e7 e8 e9
    subst e0 e1 e2 e3 e4 e5 e6 e7 e8 e9
    exact ⟨⟨n0, n1, n2, n3, n4, n5, n6, b7, da, dn, dc, a, n, c⟩, es, rfl, (wf_u64 w3).1, k1, k3, k4⟩
end
end Go.Sl
