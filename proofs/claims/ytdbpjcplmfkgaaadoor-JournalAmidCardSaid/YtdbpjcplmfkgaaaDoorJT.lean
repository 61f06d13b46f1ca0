/- What the arguments of chapter 06's statements are; the table that the program's text lays. -/
import Derived.Test.YtdbpjcplmfkgaaaDoorRows
import Derived.Test.YtdbpjcplmfkgaaaDoorTie
import Derived.Test.YtdbpjcplmfkgaaaDoorJMem
import Derived.Test.YtdbpjcplmfkgaaaDoorSlT
import Derived.WalkKit
import Derived.ProofKit
import Derived.OpenShut
import Derived.ShutString
import Derived.ChangeOld
import Derived.Below
import Derived.LaidMore
import Derived.Lib.LaidTab
import Derived.Stop.Joined
import Derived.SevenTiedAt
namespace Go.Proofs.YtdbpjcplmfkgaaaDoor
open Go.ChangeShapes Go.WideShapes Go.ChangeAt Go.RowKit Go.Sl
theorem own : ownKnob Tryd.prog.godebug = none := by kernel_rfl
theorem laidOut : laidOutB Tryd.prog = true := by kernel_rfl
theorem co3 : Tryd.prog.cellsOf 3 = 1 := by kernel_rfl
theorem co5 : Tryd.prog.cellsOf 5 = 1 := by kernel_rfl
theorem co24 : Tryd.prog.cellsOf 24 = 1 := by kernel_rfl
theorem co33 : Tryd.prog.cellsOf 33 = 1 := by kernel_rfl
theorem co43 : Tryd.prog.cellsOf 43 = 4 := by kernel_rfl
abbrev laidL : List (String × DataW Unit) := [("pursuivant/check.table", Rows.laid_pursuivant_check_table)]
theorem gTab : Tryd.prog.globalNamed "pursuivant/check.table" = some 0 := by kernel_rfl
theorem tab_cells {W : World} (h : laidMetH Tryd.prog laidL W) : ∀ i v, (tblN.map fun x : Nat => Value.int .u32 (x : Int))[i]? = some v → W.cell? ⟨0, i, none⟩ = some v := by
  rw [MakeChecks.laidMetH_plain _ _ _ (by kernel_rfl)] at h
  have hT : Lib.TabIs Tryd.prog W "pursuivant/check.table" .u32 (tblN.map fun x : Nat => (x : Int)) := Lib.tabIs_of_head (rest := []) gTab (show (Tryd.prog.globals[0]?).map (·.type) = some 127 by kernel_rfl) (show Tryd.prog.underlying 127 = some (.array 16 65) by kernel_rfl) (show Tryd.prog.underlying 65 = some (.int .u32) by kernel_rfl) (by kernel_rfl) (by kernel_rfl) h
  intro i v hv
  rw [List.getElem?_map] at hv
  obtain ⟨x, hx, rfl⟩ := Option.map_eq_some_iff.1 hv
  have hi : i < tblN.length := (List.getElem?_eq_some_iff.1 hx).1
  rw [hT.cell gTab i (by rw [List.length_map]; exact hi)]
  simp [List.getD, hx]
theorem door_met (os : Os) (args : Array Value) : laidMetH Tryd.prog laidL ((World.doorLaid Tryd.prog 400 os).forCall (fun _ _ => 0) ⟨#[], args, []⟩).memory :=
  laidMetH_of_parts3 (fuel := 8) (laidMet_of_run' 8 (by kernel_rfl) (by kernel_rfl)) (by kernel_rfl) (by kernel_rfl)
section
variable {H : Type} {enc : TypeId × Value → H} {w : World} {base : Nat} {spare : Nat → Bool} {held : Bool}
theorem wf_u8 {x : Int} (h : (Lit.int .u8 x).wf = true) : 0 ≤ x ∧ x ≤ 255 := by
  simpa [Lit.wf, IntKind.has, IntKind.min, IntKind.max, IntKind.signed, IntKind.bits] using h
theorem open_bytes {fuel : Nat} {cs : List Value} {x : DataW H × List MemPlace} (h : DataW.trod enc Tryd.prog w base spare held fuel 33 cs = some x) : ∃ b : BS, cs = [bsV b] ∧ b.ok ∧ b.c ≤ maxLen ∧ ReadAt w b.a (b.bs.map u8) := by
  obtain ⟨a, n, c, xs, e, k1, k2, k3, k4⟩ := open_sl_ints Tryd.underlying33 Tryd.underlying5 co5 h
  have hx : xs.map (Value.int .u8) = (xs.map fun x => by_ x.toNat).map u8 := by
    rw [List.map_map]
    refine List.map_congr_left fun x hx => ?_
    have := wf_u8 (k3 x hx)
    simp only [Function.comp, u8, by_, Value.int.injEq, true_and]
    omega
  rw [hx] at k1 k4
  exact ⟨⟨xs.map fun x : Int => by_ x.toNat, a, n, c⟩, e, k1, k2, k4⟩
theorem open_ints {fuel : Nat} {cs : List Value} {x : DataW H × List MemPlace} (h : DataW.trod enc Tryd.prog w base spare held fuel 24 cs = some x) : ∃ b : IS, cs = [.slice b.a b.n b.c] ∧ b.ok ∧ b.c ≤ maxLen ∧ ReadAt w b.a (b.xs.map (.int .i64)) := by
  obtain ⟨a, n, c, xs, e, k1, k2, k3, k4⟩ := open_sl_ints Tryd.underlying24 Tryd.underlying3 co3 h
  exact ⟨⟨xs, a, n, c⟩, e, k1, k2, k4⟩
structure OpOk (w : World) (o : OpV) : Prop where
  b : o.b.ok
  p : o.p.ok
  bc : o.b.c ≤ maxLen
  rb : ReadAt w o.b.a (o.b.bs.map u8)
  rp : ReadAt w o.p.a (o.p.xs.map (.int .i64))
theorem four : ∀ {l : List Value}, l.length = 4 → ∃ a b c d, l = [a, b, c, d]
  | [a, b, c, d], _ => ⟨a, b, c, d, rfl⟩
theorem open_op {fuel : Nat} {cs : List Value} {x : DataW H × List MemPlace} (h : DataW.trod enc Tryd.prog w base spare held fuel 43 cs = some x) : ∃ o : OpV, cs = encO o ∧ OpOk w o := by
  obtain ⟨hl, hf⟩ := trod_field Tryd.underlying43 h
  rw [co43] at hl
  obtain ⟨c0, c1, c2, c3, rfl⟩ := four hl
  · obtain ⟨_, _, h0⟩ := hf 0 3 0 rfl
    obtain ⟨_, _, h1⟩ := hf 1 3 1 rfl
    obtain ⟨_, _, h2⟩ := hf 2 33 2 rfl
    obtain ⟨_, _, h3⟩ := hf 3 24 3 rfl
    simp only [co3, co24, co33, List.drop_zero, List.take_succ_cons, List.take_zero, List.drop_succ_cons] at h0 h1 h2 h3
    obtain ⟨n0, e0, -, -⟩ := DataW.trod_int Tryd.underlying3 h0
    obtain ⟨n1, e1, -, -⟩ := DataW.trod_int Tryd.underlying3 h1
    obtain ⟨b, e2, k1, k2, k3⟩ := open_bytes h2
    obtain ⟨p, e3, k4, -, k5⟩ := open_ints h3
    simp only [List.cons.injEq, and_true] at e0 e1 e2 e3
    subst e0 e1 e2 e3
    exact ⟨⟨n0, n1, b, p⟩, rfl, k1, k4, k2, k3, k5⟩
theorem open_ops {fuel : Nat} {cs : List Value} {x : DataW H × List MemPlace} (h : DataW.trod enc Tryd.prog w base spare held fuel 22 cs = some x) :
    ∃ (a : Option Addr) (c : Nat) (ops : List OpV), cs = [.slice a ops.length c] ∧ Sok 4 a ops.length c (ops.flatMap encO) ∧ (∀ o ∈ ops, OpOk w o) ∧ ReadAt w a (ops.flatMap encO) := by
  obtain ⟨a, n, c, ops, e, k1, k2, k3, k4⟩ := open_slice Tryd.underlying22 co43 (by omega) (fun _ _ _ hy => open_op hy) encO_len h
  have hn : ops.length = n := by have := k1.len; rw [flat_length encO_len] at this; omega
  subst hn
  exact ⟨a, c, ops, e, k1, k3, k4⟩
theorem open_list {fuel : Nat} {cs : List Value} {x : DataW H × List MemPlace} (h : DataW.trod enc Tryd.prog w base spare held fuel 23 cs = some x) :
    ∃ (a : Option Addr) (c : Nat) (bs : List BS), cs = [.slice a bs.length c] ∧ Sok 1 a bs.length c (bs.map bsV) ∧ (∀ b ∈ bs, b.ok ∧ ReadAt w b.a (b.bs.map u8)) ∧ ReadAt w a (bs.map bsV) := by
  obtain ⟨a, n, c, bs, e, k1, k2, k3, k4⟩ := open_slice (f := fun b : BS => [bsV b]) (φ := fun b => b.ok ∧ ReadAt w b.a (b.bs.map u8)) Tryd.underlying23 co33 (by omega) (fun _ _ _ hy => by obtain ⟨b, h1, h2, -, h3⟩ := open_bytes hy; exact ⟨b, h1, h2, h3⟩) (fun _ => rfl) h
  rw [flat_one] at k1 k4
  have hn : bs.length = n := by have := k1.len; simpa using this
  subst hn
  exact ⟨a, c, bs, e, k1, k3, k4⟩
end
theorem opsD {w : World} {ops : List OpV} (h : ∀ o ∈ ops, OpOk w o) : OpsD (whole w) ops := fun o ho => ⟨(h o ho).b, (h o ho).p, fun _ => Imp.ofWhole (h o ho).rb, fun _ => Imp.ofWhole (h o ho).rp⟩
theorem Imp.tbl {w : World} (h : laidMetH Tryd.prog laidL w) {Γ : List A} : Imp (whole w :: Γ) (tblA :: whole w :: Γ) := Imp.ofWhole fun i v hv => by rw [Nat.zero_add]; exact tab_cells h i v hv
theorem of_trip {f : FuncId} {args : Array Value} {Γ : List A} {w : World} (h : Trip Tryd.prog f args Γ (fun r Δ => r = .bool true ∧ Δ = [])) (i : Imp [whole w] Γ) :
    Calls Tryd.prog f args w fun e w' => e = .returned (.bool true) ∧ Below w.heap.size w w' := by
  refine (h (whole w) w (i _ _ (Sat.whole w))).mono fun e w' q => ?_
  obtain ⟨v, Δ, rfl, ⟨rfl, rfl⟩, s, ad⟩ := q
  exact ⟨rfl, Sat.below s ad⟩
end Go.Proofs.YtdbpjcplmfkgaaaDoor
