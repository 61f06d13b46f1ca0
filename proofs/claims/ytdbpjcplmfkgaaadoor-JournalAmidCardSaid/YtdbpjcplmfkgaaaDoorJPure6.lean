/- The journal's invariant, as the statements use it. -/
import Derived.Test.YtdbpjcplmfkgaaaDoorJPure5
namespace Go.Sl
open Go
section
variable {n T T' : Nat} {d : DK} {j : JN} {old : List (Nat × List By)} {fr : List (List By)}
theorem JInv.mono (h : JInv n T d j old fr) (hT : T ≤ T') (h2 : T' ≤ 1000) : JInv n T' d j old fr :=
  { h with bnd := ⟨by have := h.bnd; omega, by have := h.bnd; omega, by have := h.bnd; omega⟩, T1 := h2 }
theorem JInv.jok (h : JInv n T d j old fr) : j.ok d := by
  have h1 := h.n1; have h2 := h.bnd; have h3 := h.T1; have h4 := h.lowE; have h5 := h.hl; have h6 := h.hlen
  refine ⟨by rw [h.jn]; omega, by rw [h.jn, h.at1, h.len]; omega, by omega, by omega, by omega, by rw [h.jn]; omega, ?_⟩
  have hE : ∀ (l : List (Nat × List By)) (s : List Sec) (low next : Nat), chain s 1 n j.epoch low next l → ∀ x ∈ l, x.1 ≤ j.epoch := by
    intro l
    induction l with
    | nil => intro _ _ _ _ x hx; cases hx
    | cons y l ih =>
      intro s low next hc x hx
      obtain ⟨-, -, -, c4, c5⟩ := hc
      rcases List.mem_cons.1 hx with rfl | hx
      · exact c4
      · exact ih s _ _ c5 x hx
  intro x hx
  rw [h.held] at hx
  rcases List.mem_append.1 hx with hx | hx
  · have := hE old _ _ _ h.ch x hx; omega
  · obtain ⟨b, -, rfl⟩ := List.mem_map.1 hx
    show j.epoch < _; omega
theorem JInv.next_lt (h : JInv n T d j old fr) : j.next < 4294967296 := by
  have h2 := h.bnd; have h3 := h.T1; have h6 := h.hlen
  unfold JN.next; omega
theorem JInv.pl (h : JInv n T d j old fr) : d.pend.length ≤ 17 := by
  have h1 := h.n1; have h5 := h.hl
  rw [h.pend, freshW_len]; omega
theorem crash_sure {H : List (Nat × List By)} (h : JInv n T d j H []) (hT : T + 1 ≤ 1000) (ps : List Int) : ∃ d' j', jopen0 (d.crash ps) 1 n = (d', some j', 0) ∧ JInv n (T + 1) d' j' H [] ∧ j'.held = H := by
  obtain ⟨i, d', j', -, h1, h2, h3⟩ := crash_open h hT ps
  simp only [List.take_nil, frE, List.map_nil, List.append_nil] at h2 h3
  exact ⟨d', j', h1, h2, h3⟩
theorem only_sure {H : List (Nat × List By)} (h : JInv n T d j H []) (hT : T + 1 ≤ 1000) : ∃ d' j', jopen0 d 1 n = (d', some j', 0) ∧ JInv n (T + 1) d' j' H [] ∧ j'.held = H := by
  obtain ⟨i, d', j', -, h1, h2, h3⟩ := only_open h hT
  simp only [List.take_nil, frE, List.map_nil, List.append_nil] at h2 h3
  exact ⟨d', j', h1, h2, h3⟩
theorem sync_sure (h : JInv n T d j old fr) : JInv n T d.sync j j.held [] := by have := sync_inv h; rwa [← h.heldE] at this
/-- The invariant, whatever is sure. -/
def Inv (n T : Nat) (d : DK) (j : JN) : Prop := ∃ old fr, JInv n T d j old fr
theorem Inv.append (h : Inv n T d j) (hT : T + 1 ≤ 1000) (b : List By) : Inv n (T + 1) (jappend d j b).1 (jappend d j b).2.1 := by
  obtain ⟨old, fr, h⟩ := h
  obtain ⟨d', j', e, h1, h2⟩ := append_inv h hT b
  rw [h1]
  rcases h2 with ⟨-, rfl, rfl, -⟩ | ⟨-, -, -, -, h2⟩
  · exact ⟨old, fr, h.mono (by omega) hT⟩
  · exact ⟨_, _, h2⟩
theorem Inv.sync (h : Inv n T d j) (hT : T + 1 ≤ 1000) : Inv n (T + 1) d.sync j := by
  obtain ⟨old, fr, h⟩ := h
  exact ⟨_, _, (sync_inv h).mono (by omega) hT⟩
theorem Inv.trim (h : Inv n T d j) (hT : T + 1 ≤ 1000) (k : Int) : Inv n (T + 1) (jtrim d j k).1 (jtrim d j k).2.1 := by
  obtain ⟨old, fr, h⟩ := h
  obtain ⟨d', j', e, h1, h2⟩ := trim_inv h hT k
  rw [h1]
  rcases h2 with ⟨-, rfl, rfl, -⟩ | ⟨-, -, -, -, h2⟩
  · exact ⟨old, fr, h.mono (by omega) hT⟩
  · exact ⟨_, _, h2⟩
theorem Inv.cut (h : Inv n T d j) (hT : T + 1 ≤ 1000) (k : Int) : Inv n (T + 1) (jcut d j k).1 (jcut d j k).2.1 := by
  obtain ⟨old, fr, h⟩ := h
  obtain ⟨d', j', e, h1, h2⟩ := cut_inv h hT k
  rw [h1]
  rcases h2 with ⟨-, rfl, rfl, -⟩ | ⟨-, -, -, -, h2⟩
  · exact ⟨old, fr, h.mono (by omega) hT⟩
  · exact ⟨_, _, h2⟩
theorem Inv.crash (h : Inv n T d j) (hT : T + 1 ≤ 1000) (ps : List Int) : ∃ d' j', jopen0 (d.crash ps) 1 n = (d', some j', 0) ∧ Inv n (T + 1) d' j' := by
  obtain ⟨old, fr, h⟩ := h
  obtain ⟨i, d', j', -, h1, h2, -⟩ := crash_open h hT ps
  exact ⟨d', j', h1, _, _, h2⟩
theorem Inv.again (h : Inv n T d j) (hT : T + 1 ≤ 1000) : ∃ d' j', jopen0 d 1 n = (d', some j', 0) ∧ Inv n (T + 1) d' j' := by
  obtain ⟨old, fr, h⟩ := h
  obtain ⟨i, d', j', -, h1, h2, -⟩ := only_open h hT
  exact ⟨d', j', h1, _, _, h2⟩
theorem Inv.new (hn : 1 ≤ n ∧ n ≤ 17) : ∃ d' j', jopen0 (DK.new 20) 1 n = (d', some j', 0) ∧ Inv n 1 d' j' := by
  obtain ⟨d', j', h1, h2, -⟩ := new_inv hn
  exact ⟨d', j', h1, _, _, h2⟩
theorem Inv.mono (h : Inv n T d j) (hT : T ≤ T') (h2 : T' ≤ 1000) : Inv n T' d j := by
  obtain ⟨old, fr, h⟩ := h
  exact ⟨_, _, h.mono hT h2⟩
theorem Inv.jok (h : Inv n T d j) : j.ok d := by obtain ⟨_, _, h⟩ := h; exact h.jok
theorem Inv.ok (h : Inv n T d j) : d.ok := by obtain ⟨_, _, h⟩ := h; exact h.ok
theorem Inv.pl (h : Inv n T d j) : d.pend.length ≤ 17 := by obtain ⟨_, _, h⟩ := h; exact h.pl
theorem Inv.len (h : Inv n T d j) : d.seen.length = 20 := by obtain ⟨_, _, h⟩ := h; exact h.len
theorem Inv.next_lt (h : Inv n T d j) : j.next < 4294967296 := by obtain ⟨_, _, h⟩ := h; exact h.next_lt
theorem Inv.hlen (h : Inv n T d j) : j.held.length ≤ 17 := by
  obtain ⟨_, _, h⟩ := h
  have h1 := h.n1; have h2 := h.hl; have h3 := h.hlen
  omega
theorem crash_pl (ps : List Int) : (d.crash ps).pend.length = 0 := rfl
theorem Inv.clen (h : Inv n T d j) (ps : List Int) : (d.crash ps).seen.length = 20 := by
  obtain ⟨_, _, h⟩ := h
  show (crashL d.sure d.pend ps).length = 20
  rw [crashL_len, h.ok.same, h.len]
theorem chain_b {s : List Sec} {at_ E : Nat} : ∀ (l : List (Nat × List By)) (low next : Nat), chain s at_ n E low next l → ∀ x ∈ l, x.2.length ≤ 43
  | [], _, _, _, x, hx => by cases hx
  | y :: l, low, next, hc, x, hx => by
    obtain ⟨c1, -, -, -, c5⟩ := hc
    rcases List.mem_cons.1 hx with rfl | hx
    · exact c1
    · exact chain_b l _ _ c5 x hx
theorem JInv.hb (h : JInv n T d j old fr) : ∀ x ∈ j.held, x.2.length ≤ 43 := by
  intro x hx
  rw [h.held] at hx
  rcases List.mem_append.1 hx with hx | hx
  · exact chain_b _ _ _ h.ch x hx
  · obtain ⟨b, hb, rfl⟩ := List.mem_map.1 hx
    exact h.frl b hb
theorem Inv.hb (h : Inv n T d j) : ∀ x ∈ j.held, x.2.length ≤ 43 := by obtain ⟨_, _, h⟩ := h; exact h.hb
end
end Go.Sl
