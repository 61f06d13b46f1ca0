/- Texts of this claim, merged: GPure5, GPure6, SlQ, RMem2, JV, JW, JX, JY, JZ, KA, KB, KC, KD, JA. -/
import Derived.Test.YtdbpjcplmfkgaaaDoorJPlaysTopm1
/- The journal's invariant anywhere on a disk: trims, cuts, the first opening. -/
namespace Go.Sl.G
open Go Go.Sl
section
variable {N a n T : Nat} {d : DK} {j : JN} {old : List (Nat × List By)} {fr : List (List By)}
theorem JInv.heldE (h : JInv N a n T d j old fr) : j.held = old ++ frE j.epoch fr := by rw [h.held]; rfl
theorem JInv.hlen (h : JInv N a n T d j old fr) : j.held.length = old.length + fr.length := by rw [h.heldE, List.length_append, frE_len]
/-- All that is held is sure, once everything is. -/
theorem JInv.sure (h : JInv N a n T d j old fr) (hf : fr = []) : d.pend = [] ∧ d.sure = d.seen ∧ j.held = old := by
  subst hf
  have hp : d.pend = [] := by rw [h.pend]; rfl
  exact ⟨hp, by rw [h.vis, hp]; rfl, by rw [h.held]; simp⟩
theorem trim_inv (h : JInv N a n T d j old fr) (hT : T + 1 ≤ 1000000) (k : Int) : ∃ d' j' e, jtrim d j k = (d', j', e) ∧ ((e ≠ 0 ∧ d' = d ∧ j' = j ∧ (k < 0 ∨ (j.held.length : Int) < k)) ∨ (e = 0 ∧ 0 ≤ k ∧ k ≤ j.held.length ∧ j'.held = j.held.drop k.toNat ∧ JInv N a n (T + 1) d' j' j'.held [] ∧ Fr a n d d')) := by
  by_cases hk : k < 0 ∨ (j.held.length : Int) < k
  · exact ⟨d, j, 1, by unfold jtrim; rw [if_pos hk], .inl ⟨by omega, rfl, rfl, hk⟩⟩
  · obtain ⟨m, rfl⟩ : ∃ m : Nat, k = (m : Int) := ⟨k.toNat, by omega⟩
    have hm : m ≤ j.held.length := by omega
    have hS := sync_inv h
    rw [← h.heldE] at hS
    have hn := h.n1
    have hb := h.bnd
    have hT1 := h.T1
    have hlen := h.len
    have hhl := h.hlen
    obtain ⟨j1, hj1⟩ : ∃ j1 : JN, j1 = { j with low := lastE j.low (j.held.take m), first := j.first + m, held := j.held.drop m } := ⟨_, rfl⟩
    have hlo : (if 0 < (m : Int) then ((j.held[(m : Int).toNat - 1]?).getD (0, [])).1 else j.low) = lastE j.low (j.held.take m) := by
      rw [Int.toNat_natCast]
      by_cases h0 : 0 < m
      · rw [if_pos (by omega), lastE_held _ _ j.low h0 hm]
      · rw [if_neg (by omega), show m = 0 by omega]; rfl
    obtain ⟨d', s1, s2, s3, s4, s5, s6, s7, s8, s9, s10⟩ := save_up (a := a) (xs := j1.metaB) h.up h.ok (by omega) h.vis (by omega) (by rw [metaB_len]; omega)
    have hst : jtrim d j (m : Int) = (d', j1, 0) := by
      unfold jtrim
      rw [if_neg hk, hlo, Int.toNat_natCast, ← hj1]
      unfold jsave
      simp only
      rw [show ((j1.at_ : Nat) : Int) = (a : Int) by rw [hj1]; exact congrArg _ h.at1, s1]
    have hring : ∀ p, a + 2 ≤ p → ring d'.sure p = ring d.sync.sure p := fun p hp => by
      rw [s5, s7 p (by omega) (by omega), (hS.sure rfl).2.1]
      rw [sync_up h.up]
    have hd1 : j1.first + j1.held.length = j.first + j.held.length := by rw [hj1]; simp only [List.length_drop]; omega
    have hla : lastE j1.low j1.held = lastE j.low j.held := by
      rw [hj1]; simp only
      rw [← lastE_append, List.take_append_drop]
    have hch := (chain_append (j.held.take m) (j.held.drop m) j.low j.first).1 (by rw [List.take_append_drop]; exact hS.ch)
    refine ⟨d', j1, 0, hst, .inr ⟨rfl, by omega, by omega, by rw [hj1, Int.toNat_natCast], ?_, fun p hp => s7 p (by omega) (by omega)⟩⟩
    exact {
      up := s2, ok := s3, len := by rw [s6]; exact hlen, at1 := by rw [hj1]; exact h.at1, jn := by rw [hj1]; exact h.jn, n1 := hn
      held := by simp
      hl := by rw [hj1]; simp only [List.length_drop, List.length_nil]; have := h.hl; omega
      pend := by rw [s4]; rfl
      vis := by rw [s4, s5]; rfl
      f1 := by rw [hj1]; show 1 ≤ j.first + m; have := h.f1; omega
      bnd := ⟨by rw [List.length_nil]; omega, by rw [hj1]; show j.epoch ≤ _; omega, by rw [s8]; omega⟩
      T1 := hT
      lowE := by rw [hj1]; exact (chain_lastE _ _ _ h.lowE hch.1).2
      frl := by simp
      ch := by
        have e : j1.held = j.held.drop m ∧ j1.first = j.first + m ∧ j1.low = lastE j.low (j.held.take m) ∧ j1.epoch = j.epoch := by rw [hj1]; exact ⟨rfl, rfl, rfl, rfl⟩
        rw [e.1, e.2.1, e.2.2.1, e.2.2.2]
        have h2 := hch.2
        rw [List.length_take, Nat.min_eq_left hm] at h2
        exact chain_cong _ _ _ (fun i _ => hring _ (by omega)) h2
      slot := by rw [s8, s9]; exact ⟨by omega, rfl⟩
      so := s10 (fun h0 => by have := h.slot.1; omega)
      g1 := fun p hp1 hp2 => by rw [hring p hp1, show j1.epoch = j.epoch by rw [hj1]]; exact hS.g1 p hp1 hp2
      g3 := fun p hp1 hp2 he => by
        rw [hring p hp1] at he ⊢
        rw [hd1]
        exact hS.g3 p hp1 hp2 (by rw [he, hj1])
      g2 := by
        rw [hd1, hring _ (by omega), hla]
        exact hS.g2 }
/-- The places that a cut clears. -/
theorem cutL_up : ∀ (k : Nat) (d : DK) (j : JN), Up d → d.ok → d.seen.length = N → j.at_ = a → j.n = n → 1 ≤ n → a + 2 + n ≤ N → k ≤ j.held.length → d.seen = flush d.sure d.pend →
    ∃ d', cutL d j k = (d', { j with held := j.held.take (j.held.length - k) }) ∧ Up d' ∧ d'.ok ∧ d'.seen.length = N ∧ d'.seen = flush d'.sure d'.pend ∧
      (∀ p, (∀ i, j.held.length - k ≤ i → i < j.held.length → p ≠ a + 2 + (j.first + i) % n) → ring d'.seen p = ring d.seen p) ∧
      (j.held.length ≤ n → ∀ i, j.held.length - k ≤ i → i < j.held.length → ring d'.seen (a + 2 + (j.first + i) % n) = .zero)
  | 0, d, j, h1, h2, h3, _, _, _, _, _, h6 => ⟨d, by simp only [cutL, Nat.sub_zero, List.take_length], h1, h2, h3, h6, fun _ _ => rfl, fun _ i _ _ => by omega⟩
  | k + 1, d, j, h1, h2, h3, h4, h5, hn1, hn2, hk, h6 => by
    obtain ⟨j1, hj1⟩ : ∃ j1 : JN, j1 = { j with held := j.held.dropLast } := ⟨_, rfl⟩
    have hl1 : j1.held.length = j.held.length - 1 := by rw [hj1]; simp
    have hp : j1.place j1.next = a + 2 + (j.first + (j.held.length - 1)) % n := by unfold JN.place JN.next; rw [hl1, hj1]; simp only [h4, h5]
    have hm := Nat.mod_lt (j.first + (j.held.length - 1)) (show 0 < n by omega)
    have hw := write_up h1 (i := j1.place j1.next) (b := []) (by omega) (by simp)
    have hup2 : Up (d.put (j1.place j1.next) (pad [])) := h1
    have hring : ∀ p, ring (d.put (j1.place j1.next) (pad [])).seen p = if p = a + 2 + (j.first + (j.held.length - 1)) % n then .zero else ring d.seen p := fun p => by
      simp only [DK.put]; rw [ring_set (by omega), hp, pad_nil]
    have hok2 : (d.put (j1.place j1.next) (pad [])).ok := by have := h2.write (j1.place j1.next) []; rw [hw] at this; exact this
    obtain ⟨d', c1, c2, c3, c4, c5, c6, c7⟩ := cutL_up k (d.put (j1.place j1.next) (pad [])) j1 hup2 hok2 (by simp only [DK.put, List.length_set]; exact h3) (by rw [hj1]; exact h4) (by rw [hj1]; exact h5) hn1 hn2 (by omega)
      (by simp only [DK.put]; rw [flush_snoc, ← h6])
    have hf : j1.first = j.first := by rw [hj1]
    rw [hl1, hf] at c6 c7
    refine ⟨d', ?_, c2, c3, c4, c5, ?_, ?_⟩
    · simp only [cutL]
      rw [← hj1, hw]
      simp only
      rw [c1, hl1, hj1]
      simp only [JN.mk.injEq, Prod.mk.injEq, true_and]
      rw [List.dropLast_eq_take, List.take_take]
      congr 1
      omega
    · intro p hq
      rw [c6 p (fun i q1 q2 => hq i (by omega) (by omega)), hring, if_neg (hq _ (by omega) (by omega))]
    · intro hn i q1 q2
      by_cases hi : i = j.held.length - 1
      · subst hi
        rw [c6 _ (fun i r1 r2 e => by
          have := mod_ne (a := j.first + (j.held.length - 1)) (b := j.first + i) (n := n) (by omega) (by omega) (by omega)
          omega), hring, if_pos rfl]
      · exact c7 (by omega) i (by omega) (by omega)
theorem cut_inv (h : JInv N a n T d j old fr) (hT : T + 1 ≤ 1000000) (k : Int) : ∃ d' j' e, jcut d j k = (d', j', e) ∧ ((e ≠ 0 ∧ d' = d ∧ j' = j ∧ (k < 0 ∨ (j.held.length : Int) < k)) ∨ (e = 0 ∧ 0 ≤ k ∧ k ≤ j.held.length ∧ j'.held = j.held.take (j.held.length - k.toNat) ∧ JInv N a n (T + 1) d' j' j'.held [] ∧ Fr a n d d')) := by
  by_cases hk : k < 0 ∨ (j.held.length : Int) < k
  · exact ⟨d, j, 1, by unfold jcut; rw [if_pos hk], .inl ⟨by omega, rfl, rfl, hk⟩⟩
  · obtain ⟨m, rfl⟩ : ∃ m : Nat, k = (m : Int) := ⟨k.toNat, by omega⟩
    have hm : m ≤ j.held.length := by omega
    have hS := sync_inv h
    rw [← h.heldE] at hS
    have hn := h.n1
    have hb := h.bnd
    have hT1 := h.T1
    have hlen := h.len
    have hhl := h.hlen
    have hl := h.hl
    obtain ⟨d1, c1, c2, c3, c4, c5, c6, c7⟩ := cutL_up (N := N) (a := a) (n := n) m d.sync j hS.up hS.ok hS.len h.at1 h.jn hn.1 hn.2.2 hm hS.vis
    obtain ⟨j1, hj1⟩ : ∃ j1 : JN, j1 = { j with held := j.held.take (j.held.length - m), epoch := j.epoch + 1 } := ⟨_, rfl⟩
    have hsy := sync_up c2
    have hvis2 : d1.sync.seen = flush d1.sync.sure d1.sync.pend := by rw [hsy]; exact c5
    have hse : d1.sync.seen = d1.seen := by rw [hsy]
    have hS7 := hS.sure rfl
    have hla : last d1.sync (a : Int) = last d (a : Int) := by
      have hx : last d.sync (a : Int) = last d (a : Int) := by
        have : d.sync.seen = d.seen := by rw [sync_up h.up]
        exact last_cong (by omega) (by rw [this]) (by rw [this]) (by rw [this])
      rw [← hx]
      exact last_cong (by have := hS.len; omega) (by rw [hse, c4, hS.len]) (by rw [hse]; exact c6 a (fun i _ _ => by omega)) (by rw [hse]; exact c6 (a + 1) (fun i _ _ => by omega))
    obtain ⟨d', s1, s2, s3, s4, s5, s6, s7, s8, s9, s10⟩ := save_up (a := a) (xs := j1.metaB) c2.sync c3.sync (by rw [hse]; omega) hvis2 (by rw [hla]; omega) (by rw [metaB_len]; omega)
    have hst : jcut d j (m : Int) = (d', j1, 0) := by
      unfold jcut
      rw [if_neg hk, if_neg (by omega), Int.toNat_natCast, c1]
      simp only
      rw [← hj1]
      unfold jsave
      rw [show ((j1.at_ : Nat) : Int) = (a : Int) by rw [hj1]; exact congrArg _ h.at1, s1]
    have hring : ∀ p, a + 2 ≤ p → (∀ i, j.held.length - m ≤ i → i < j.held.length → p ≠ a + 2 + (j.first + i) % n) → ring d'.sure p = ring d.sync.sure p := fun p hp hq => by
      rw [s5, s7 p (by omega) (by omega), hse, c6 p hq, hS7.2.1]
    have hzero : ∀ i, j.held.length - m ≤ i → i < j.held.length → ring d'.sure (a + 2 + (j.first + i) % n) = .zero := fun i q1 q2 => by
      rw [s5, s7 _ (by omega) (by omega), hse, c7 (by omega) i q1 q2]
    have hlt : (j.held.take (j.held.length - m)).length = j.held.length - m := by rw [List.length_take]; omega
    have e : j1.held = j.held.take (j.held.length - m) ∧ j1.first = j.first ∧ j1.low = j.low ∧ j1.epoch = j.epoch + 1 := by rw [hj1]; exact ⟨rfl, rfl, rfl, rfl⟩
    have hch := (chain_append (j.held.take (j.held.length - m)) (j.held.drop (j.held.length - m)) j.low j.first).1 (by rw [List.take_append_drop]; exact hS.ch)
    have hg : ∀ p, a + 2 ≤ p → p < a + 2 + n → tkE (ring d'.sure p) ≤ j.epoch := fun p hp1 hp2 => by
      by_cases hz : ∃ i, j.held.length - m ≤ i ∧ i < j.held.length ∧ p = a + 2 + (j.first + i) % n
      · obtain ⟨i, q1, q2, rfl⟩ := hz
        rw [hzero i q1 q2, tk_zero.2]; omega
      · rw [hring p hp1 (fun i q1 q2 e => hz ⟨i, q1, q2, e⟩)]; exact hS.g1 p hp1 hp2
    refine ⟨d', j1, 0, hst, .inr ⟨rfl, by omega, by omega, by rw [hj1, Int.toNat_natCast], ?_, fun p hp => by rw [s7 p (by omega) (by omega), hse, c6 p (fun i _ _ => by have := Nat.mod_lt (j.first + i) (show 0 < n by omega); omega), sync_up h.up]⟩⟩
    exact {
      up := s2, ok := s3, len := by rw [s6, hse, c4], at1 := by rw [hj1]; exact h.at1, jn := by rw [hj1]; exact h.jn, n1 := hn
      held := by simp
      hl := by rw [e.1, hlt, List.length_nil]; omega
      pend := by rw [s4]; rfl
      vis := by rw [s4, s5]; rfl
      f1 := by rw [e.2.1]; exact h.f1
      bnd := ⟨by rw [e.1, e.2.1, hlt, List.length_nil]; omega, by rw [e.2.2.2]; omega, by rw [s8, hla]; omega⟩
      T1 := hT
      lowE := by rw [e.2.2.1, e.2.2.2]; have := h.lowE; omega
      frl := by simp
      ch := by
        rw [e.1, e.2.1, e.2.2.1, e.2.2.2]
        refine chain_E (by omega) _ _ _ (chain_cong _ _ _ (fun i hi => hring _ (by omega) fun i2 q1 q2 e2 => ?_) hch.1)
        rw [hlt] at hi
        have := mod_ne (a := j.first + i) (b := j.first + i2) (n := n) (by omega) (by omega) (by omega)
        omega
      slot := by rw [s8, s9]; exact ⟨by omega, rfl⟩
      so := s10 (fun h0 => by have := h.slot.1; rw [hla] at h0; omega)
      g1 := fun p hp1 hp2 => by rw [e.2.2.2]; exact Nat.le_succ_of_le (hg p hp1 hp2)
      g3 := fun p hp1 hp2 he => by have := hg p hp1 hp2; rw [he, e.2.2.2] at this; omega
      g2 := by
        rw [e.1, e.2.1, e.2.2.1, hlt]
        intro he
        by_cases h0 : m = 0
        · subst h0
          rw [Nat.sub_zero] at he ⊢
          rw [hring _ (by omega) (fun i q1 q2 => by omega)] at he ⊢
          rw [List.take_length]
          exact hS.g2 he
        · rw [hzero (j.held.length - m) (by omega) (by omega), tk_zero.1] at he
          have := h.f1
          omega }
/-- A journal where all is zero. -/
theorem zero_inv (hn : 1 ≤ n ∧ n ≤ 100 ∧ a + 2 + n ≤ N) (hup : Up d) (hok : d.ok) (hlen : d.seen.length = N) (hvis : d.seen = flush d.sure d.pend) (hz : ∀ p, a ≤ p → p < a + 2 + n → ring d.seen p = .zero) :
    ∃ d' j', jopen0 d a n = (d', some j', 0) ∧ JInv N a n 1 d' j' [] [] ∧ j'.held = [] ∧ Fr a n d d' := by
  have hlast : (last d (a : Int)).seq = 0 := by
    rw [last_ring (by omega), lastStep_ring (by omega), lastStep_ring (by omega), hz _ (by omega) (by omega), hz _ (by omega) (by omega)]
    rfl
  have hst : ∀ E low next, 0 < next → stops d.seen a n E low next := fun E low next h e' b' hp => by
    have := Nat.mod_lt next (show 0 < n by omega)
    rw [hz _ (by omega) (by omega)] at hp
    have := tk_parse hp
    rw [tk_zero.1] at this
    omega
  exact open_inv (n := n) (T := 0) (d := d) (first := 1) (epoch := 0) (low := 0) (l := []) hup hok hlen hn hvis (begun_zero hlast) (by omega) (by omega) (by omega) (by simp) (by omega) (by omega) trivial (by simp) (.inr (hst _ _ _ (by simp))) (fun p _ _ => by rw [hz _ (by omega) (by omega), tk_zero.2]; omega) (fun _ => by rw [hz _ (by omega) (by omega)]; exact tk_zero.1)
theorem new_ring (N p : Nat) : ring (DK.new N).seen p = .zero := by
  unfold ring DK.new
  simp only
  rw [List.getElem?_replicate]
  split <;> rfl
theorem new_ok (hN : N ≤ 512) : (DK.new N).ok := ⟨by simp [DK.new]; omega, by simp [DK.new], by simp [DK.new], by simp [DK.new]⟩
end
end Go.Sl.G
/- The journal's invariant anywhere on a disk: as the statements use it. -/
namespace Go.Sl.G
open Go Go.Sl
section
variable {N a n T T' : Nat} {d : DK} {j : JN} {old : List (Nat × List By)} {fr : List (List By)}
theorem JInv.mono (h : JInv N a n T d j old fr) (hT : T ≤ T') (h2 : T' ≤ 1000000) : JInv N a n T' d j old fr :=
  { h with bnd := ⟨by have := h.bnd; omega, by have := h.bnd; omega, by have := h.bnd; omega⟩, T1 := h2 }
theorem JInv.jok (h : JInv N a n T d j old fr) : j.ok d := by
  have h1 := h.n1; have h2 := h.bnd; have h3 := h.T1; have h4 := h.lowE; have h5 := h.hl; have h6 := h.hlen
  have h7 := h.ok.n; have h8 := h.len
  refine ⟨by rw [h.jn]; omega, by rw [h.jn, h.at1, h.len]; omega, by omega, by omega, by omega, by rw [h.jn]; omega, ?_⟩
  have hE : ∀ (l : List (Nat × List By)) (s : List Sec) (low next : Nat), chain s a n j.epoch low next l → ∀ x ∈ l, x.1 ≤ j.epoch := by
    intro l
    induction l with
    | nil => intro _ _ _ _ x hx; cases hx
    | cons y l ih =>
      intro s low next hc x hx
      obtain ⟨-, -, -, c4, c5⟩ := hc
      rcases List.mem_cons.1 hx with rfl | hx
      · exact c4
      · exact ih s _ _ c5 x hx
  intro x hx
  rw [h.held] at hx
  rcases List.mem_append.1 hx with hx | hx
  · have := hE old _ _ _ h.ch x hx; omega
  · obtain ⟨b, -, rfl⟩ := List.mem_map.1 hx
    show j.epoch < _; omega
theorem JInv.next_lt (h : JInv N a n T d j old fr) : j.next < 4294967296 := by
  have h2 := h.bnd; have h3 := h.T1; have h6 := h.hlen
  unfold JN.next; omega
theorem JInv.pl (h : JInv N a n T d j old fr) : d.pend.length ≤ 100 := by
  have h1 := h.n1; have h5 := h.hl
  rw [h.pend, freshW_len]; omega
theorem crash_sure {H : List (Nat × List By)} (h : JInv N a n T d j H []) (hT : T + 1 ≤ 1000000) (ps : List Int) : ∃ d' j', jopen0 (d.crash ps) a n = (d', some j', 0) ∧ JInv N a n (T + 1) d' j' H [] ∧ j'.held = H ∧ Fr a n d d' := by
  obtain ⟨i, d', j', -, h1, h2, h3, h4⟩ := crash_open h hT ps
  simp only [List.take_nil, frE, List.map_nil, List.append_nil] at h2 h3
  exact ⟨d', j', h1, h2, h3, h4⟩
theorem only_sure {H : List (Nat × List By)} (h : JInv N a n T d j H []) (hT : T + 1 ≤ 1000000) : ∃ d' j', jopen0 d a n = (d', some j', 0) ∧ JInv N a n (T + 1) d' j' H [] ∧ j'.held = H ∧ Fr a n d d' := by
  obtain ⟨i, d', j', -, h1, h2, h3, h4⟩ := only_open h hT
  simp only [List.take_nil, frE, List.map_nil, List.append_nil] at h2 h3
  exact ⟨d', j', h1, h2, h3, h4⟩
theorem sync_sure (h : JInv N a n T d j old fr) : JInv N a n T d.sync j j.held [] := by have := sync_inv h; rwa [← h.heldE] at this
/-- The invariant, whatever is sure. -/
def Inv (N a n T : Nat) (d : DK) (j : JN) : Prop := ∃ old fr, JInv N a n T d j old fr
theorem Inv.append (h : Inv N a n T d j) (hT : T + 1 ≤ 1000000) (b : List By) : Inv N a n (T + 1) (jappend d j b).1 (jappend d j b).2.1 := by
  obtain ⟨old, fr, h⟩ := h
  obtain ⟨d', j', e, h1, h2⟩ := append_inv h hT b
  rw [h1]
  rcases h2 with ⟨-, rfl, rfl, -⟩ | ⟨-, -, -, -, h2, -⟩
  · exact ⟨old, fr, h.mono (by omega) hT⟩
  · exact ⟨_, _, h2⟩
theorem Inv.sync (h : Inv N a n T d j) (hT : T + 1 ≤ 1000000) : Inv N a n (T + 1) d.sync j := by
  obtain ⟨old, fr, h⟩ := h
  exact ⟨_, _, (sync_inv h).mono (by omega) hT⟩
theorem Inv.trim (h : Inv N a n T d j) (hT : T + 1 ≤ 1000000) (k : Int) : Inv N a n (T + 1) (jtrim d j k).1 (jtrim d j k).2.1 := by
  obtain ⟨old, fr, h⟩ := h
  obtain ⟨d', j', e, h1, h2⟩ := trim_inv h hT k
  rw [h1]
  rcases h2 with ⟨-, rfl, rfl, -⟩ | ⟨-, -, -, -, h2, -⟩
  · exact ⟨old, fr, h.mono (by omega) hT⟩
  · exact ⟨_, _, h2⟩
theorem Inv.cut (h : Inv N a n T d j) (hT : T + 1 ≤ 1000000) (k : Int) : Inv N a n (T + 1) (jcut d j k).1 (jcut d j k).2.1 := by
  obtain ⟨old, fr, h⟩ := h
  obtain ⟨d', j', e, h1, h2⟩ := cut_inv h hT k
  rw [h1]
  rcases h2 with ⟨-, rfl, rfl, -⟩ | ⟨-, -, -, -, h2, -⟩
  · exact ⟨old, fr, h.mono (by omega) hT⟩
  · exact ⟨_, _, h2⟩
theorem Inv.crash (h : Inv N a n T d j) (hT : T + 1 ≤ 1000000) (ps : List Int) : ∃ d' j', jopen0 (d.crash ps) a n = (d', some j', 0) ∧ Inv N a n (T + 1) d' j' := by
  obtain ⟨old, fr, h⟩ := h
  obtain ⟨i, d', j', -, h1, h2, -⟩ := crash_open h hT ps
  exact ⟨d', j', h1, _, _, h2⟩
theorem Inv.again (h : Inv N a n T d j) (hT : T + 1 ≤ 1000000) : ∃ d' j', jopen0 d a n = (d', some j', 0) ∧ Inv N a n (T + 1) d' j' := by
  obtain ⟨old, fr, h⟩ := h
  obtain ⟨i, d', j', -, h1, h2, -⟩ := only_open h hT
  exact ⟨d', j', h1, _, _, h2⟩
theorem Inv.new (hN : N ≤ 512) (hn : 1 ≤ n ∧ n ≤ 100 ∧ a + 2 + n ≤ N) : ∃ d' j', jopen0 (DK.new N) a n = (d', some j', 0) ∧ Inv N a n 1 d' j' := by
  obtain ⟨d', j', h1, h2, -⟩ := zero_inv (d := DK.new N) hn ⟨rfl, rfl⟩ (new_ok hN) (by simp [DK.new]) rfl (fun p _ _ => new_ring N p)
  exact ⟨d', j', h1, _, _, h2⟩
theorem Inv.mono (h : Inv N a n T d j) (hT : T ≤ T') (h2 : T' ≤ 1000000) : Inv N a n T' d j := by
  obtain ⟨old, fr, h⟩ := h
  exact ⟨_, _, h.mono hT h2⟩
theorem Inv.jok (h : Inv N a n T d j) : j.ok d := by obtain ⟨_, _, h⟩ := h; exact h.jok
theorem Inv.ok (h : Inv N a n T d j) : d.ok := by obtain ⟨_, _, h⟩ := h; exact h.ok
theorem Inv.pl (h : Inv N a n T d j) : d.pend.length ≤ 100 := by obtain ⟨_, _, h⟩ := h; exact h.pl
theorem Inv.len (h : Inv N a n T d j) : d.seen.length = N := by obtain ⟨_, _, h⟩ := h; exact h.len
theorem Inv.next_lt (h : Inv N a n T d j) : j.next < 4294967296 := by obtain ⟨_, _, h⟩ := h; exact h.next_lt
theorem Inv.hlen (h : Inv N a n T d j) : j.held.length ≤ 100 := by
  obtain ⟨_, _, h⟩ := h
  have h1 := h.n1; have h2 := h.hl; have h3 := h.hlen
  omega
theorem Inv.clen (h : Inv N a n T d j) (ps : List Int) : (d.crash ps).seen.length = N := by
  obtain ⟨_, _, h⟩ := h
  show (crashL d.sure d.pend ps).length = N
  rw [crashL_len, h.ok.same, h.len]
theorem JInv.hb (h : JInv N a n T d j old fr) : ∀ x ∈ j.held, x.2.length ≤ 43 := by
  intro x hx
  rw [h.held] at hx
  rcases List.mem_append.1 hx with hx | hx
  · exact chain_b _ _ _ h.ch x hx
  · obtain ⟨b, hb, rfl⟩ := List.mem_map.1 hx
    exact h.frl b hb
theorem Inv.hb (h : Inv N a n T d j) : ∀ x ∈ j.held, x.2.length ≤ 43 := by obtain ⟨_, _, h⟩ := h; exact h.hb
theorem Inv.up (h : Inv N a n T d j) : Up d := by obtain ⟨_, _, h⟩ := h; exact h.up
theorem Inv.vis (h : Inv N a n T d j) : d.seen = flush d.sure d.pend := by obtain ⟨_, _, h⟩ := h; exact h.vis
theorem Inv.seq (h : Inv N a n T d j) : (last d (a : Int)).seq < 4294967295 ∧ j.at_ = a ∧ j.n = n := by obtain ⟨_, _, h⟩ := h; have := h.bnd; have := h.T1; exact ⟨by omega, h.at1, h.jn⟩
theorem Inv.lastC (h : Inv N a n T d j) (ps : List Int) : last (d.crash ps) (a : Int) = last d (a : Int) := by
  obtain ⟨_, _, h⟩ := h
  have hn := h.n1
  have hl := h.len
  have hs := h.ok.same
  have hc : (d.crash ps).seen.length = d.seen.length := by show (crashL d.sure d.pend ps).length = _; rw [crashL_len]; exact hs
  exact last_cong (by omega) hc (h.foreign ps (by omega)) (h.foreign ps (by omega))
end
end Go.Sl.G
/- Separation logic over the model's code: short forms of append, of slices cut, of fields. -/
namespace Go.Sl
open Go Go.RowKit
section
variable {P : Program} {n : Nat} {s : St} {Γ Δ Θ : List A} {d : Option Tmp} {ty : TypeId} {pos : String} {af : Array Edge} {g : Option (Nat × Bool)} {v u : Value} {x y z : Operand} {T : TypeId}
/-- What an append leaves. -/
def apR (sz n m : Nat) (cs : List Value) (Θ : List A) : Value → List A → Prop := fun v Δ => ∃ a' c', v = .slice a' (n + m) c' ∧ Δ = buf sz a' (n + m) c' cs :: Θ
/-- Behind a slice of one's own: whatever can be read. -/
theorem e_ap {zs : List Value} {by_ : Nat} {a : Option Addr} {n c m : Nat} {cs news : List Value} [i : MKc P T zs by_] (hx : ev s x = some (.slice a n c)) (hy : ev s y = some u) (hs : Rd P zs.length Γ u m news) (hp : Pick1 Γ (buf zs.length a n c cs) Θ := by repeat (first | exact Pick1.here | apply Pick1.there))
    (hz : 0 < zs.length := by decide) (h1 : ∀ q ∈ news, q.oneCell' = true := by first | exact u8_one _ | (simp [Value.oneCell']; done)) (h63 : n + m ≤ 4611686018427387904 := by omega) (hfit : (n + m) * by_ ≤ 140737488355328 := by omega) :
    E1 P ⟨d, .call { callee := .builtin .append, args := #[x, y], argTypes := #[T, T] }, ty, pos, af, g⟩ s Γ (apR zs.length n m (cs ++ news) Θ) := fun F w ρ ee t => by
  obtain ⟨v, Δ, w', h2, ⟨a', c', rfl, -, rfl⟩, h3, h4⟩ := e_append (d := d) (ty := ty) (pos := pos) (af := af) (g := g) i.h hz hx hy hp hs h1 h63 hfit F w ρ ee t
  exact ⟨_, _, w', h2, ⟨a', c', rfl, rfl⟩, h3, h4⟩
/-- One element, that stands in a block of its own. -/
theorem e_ap1 {zs : List Value} {by_ : Nat} {a : Option Addr} {n c bE : Nat} {p : Bool} {cs vs : List Value} [i : MKc P T zs by_] (hx : ev s x = some (.slice a n c)) (hy : ev s y = some (.slice (some ⟨bE, 0, none⟩) 1 1)) (hm : cells p bE 0 vs ∈ Γ := by repeat (first | exact List.Mem.head _ | apply List.Mem.tail))
    (hv : vs.length = 1 * zs.length := by rfl) (hp : Pick1 Γ (buf zs.length a n c cs) Θ := by repeat (first | exact Pick1.here | apply Pick1.there)) (hz : 0 < zs.length := by decide) (h1 : ∀ q ∈ vs, q.oneCell' = true := by (simp [Value.oneCell']; done)) (h63 : n + 1 ≤ 4611686018427387904 := by omega) (hfit : (n + 1) * by_ ≤ 140737488355328 := by omega) :
    E1 P ⟨d, .call { callee := .builtin .append, args := #[x, y], argTypes := #[T, T] }, ty, pos, af, g⟩ s Γ (apR zs.length n 1 (cs ++ vs) Θ) :=
  e_ap hx hy (Rd.part (i := 0) (o := 0) hm rfl hv (by rw [List.drop_zero, List.take_length])) hp hz h1 h63 hfit
/-- Elements that can be read. -/
theorem e_apS {zs : List Value} {sz : Nat} {by_ : Nat} {a a2 : Option Addr} {n c m c2 : Nat} {p : Bool} {cs news : List Value} [i : MKc P T zs by_] (hs : Sok sz a2 m c2 news) (hx : ev s x = some (.slice a n c)) (hy : ev s y = some (.slice a2 m c2)) (hm : sl p a2 news ∈ Γ := by repeat (first | exact List.Mem.head _ | apply List.Mem.tail))
    (hp : Pick1 Γ (buf zs.length a n c cs) Θ := by repeat (first | exact Pick1.here | apply Pick1.there)) (hsz : sz = zs.length := by rfl) (hz : 0 < zs.length := by decide) (h1 : ∀ q ∈ news, q.oneCell' = true := by first | exact u8_one _ | (simp [Value.oneCell']; done)) (h63 : n + m ≤ 4611686018427387904 := by omega) (hfit : (n + m) * by_ ≤ 140737488355328 := by omega) :
    E1 P ⟨d, .call { callee := .builtin .append, args := #[x, y], argTypes := #[T, T] }, ty, pos, af, g⟩ s Γ (apR zs.length n m (cs ++ news) Θ) := by
  subst hsz
  exact e_ap hx hy (Rd.mem hs (hs.none0 hz) hm) hp hz h1 h63 hfit
/-- Elements of another slice of one's own, that stays. -/
theorem e_apB {zs : List Value} {sz : Nat} {by_ : Nat} {a a2 : Option Addr} {n c m c2 : Nat} {cs news : List Value} [i : MKc P T zs by_] (hs : Sok sz a2 m c2 news) (hx : ev s x = some (.slice a n c)) (hy : ev s y = some (.slice a2 m c2)) (hm : buf zs.length a2 m c2 news ∈ Γ := by repeat (first | exact List.Mem.head _ | apply List.Mem.tail))
    (hp : Pick1 Γ (buf zs.length a n c cs) Θ := by repeat (first | exact Pick1.here | apply Pick1.there)) (hsz : sz = zs.length := by rfl) (hz : 0 < zs.length := by decide) (h1 : ∀ q ∈ news, q.oneCell' = true := by first | exact u8_one _ | (simp [Value.oneCell']; done)) (h63 : n + m ≤ 4611686018427387904 := by omega) (hfit : (n + m) * by_ ≤ 140737488355328 := by omega) :
    E1 P ⟨d, .call { callee := .builtin .append, args := #[x, y], argTypes := #[T, T] }, ty, pos, af, g⟩ s Γ (apR zs.length n m (cs ++ news) Θ) := by
  subst hsz
  exact e_ap hx hy (Rd.ofBuf hz hs hm) hp hz h1 h63 hfit
/-- Behind nothing. -/
theorem e_ap0 {zs : List Value} {by_ : Nat} {a : Option Addr} {m : Nat} {news : List Value} [i : MKc P T zs by_] (hs : Rd P zs.length Γ u m news) (hx : ev s x = some (.slice a 0 0)) (hy : ev s y = some u)
    (hz : 0 < zs.length := by decide) (h63 : m ≤ 4611686018427387904 := by omega) (hfit : m * by_ ≤ 140737488355328 := by omega) :
    E1 P ⟨d, .call { callee := .builtin .append, args := #[x, y], argTypes := #[T, T] }, ty, pos, af, g⟩ s Γ (fun v Δ => ∃ a' c', v = .slice a' m c' ∧ Δ = buf zs.length a' m c' news :: Γ) := fun F w ρ ee t => by
  obtain ⟨v, Δ, w', h2, ⟨a', c', rfl, -, rfl⟩, h3, h4⟩ := e_appendNew (d := d) (ty := ty) (pos := pos) (af := af) (g := g) i.h hz hx hy Rd.zero hs rfl (.inr rfl) (by omega) (by rw [Nat.zero_add]; exact hfit) F w ρ ee t
  simp only [Nat.zero_add, List.nil_append] at h2 h3
  exact ⟨_, _, w', h2, ⟨a', c', rfl, rfl⟩, h3, h4⟩
theorem e_ap0S {zs : List Value} {sz : Nat} {by_ : Nat} {a a2 : Option Addr} {m c2 : Nat} {p : Bool} {news : List Value} [i : MKc P T zs by_] (hs : Sok sz a2 m c2 news) (hx : ev s x = some (.slice a 0 0)) (hy : ev s y = some (.slice a2 m c2)) (hm : sl p a2 news ∈ Γ := by repeat (first | exact List.Mem.head _ | apply List.Mem.tail))
    (hsz : sz = zs.length := by rfl) (hz : 0 < zs.length := by decide) (h63 : m ≤ 4611686018427387904 := by omega) (hfit : m * by_ ≤ 140737488355328 := by omega) :
    E1 P ⟨d, .call { callee := .builtin .append, args := #[x, y], argTypes := #[T, T] }, ty, pos, af, g⟩ s Γ (fun v Δ => ∃ a' c', v = .slice a' m c' ∧ Δ = buf zs.length a' m c' news :: Γ) := by
  subst hsz
  exact e_ap0 (Rd.mem hs (hs.none0 hz) hm) hx hy hz h63 hfit
theorem e_ap0B {zs : List Value} {sz : Nat} {by_ : Nat} {a a2 : Option Addr} {m c2 : Nat} {news : List Value} [i : MKc P T zs by_] (hs : Sok sz a2 m c2 news) (hx : ev s x = some (.slice a 0 0)) (hy : ev s y = some (.slice a2 m c2)) (hm : buf zs.length a2 m c2 news ∈ Γ := by repeat (first | exact List.Mem.head _ | apply List.Mem.tail))
    (hsz : sz = zs.length := by rfl) (hz : 0 < zs.length := by decide) (h63 : m ≤ 4611686018427387904 := by omega) (hfit : m * by_ ≤ 140737488355328 := by omega) :
    E1 P ⟨d, .call { callee := .builtin .append, args := #[x, y], argTypes := #[T, T] }, ty, pos, af, g⟩ s Γ (fun v Δ => ∃ a' c', v = .slice a' m c' ∧ Δ = buf zs.length a' m c' news :: Γ) := by
  subst hsz
  exact e_ap0 (Rd.ofBuf hz hs hm) hx hy hz h63 hfit
theorem e_ap01 {zs : List Value} {by_ : Nat} {a : Option Addr} {bE : Nat} {p : Bool} {vs : List Value} [i : MKc P T zs by_] (hx : ev s x = some (.slice a 0 0)) (hy : ev s y = some (.slice (some ⟨bE, 0, none⟩) 1 1)) (hm : cells p bE 0 vs ∈ Γ := by repeat (first | exact List.Mem.head _ | apply List.Mem.tail))
    (hv : vs.length = 1 * zs.length := by rfl) (hz : 0 < zs.length := by decide) (hfit : 1 * by_ ≤ 140737488355328 := by omega) :
    E1 P ⟨d, .call { callee := .builtin .append, args := #[x, y], argTypes := #[T, T] }, ty, pos, af, g⟩ s Γ (fun v Δ => ∃ a' c', v = .slice a' 1 c' ∧ Δ = buf zs.length a' 1 c' vs :: Γ) :=
  e_ap0 (Rd.part (i := 0) (o := 0) hm rfl hv (by rw [List.drop_zero, List.take_length])) hx hy hz (by omega) hfit
/-- Zeros behind a slice of one's own. -/
theorem e_apZ {zs : List Value} {by_ : Nat} {a : Option Addr} {n c m : Nat} {cs : List Value} {TI : TypeId} {q : IntKind} [mk : MKc P T zs by_] [j : UNc P TI (.int q)] (hx : ev s x = some (.slice a n c)) (hy : ev s y = some (.int .i64 (m : Int))) (hp : Pick1 Γ (buf zs.length a n c cs) Θ := by repeat (first | exact Pick1.here | apply Pick1.there))
    (hz : 0 < zs.length := by decide) (h1 : ∀ q ∈ zs, q.oneCell' = true := by (simp [Value.oneCell']; done)) (h63 : n + m ≤ 4611686018427387904 := by omega) (hfit : (n + m) * by_ ≤ 140737488355328 := by omega) :
    E1 P ⟨d, .call { callee := .builtin .append, args := #[x, y], argTypes := #[T, TI] }, ty, pos, af, g⟩ s Γ (apR zs.length n m (cs ++ repZ zs m) Θ) := fun F w ρ ee t => by
  obtain ⟨e, i, zv, h4, h5, h6, h6', h7, h8, rfl⟩ := mkB_of mk.h
  have hI := j.h
  have t0 := Imp.perm hp.perm _ _ t
  obtain ⟨hok, sp, ⟨hsp, hpl⟩, t1⟩ := Sat.buf.1 t0
  have hl : (repZ zs m).length = m * zs.length := repZ_length _ _
  have h1'' : ∀ k, ∀ q ∈ repZ zs k, q.oneCell' = true := by
    intro k q hq
    induction k with
    | zero => simp [repZ] at hq
    | succ k ih =>
      simp only [repZ, List.mem_append] at hq
      rcases hq with hq | hq
      · exact h1 q hq
      · exact ih hq
  have h1' := h1'' m
  have hsz : i.size ≠ 0 := by rw [h7]; omega
  have hzc : (Builtin.zeroCells zv.cells m).toList = repZ zs m := by
    rw [← h6']; unfold Builtin.zeroCells; exact range_repZ _ _ (by omega)
  have hzc' : Builtin.zeroCells zv.cells m = (repZ zs m).toArray := by rw [← hzc]
  have hrun : ∀ r, (Builtin.append_ #[T, TI] ty #[.slice a n c, .int .i64 (m : Int)]).run P w = r → (execOp ρ ⟨d, .call { callee := .builtin .append, args := #[x, y], argTypes := #[T, TI] }, ty, pos, af, g⟩).run P w = r.andThen fun v w' => .ok (.value v) w' := by
    rintro r rfl
    simp [execOp, resolve, invoke, builtin, ee _ _ hx, ee _ _ hy]
  have wm : IntKind.i64.wrap (m : Int) = m := wrap_i64 (by omega) (by omega)
  have hmb : m * i.bytes ≤ 140737488355328 := Nat.le_trans (Nat.mul_le_mul_right _ (by omega)) hfit
  have hb : ¬ (281474976710656 < (m : Int) * (i.bytes : Int)) := by
    have : (m : Int) * (i.bytes : Int) = ((m * i.bytes : Nat) : Int) := by simp
    rw [this]; omega
  have hn0 : ¬ ((m : Int) < 0) := by omega
  have hms : ¬ m = 0 → ¬ (m * i.size = 0) := fun h0 h => (Nat.mul_eq_zero.1 h).elim h0 hsz
  by_cases hg : n + m ≤ c
  · by_cases hP : Pl a
    · have hlen : n * zs.length + 0 + (repZ zs m).length ≤ (cs ++ sp).length := by
        rw [List.length_append, hok.len, hsp, hl, ← Nat.add_mul, Nat.add_zero, ← Nat.add_mul]
        exact Nat.mul_le_mul_right _ (by omega)
      obtain ⟨w', hr, t', ad⟩ := run_storeCells (P := P) (repZ zs m) (n * zs.length) 0 h1' hlen t1
      refine ⟨_, _, w', ?_, ⟨a, c, rfl, rfl⟩, Sat.buf.2 ⟨⟨?_, hg, .inr hP⟩, sp.drop (m * zs.length), ⟨?_, .inl hP⟩, ?_⟩, ad⟩
      · rw [hrun _ rfl]
        unfold Pl at hP
        rw [hP]
        rw [← h7] at hr
        by_cases hm0 : m = 0
        · subst hm0
          simp only [repZ, storeCells, Sem.run_pure, Result.ok.injEq, true_and] at hr
          simp [Builtin.append_, run_underlying h4, run_underlying hI, sizeOf, typeInfo, h5, asInt, asIntOf, hb, storeCells, hg, add_lit]
          simp at wm
          simp [wm, hr]
          intro hlt; exact absurd hlt (by omega)
        · have hms := hms hm0
          simp [Builtin.append_, run_underlying h4, run_underlying hI, sizeOf, typeInfo, zeroValue, h5, h6, asInt, asIntOf, wm, hb, hg, add_lit, hm0, hms, hn0, hzc', hr]
          try rw [if_neg (by omega), if_neg (by omega)]
      · rw [List.length_append, hok.len, hl, Nat.add_mul]
      · rw [List.length_drop, hsp, ← Nat.sub_mul]; congr 1; omega
      · have e1 : List.take (n * zs.length + 0) (cs ++ sp) ++ repZ zs m ++ List.drop (n * zs.length + 0 + (repZ zs m).length) (cs ++ sp) = cs ++ repZ zs m ++ List.drop (m * zs.length) sp := by
          rw [Nat.add_zero, ← hok.len, List.take_left, ← List.drop_drop, List.drop_left, hl]
        rw [e1] at t'
        exact t'
    · have hc0 : c = 0 := hpl.resolve_left hP
      have hn0 : n = 0 := by omega
      have hm0 : m = 0 := by omega
      subst hc0 hn0 hm0
      refine ⟨.slice a 0 0, _, w, ?_, ⟨a, 0, rfl, rfl⟩, ?_, .refl w⟩
      · rw [hrun _ rfl]
        simp at wm
        cases a with
        | none => simp [Builtin.append_, run_underlying h4, run_underlying hI, sizeOf, typeInfo, h5, asInt, asIntOf, wm]
        | some ad => simp [Builtin.append_, run_underlying h4, run_underlying hI, sizeOf, typeInfo, h5, asInt, asIntOf, wm, storeCells]
      · simpa [repZ] using t0
  · have hold : (Builtin.firstCells i.size n (.slice a n c)).run P w.drew = .ok cs.toArray w.drew := by
      rw [h7]
      have t2 : Sat (sl true a cs :: Θ) F w.drew := by
        have := (Imp.split true (blk a) (off a) cs sp Θ F w t1).drew
        exact Imp.drop _ _ _ _ (Imp.perm (.swap _ _ _) _ _ this)
      refine run_first hok t2 fun h => ?_
      subst h
      rcases hpl with h | h
      · simp [Pl] at h
      · have := hok.cap; omega
    have hm0 : ¬ (m = 0) := by have := hok.cap; omega
    have h63' : ¬ (9223372036854775807 < ((n : Int) + (m : Int))) := by omega
    have hms := hms hm0
    have h48 := growslice_fits (need := n + m) (old := c) (bytes := i.bytes) (by omega) hfit
    have h48' : ¬ (281474976710656 < Builtin.nextslicecap (n + m) c * i.bytes) := by omega
    have hr : (Builtin.append_ #[T, TI] ty #[.slice a n c, .int .i64 (m : Int)]).run P w = .ok (.slice (some ⟨w.heap.size, 0, none⟩) (n + m) (grownCap w (n + m) c e))
        (w.drew.alloc (.cells (cs.toArray ++ (repZ zs m).toArray ++ Builtin.zeroCells zv.cells (grownCap w (n + m) c e - (n + m))) e)) := by
      simp [Builtin.append_, run_underlying h4, run_underlying hI, sizeOf, typeInfo, zeroValue, h5, h6, asInt, asIntOf, wm, hb, hg, hm0, hms, hn0, h63', h48', Question.forced, newRow, grownCap, hold, hzc', Array.append_assoc]
      try simp [← Array.append_assoc]
    have ht := Imp.drop _ _ _ _ t1
    obtain ⟨⟨a', c', q1, -, q1'⟩, q2, q3⟩ := appR_grow (zs := zs) (n := n) (c := c) (m := m) (cs := cs) (news := repZ zs m) (e := e) (zv := zv) h8 hok.len hl ht
    exact ⟨_, _, _, by rw [hrun _ hr]; rfl, ⟨_, _, rfl, rfl⟩, q2, q3⟩
/- Numbers without sign, where nothing is cut. -/
theorem q_quoNN {T' : TypeId} {k : IntKind} {a b : Nat} (hs : k.signed = false) (hx : ev s x = some (.int k (a : Int))) (hy : ev s y = some (.int k (b : Int))) (ha : a < 2 ^ k.bits) (hb : 0 < b) : Q1 P ⟨d, .binOp .quo T x y T', ty, pos, af, g⟩ s Γ (.int k ((a / b : Nat) : Int)) := by
  have h' := q_quo (P := P) (Γ := Γ) (d := d) (ty := ty) (pos := pos) (af := af) (g := g) (T := T) (T' := T') hx hy (by omega)
  rw [Int.tdiv_eq_ediv_of_nonneg (by omega), ← Int.natCast_ediv, wrap_nat hs (Nat.lt_of_le_of_lt (Nat.div_le_self _ _) ha)] at h'
  exact h'
theorem q_subNN {T' : TypeId} {k : IntKind} {a b : Nat} (hs : k.signed = false) (hx : ev s x = some (.int k (a : Int))) (hy : ev s y = some (.int k (b : Int))) (ha : a < 2 ^ k.bits) (hb : b ≤ a) : Q1 P ⟨d, .binOp .sub T x y T', ty, pos, af, g⟩ s Γ (.int k ((a - b : Nat) : Int)) := by
  have h' := q_int (P := P) (Γ := Γ) (d := d) (ty := ty) (pos := pos) (af := af) (g := g) (T := T) (T' := T') (op := .sub) hx hy rfl
  rw [show (a : Int) - b = ((a - b : Nat) : Int) by omega, wrap_nat hs (by omega)] at h'
  exact h'
theorem q_addNN {T' : TypeId} {k : IntKind} {a b : Nat} (hs : k.signed = false) (hx : ev s x = some (.int k (a : Int))) (hy : ev s y = some (.int k (b : Int))) (h : a + b < 2 ^ k.bits) : Q1 P ⟨d, .binOp .add T x y T', ty, pos, af, g⟩ s Γ (.int k ((a + b : Nat) : Int)) := by
  have h' := q_int (P := P) (Γ := Γ) (d := d) (ty := ty) (pos := pos) (af := af) (g := g) (T := T) (T' := T') (op := .add) hx hy rfl
  rw [show (a : Int) + b = ((a + b : Nat) : Int) by omega, wrap_nat hs h] at h'
  exact h'
theorem q_mulNN {T' : TypeId} {k : IntKind} {a b : Nat} (hs : k.signed = false) (hx : ev s x = some (.int k (a : Int))) (hy : ev s y = some (.int k (b : Int))) (h : a * b < 2 ^ k.bits) : Q1 P ⟨d, .binOp .mul T x y T', ty, pos, af, g⟩ s Γ (.int k ((a * b : Nat) : Int)) := by
  have h' := q_int (P := P) (Γ := Γ) (d := d) (ty := ty) (pos := pos) (af := af) (g := g) (T := T) (T' := T') (op := .mul) hx hy rfl
  rw [← Int.natCast_mul, wrap_nat hs h] at h'
  exact h'
end
end Go.Sl
/- The references of chapter 06 in memory: disks, journals. -/
namespace Go.Sl
open Go
structure RW where
  i : Nat
  x : BS
abbrev encRW (w : RW) : List Value := [.int .i64 (w.i : Int), .slice w.x.a w.x.n w.x.c]
theorem encRW_len (w : RW) : (encRW w).length = 2 := rfl
def flatB (s : List Sec) : List By := s.flatMap (·.1)
theorem flatB_len (s : List Sec) : (flatB s).length = 64 * s.length := by
  induction s with
  | nil => rfl
  | cons x s ih => simp only [flatB, List.flatMap_cons, List.length_append, List.length_cons, x.2] at ih ⊢; omega
theorem flatB_cut : ∀ (s : List Sec) (i : Nat), i < s.length → ((flatB s).drop (64 * i)).take 64 = (ring s i).1
  | [], i, h => by simp at h
  | x :: s, 0, _ => by
    show ((x.1 ++ flatB s).drop 0).take 64 = x.1
    have := x.2
    rw [List.drop_zero, List.take_append_of_le_length (by omega), List.take_of_length_le (by omega)]
  | x :: s, i + 1, h => by
    show ((x.1 ++ flatB s).drop (64 * (i + 1))).take 64 = (ring s i).1
    have := x.2
    rw [List.drop_append, List.drop_eq_nil_of_le (by omega), List.nil_append, this, show 64 * (i + 1) - 64 = 64 * i by omega]
    exact flatB_cut s i (by simpa using h)
theorem flatB_get {s : List Sec} {i k : Nat} (h : i < s.length) (hk : k < 64) : (flatB s)[64 * i + k]? = (ring s i).1[k]? := by
  rw [← flatB_cut s i h, List.getElem?_take, if_pos hk, List.getElem?_drop]
theorem flatB_set : ∀ (s : List Sec) (i k : Nat) (b : By) (y : Sec), i < s.length → k < 64 → y.1 = (ring s i).1.set k b → (flatB s).set (64 * i + k) b = flatB (s.set i y)
  | [], i, _, _, _, h, _, _ => by simp at h
  | x :: s, 0, k, b, y, _, hk, hy => by
    have hx := x.2
    show (x.1 ++ flatB s).set (64 * 0 + k) b = y.1 ++ flatB s
    rw [List.set_append, if_pos (by omega), hy]
    simp [ring]
  | x :: s, i + 1, k, b, y, h, hk, hy => by
    have hx := x.2
    show (x.1 ++ flatB s).set (64 * (i + 1) + k) b = x.1 ++ flatB (s.set i y)
    rw [List.set_append, if_neg (by omega), hx, show 64 * (i + 1) + k - 64 = 64 * i + k by omega]
    rw [flatB_set s i k b y (by simpa using h) hk hy]
theorem ring_get {s : List Sec} {i : Nat} (h : i < s.length) : s[i]? = some (ring s i) := by unfold ring; simp [h]
theorem sok_flat {a : Option Addr} {c : Nat} {us s : List Sec} (h : Sok 1 a (64 * s.length) c ((flatB s).map u8)) (hl : us.length = s.length) : Sok 1 a (64 * us.length) c ((flatB us).map u8) := by
  refine ⟨by rw [List.length_map, flatB_len, Nat.mul_one], by rw [hl]; exact h.cap, ?_⟩
  rcases h.pl with h | h
  · left
    have h3 : (List.map u8 (flatB s)).length = 0 := by rw [h]; rfl
    exact List.eq_nil_of_length_eq_zero (by rw [List.length_map, flatB_len] at h3 ⊢; omega)
  · exact .inr h
theorem torn_step {k : Nat} {w o : Sec} {b : By} (hk : k < 64) (hb : w.1[k]? = some b) : (torn (k + 1) w o).1 = (torn k w o).1.set k b := by
  have h1 := w.2; have h2 := o.2
  show w.1.take (k + 1) ++ o.1.drop (k + 1) = (w.1.take k ++ o.1.drop k).set k b
  have hl : (w.1.take k).length = k := by rw [List.length_take]; omega
  rw [List.set_append, if_neg (by omega), hl, Nat.sub_self, take_succ hb, List.append_assoc]
  congr 1
  rw [List.drop_eq_getElem_cons (show k < o.1.length by omega)]
  rfl
theorem torn_zero0 (w o : Sec) : torn 0 w o = o := by
  apply Subtype.ext; show w.1.take 0 ++ o.1.drop 0 = o.1; simp
theorem flat_zero (n : Nat) : flatB (List.replicate n Sec.zero) = List.replicate (64 * n) 0 := by
  induction n with
  | zero => rfl
  | succ n ih =>
    rw [List.replicate_succ]
    show Sec.zero.1 ++ flatB (List.replicate n Sec.zero) = _
    rw [ih, show 64 * (n + 1) = 64 + 64 * n by omega, ← List.replicate_append_replicate]; rfl
/-- What was written last. -/
theorem flush_last : ∀ (ws : List (Nat × Sec)) (s : List Sec) (k : Nat) (w : Nat × Sec), (∀ x ∈ ws, x.1 < s.length) → ws[k]? = some w → (∀ k' w', k < k' → ws[k']? = some w' → w'.1 ≠ w.1) → ring (flush s ws) w.1 = w.2
  | [], _, _, _, _, h, _ => by simp at h
  | x :: ws, s, 0, w, hl, h, hn => by
    simp at h; subst h
    simp only [flush]
    have hl2 : ∀ y ∈ ws, y.1 < (s.set x.1 x.2).length := fun y hy => by rw [List.length_set]; exact hl y (List.mem_cons_of_mem _ hy)
    rw [flush_other ws _ _ (fun hm => by
      obtain ⟨y, hy, e⟩ := List.mem_map.1 hm
      obtain ⟨k', hk'⟩ := List.getElem?_of_mem hy
      exact hn (k' + 1) y (by omega) (by simpa using hk') e) hl2, ring_set (hl x (List.mem_cons_self ..)), if_pos rfl]
  | x :: ws, s, k + 1, w, hl, h, hn => by
    simp only [flush]
    exact flush_last ws _ k w (fun y hy => by rw [List.length_set]; exact hl y (List.mem_cons_of_mem _ hy)) (by simpa using h) fun k' w' hk hw => hn (k' + 1) w' (by omega) (by simpa using hw)
theorem flush_none {ws : List (Nat × Sec)} {s : List Sec} {i : Nat} (hl : ∀ x ∈ ws, x.1 < s.length) (h : ∀ (k : Nat) (w : Nat × Sec), ws[k]? = some w → w.1 ≠ i) : ring (flush s ws) i = ring s i :=
  flush_other ws s i (fun hm => by
    obtain ⟨y, hy, e⟩ := List.mem_map.1 hm
    obtain ⟨k, hk⟩ := List.getElem?_of_mem hy
    exact h k y hk e) hl
structure RL where
  sa : Option Addr
  sc : Nat
  pa : Option Addr
  pc : Nat
  ws : List RW
abbrev rdC (N : Nat) (L : RL) : List Value := [.slice L.sa (64 * N) L.sc, .slice L.pa L.ws.length L.pc, .bool false, .int .i64 0, .bool false]
structure ROk (d : DK) (L : RL) : Prop where
  s : Sok 1 L.sa (64 * d.sure.length) L.sc ((flatB d.sure).map u8)
  p : Sok 2 L.pa L.ws.length L.pc (L.ws.flatMap encRW)
  w : ∀ w ∈ L.ws, w.x.ok ∧ w.x.bs.length = 64
  e : L.ws.map (fun w => (w.i, w.x.bs)) = d.pend.map (fun w => (w.1, w.2.1))
theorem ROk.len {d : DK} {L : RL} (h : ROk d L) : L.ws.length = d.pend.length := by have := congrArg List.length h.e; simpa using this
theorem ROk.get {d : DK} {L : RL} (h : ROk d L) {k : Nat} {w : RW} (hw : L.ws[k]? = some w) : ∃ v, d.pend[k]? = some v ∧ v.1 = w.i ∧ v.2.1 = w.x.bs := by
  have := congrArg (fun l => l[k]?) h.e
  simp only [List.getElem?_map, hw, Option.map_some] at this
  cases hv : d.pend[k]? with
  | none => rw [hv] at this; simp at this
  | some v => rw [hv] at this; simp at this; exact ⟨v, rfl, this.1.symm, this.2.symm⟩
abbrev rdR (d : DK) (L : RL) : List A := [sl false L.sa ((flatB d.sure).map u8), sl false L.pa (L.ws.flatMap encRW), bytes (L.ws.map (·.x))]
abbrev rdiskL (b : Nat) (d : DK) (L : RL) : List A := [pu (ROk d L), cells true b 0 (rdC d.sure.length L), sl false L.sa ((flatB d.sure).map u8), sl false L.pa (L.ws.flatMap encRW), bytes (L.ws.map (·.x))]
def rdisk (b : Nat) (d : DK) : A := ex fun L => grp (rdiskL b d L)
theorem rdisk_close {b : Nat} {d : DK} (L : RL) (h : ROk d L) {Γ : List A} : Imp (cells true b 0 (rdC d.sure.length L) :: sl false L.sa ((flatB d.sure).map u8) :: sl false L.pa (L.ws.flatMap encRW) :: bytes (L.ws.map (·.x)) :: Γ) (rdisk b d :: Γ) :=
  (Imp.pu h).trans (Imp.packg (L := fun L => rdiskL b d L) L)
theorem rdisk_open {P : Program} {f : FuncId} {args : Array Value} {b : Nat} {d : DK} {Γ : List A} {R : Value → List A → Prop} (h : ∀ L, ROk d L → Trip P f args (cells true b 0 (rdC d.sure.length L) :: sl false L.sa ((flatB d.sure).map u8) :: sl false L.pa (L.ws.flatMap encRW) :: bytes (L.ws.map (·.x)) :: Γ) R) : Trip P f args (rdisk b d :: Γ) R :=
  Trip.exg (L := fun L => rdiskL b d L) fun L => Trip.pure (h L)
theorem rdisk_openL {P : Program} {n : Nat} {ops : Array Oper} {l : List Oper} {s : St} {K : St → List A → Prop} {b : Nat} {d : DK} {Γ : List A} (h : ∀ L, ROk d L → WPL P n ops l s (cells true b 0 (rdC d.sure.length L) :: sl false L.sa ((flatB d.sure).map u8) :: sl false L.pa (L.ws.flatMap encRW) :: bytes (L.ws.map (·.x)) :: Γ) K) : WPL P n ops l s (rdisk b d :: Γ) K :=
  WPL.exg (L := fun L => rdiskL b d L) fun L => WPL.pure (h L)
theorem rdisk_cong {b : Nat} {d d' : DK} (h1 : d.sure = d'.sure) (h2 : d.pend = d'.pend) : rdisk b d = rdisk b d' := by
  have h : ∀ L, ROk d L = ROk d' L := fun L => propext ⟨fun h => ⟨by rw [← h1]; exact h.s, h.p, h.w, by rw [← h2]; exact h.e⟩, fun h => ⟨by rw [h1]; exact h.s, h.p, h.w, by rw [h2]; exact h.e⟩⟩
  unfold rdisk
  simp only [rdiskL, h, h1]
/- Journals. -/
structure RJ where
  ep : Nat
  x : BS
abbrev encRJ (r : RJ) : List Value := [.int .u64 (r.ep : Int), .slice r.x.a r.x.n r.x.c]
theorem encRJ_len (r : RJ) : (encRJ r).length = 2 := rfl
theorem encRJ_one (l : List RJ) : ∀ q ∈ l.flatMap encRJ, q.oneCell' = true := by
  intro q hq
  obtain ⟨r, -, hr⟩ := List.mem_flatMap.1 hq
  simp only [encRJ, List.mem_cons, List.not_mem_nil, or_false] at hr
  rcases hr with rfl | rfl <;> rfl
theorem encRW_one (l : List RW) : ∀ q ∈ l.flatMap encRW, q.oneCell' = true := by
  intro q hq
  obtain ⟨r, -, hr⟩ := List.mem_flatMap.1 hq
  simp only [encRW, List.mem_cons, List.not_mem_nil, or_false] at hr
  rcases hr with rfl | rfl <;> rfl
structure RJL where
  rs : List RJ
  a : Option Addr
  c : Nat
abbrev rjC (db : Nat) (j : JN) (L : RJL) : List Value := [.pointer (some ⟨db, 0, none⟩), .int .i64 (j.at_ : Int), .int .i64 (j.n : Int), .int .u64 (j.first : Int), .int .u64 (j.epoch : Int), .int .u64 (j.low : Int), .slice L.a L.rs.length L.c]
structure RJOk (j : JN) (L : RJL) : Prop where
  held : L.rs.map (fun r => (r.ep, r.x.bs)) = j.held
  ok : ∀ r ∈ L.rs, r.x.ok
  s : Sok 2 L.a L.rs.length L.c (L.rs.flatMap encRJ)
theorem RJOk.len {j : JN} {L : RJL} (h : RJOk j L) : L.rs.length = j.held.length := by rw [← h.held, List.length_map]
abbrev rjourL (b db : Nat) (j : JN) (L : RJL) : List A := [pu (RJOk j L), cells true b 0 (rjC db j L), sl false L.a (L.rs.flatMap encRJ), bytes (L.rs.map (·.x))]
def rjour (b db : Nat) (j : JN) : A := ex fun L => grp (rjourL b db j L)
theorem rjour_close {b db : Nat} {j : JN} (L : RJL) (h : RJOk j L) {Γ : List A} : Imp (cells true b 0 (rjC db j L) :: sl false L.a (L.rs.flatMap encRJ) :: bytes (L.rs.map (·.x)) :: Γ) (rjour b db j :: Γ) :=
  (Imp.pu h).trans (Imp.packg (L := fun L => rjourL b db j L) L)
theorem rjour_open {P : Program} {f : FuncId} {args : Array Value} {b db : Nat} {j : JN} {Γ : List A} {R : Value → List A → Prop} (h : ∀ L, RJOk j L → Trip P f args (cells true b 0 (rjC db j L) :: sl false L.a (L.rs.flatMap encRJ) :: bytes (L.rs.map (·.x)) :: Γ) R) : Trip P f args (rjour b db j :: Γ) R :=
  Trip.exg (L := fun L => rjourL b db j L) fun L => Trip.pure (h L)
theorem crashL_step {us : List Sec} {w : Nat × Sec} {ws : List (Nat × Sec)} {ps : List Int} {k : Nat} : crashL us (w :: ws) (ps.drop k) = crashL (us.set w.1 (torn (pickOf (ps.drop k)) w.2 (ring us w.1))) ws (ps.drop (k + 1)) := by
  simp only [crashL, List.tail_drop]; rfl
/- Saves, as a formula. -/
theorem put_eq {d : DK} {a : Nat} {xs : List By} (h : Up d) (ha : a + 1 < d.seen.length) (hs : (last d (a : Int)).seq < 4294967295) (hx : xs.length ≤ 43) :
    put d (a : Int) xs = (d.sync.put (otherI d a) (stampS ((last d (a : Int)).seq + 1) 0 xs), 0) := by
  have hat := last_at d (a : Int)
  have hoth : otherI d a = a ∨ otherI d a = a + 1 := by unfold otherI; split <;> omega
  have hol : otherI d a < d.seen.length := by omega
  have hidx : 2 * (a : Int) + 1 - (last d (a : Int)).at_ = ((otherI d a : Nat) : Int) := by
    unfold otherI
    split
    · rename_i e; rw [e]; simp; omega
    · rename_i e; rcases hat with h | h
      · exact absurd h e
      · rw [h]; omega
  unfold put
  rw [if_neg (by rw [right_in (by omega)]; simp), if_neg (by omega), if_neg (by omega), hidx, write_up h.sync (by rw [sync_len]; exact hol) (by rw [stamp_length hx]; omega)]
  rfl
theorem save_eq {d : DK} {a : Nat} {xs : List By} (h : Up d) (ha : a + 1 < d.seen.length) (hs : (last d (a : Int)).seq < 4294967295) (hx : xs.length ≤ 43) :
    save d (a : Int) xs = ((d.sync.put (otherI d a) (stampS ((last d (a : Int)).seq + 1) 0 xs)).sync, 0) := by
  have hup2 : Up (d.sync.put (otherI d a) (stampS ((last d (a : Int)).seq + 1) 0 xs)) := h.sync
  unfold save
  rw [put_eq h ha hs hx]
  simp only [if_true]
  rw [if_neg]
  rw [hup2.sync.2]; simp
/- Slots. -/
def qS (c : Sec) : Nat := if pE c.1 = 0 then pS c.1 else 0
def qB (c : Sec) : List By := if pE c.1 = 0 then pB c.1 else []
theorem parse_none {s : List By} (h : parse s = none) : pS s = 0 ∧ pE s = 0 ∧ pB s = [] := by unfold pS pE pB; rw [h]; exact ⟨rfl, rfl, rfl⟩
theorem parse_some {s : List By} {a b : Nat} {c : List By} (h : parse s = some (a, b, c)) : pS s = a ∧ pE s = b ∧ pB s = c := by unfold pS pE pB; rw [h]; exact ⟨rfl, rfl, rfl⟩
theorem pOk_pos {c : Sec} : pOk c.1 = true ↔ 0 < pS c.1 := by
  unfold pOk pS
  cases h : parse c.1 with
  | none => simp
  | some t => obtain ⟨a, b, d⟩ := t; simpa using (parse_lt h).1
theorem pB_len (s : List By) : (pB s).length ≤ 43 := by
  unfold pB
  cases h : parse s with
  | none => simp
  | some t => obtain ⟨a, b, d⟩ := t; simpa using (parse_lt h).2.2.2
theorem pB_none {c : Sec} (h : pS c.1 = 0) : pB c.1 = [] := by
  unfold pS at h
  unfold pB
  cases hp : parse c.1 with
  | none => rfl
  | some t => obtain ⟨a, b, d⟩ := t; rw [hp] at h; have := (parse_lt hp).1; simp at h; omega
theorem last_q {d : DK} {a : Nat} (h : a + 1 < d.seen.length) : (last d (a : Int)).seq = (if qS (ring d.seen a) < qS (ring d.seen (a + 1)) then qS (ring d.seen (a + 1)) else qS (ring d.seen a)) ∧
    (last d (a : Int)).b = (if qS (ring d.seen a) < qS (ring d.seen (a + 1)) then qB (ring d.seen (a + 1)) else qB (ring d.seen a)) ∧ (0 < (last d (a : Int)).seq → (last d (a : Int)).at_ = if qS (ring d.seen a) < qS (ring d.seen (a + 1)) then ((a + 1 : Nat) : Int) else (a : Int)) := by
  rw [last_ring h, lastStep_ring (by omega), lastStep_ring (by omega)]
  obtain ⟨c1, hc1⟩ : ∃ c, ring d.seen a = c := ⟨_, rfl⟩
  obtain ⟨c2, hc2⟩ : ∃ c, ring d.seen (a + 1) = c := ⟨_, rfl⟩
  rw [hc1, hc2]
  simp only [pOk_pos]
  unfold qS qB
  have n1 := pB_none (c := c1)
  have n2 := pB_none (c := c2)
  by_cases e1 : pE c1.1 = 0 <;> by_cases e2 : pE c2.1 = 0 <;> simp only [e1, e2, if_true, if_false, true_and, and_true, false_and, and_false, Nat.not_lt_zero]
  · by_cases h1 : 0 < pS c1.1
    · rw [if_pos (c := 0 < pS c1.1 ∧ 0 < pS c1.1) ⟨h1, h1⟩]
      by_cases h2 : pS c1.1 < pS c2.1
      · rw [if_pos (c := 0 < pS c2.1 ∧ _) ⟨by omega, h2⟩, if_pos h2, if_pos h2, if_pos h2]; exact ⟨rfl, rfl, fun _ => rfl⟩
      · rw [if_neg (c := 0 < pS c2.1 ∧ _) (fun h => h2 h.2), if_neg h2, if_neg h2, if_neg h2]; exact ⟨rfl, rfl, fun _ => rfl⟩
    · rw [if_neg (c := 0 < pS c1.1 ∧ 0 < pS c1.1) (fun h => h1 h.1)]
      have h0 : pS c1.1 = 0 := by omega
      rw [h0]
      by_cases h2 : 0 < pS c2.1
      · rw [if_pos (c := 0 < pS c2.1 ∧ _) ⟨h2, h2⟩, if_pos h2, if_pos h2, if_pos h2]; exact ⟨rfl, rfl, fun _ => rfl⟩
      · rw [if_neg (c := 0 < pS c2.1 ∧ _) (fun h => h2 h.2), if_neg h2, if_neg h2, if_neg h2, n1 h0]; exact ⟨rfl, rfl, fun h => absurd h (by simp)⟩
  · by_cases h1 : 0 < pS c1.1
    · rw [if_pos (c := 0 < pS c1.1 ∧ 0 < pS c1.1) ⟨h1, h1⟩]; exact ⟨rfl, rfl, fun _ => rfl⟩
    · rw [if_neg (c := 0 < pS c1.1 ∧ 0 < pS c1.1) (fun h => h1 h.1)]
      have h0 : pS c1.1 = 0 := by omega
      rw [h0, n1 h0]; exact ⟨rfl, rfl, fun h => absurd h (by simp)⟩
  · by_cases h2 : 0 < pS c2.1
    · rw [if_pos (c := 0 < pS c2.1 ∧ _) ⟨h2, h2⟩, if_pos h2, if_pos h2, if_pos h2]; exact ⟨rfl, rfl, fun _ => rfl⟩
    · rw [if_neg (c := 0 < pS c2.1 ∧ _) (fun h => h2 h.2), if_neg h2, if_neg h2, if_neg h2]; exact ⟨rfl, rfl, fun h => absurd h (by simp)⟩
  · exact fun h => h.elim
theorem last_zero {d : DK} {a : Nat} (h : a + 1 < d.seen.length) (h0 : (last d (a : Int)).seq = 0) : (last d (a : Int)).at_ = ((a + 1 : Nat) : Int) := by
  rw [last_ring h, lastStep_ring (by omega)] at h0 ⊢
  split
  · rfl
  · rename_i hn
    rw [if_neg hn] at h0
    rw [lastStep_ring (by omega)] at h0 ⊢
    split
    · rename_i hc; rw [if_pos hc] at h0; simp only at h0; have := hc.2.2; simp only at this; omega
    · rfl
/- Cuts, step by step. -/
theorem cutL_one (d : DK) (j : JN) : cutL d j 1 = ((d.write (({ j with held := j.held.dropLast } : JN).place ({ j with held := j.held.dropLast } : JN).next) []).1, { j with held := j.held.dropLast }) := rfl
theorem cutL_succ : ∀ (k : Nat) (d : DK) (j : JN), cutL d j (k + 1) = cutL (cutL d j k).1 (cutL d j k).2 1
  | 0, _, _ => rfl
  | k + 1, d, j => by
    show cutL (d.write _ []).1 { j with held := j.held.dropLast } (k + 1) = _
    rw [cutL_succ k]; rfl
theorem cutL_pend : ∀ (k : Nat) (d : DK) (j : JN), (cutL d j k).1.pend.length ≤ d.pend.length + k
  | 0, _, _ => Nat.le_refl _
  | k + 1, d, j => by
    have h1 := cutL_pend k (d.write (({ j with held := j.held.dropLast } : JN).place ({ j with held := j.held.dropLast } : JN).next) []).1 { j with held := j.held.dropLast }
    have h2 := write_pend d (({ j with held := j.held.dropLast } : JN).place ({ j with held := j.held.dropLast } : JN).next) []
    simp only [cutL]
    omega
theorem cut_facts {d : DK} {j : JN} {t : Nat} (hj : j.ok d) (hok : d.ok) (hup : Up d) (hvis : d.seen = flush d.sure d.pend) (ht : t ≤ j.held.length) :
    ∃ D, cutL d.sync j t = (D, { j with held := j.held.take (j.held.length - t) }) ∧ Up D ∧ D.ok ∧ D.seen.length = d.seen.length ∧ D.seen = flush D.sure D.pend ∧ D.pend.length ≤ t ∧ last D.sync (j.at_ : Int) = last d (j.at_ : Int) := by
  have hn := hj.n; have ha := hj.at_
  have hse : d.sync.seen = d.seen := by rw [sync_up hup]
  obtain ⟨D, h1, h2, h3, h4, h5, h6, -⟩ := G.cutL_up (N := d.seen.length) (a := j.at_) (n := j.n) t d.sync j hup.sync hok.sync (sync_len d) rfl rfl hn.1 ha ht (by rw [sync_up hup]; exact hvis)
  refine ⟨D, h1, h2, h3, h4, h5, ?_, ?_⟩
  · have := cutL_pend t d.sync j
    rw [h1, sync_up hup] at this
    simpa using this
  · have hD : D.sync.seen = D.seen := by rw [sync_up h2]
    have hm : ∀ i, (j.first + i) % j.n < j.n := fun i => Nat.mod_lt _ (by omega)
    refine last_cong (by omega) (by rw [hD, h4]) ?_ ?_
    · rw [hD, h6 _ (fun i _ _ => by omega), hse]
    · rw [hD, h6 _ (fun i _ _ => by omega), hse]
theorem cut_next {d D : DK} {j : JN} {t : Nat} (h : cutL d j t = (D, { j with held := j.held.take (j.held.length - t) })) (ht : t < j.held.length) : (cutL d j (t + 1)).1 = (D.write (j.place (j.first + (j.held.length - (t + 1)))) []).1 := by
  rw [cutL_succ, h, cutL_one]
  simp only [JN.place, JN.next, List.length_dropLast, List.length_take]
  rw [show min (j.held.length - t) j.held.length - 1 = j.held.length - (t + 1) by omega]
/- Opening. -/
theorem begun_facts {d : DK} {a n : Nat} {j0 : JN} (h : JN.begun d a n = some j0) : ∃ F E L : Nat, j0 = ⟨a, n, F, E, L, []⟩ ∧ 1 ≤ F ∧ F < 4294967296 ∧ E < 4294967296 ∧ L ≤ E ∧
    (((last d (a : Int)).seq = 0 ∧ F = 1 ∧ E = 0 ∧ L = 0) ∨ ((last d (a : Int)).seq ≠ 0 ∧ (last d (a : Int)).b.length = 12 ∧ F = num (last d (a : Int)).b 0 4 ∧ E = num (last d (a : Int)).b 4 4 ∧ L = num (last d (a : Int)).b 8 4)) := by
  unfold JN.begun at h
  split at h
  · rename_i h0
    obtain rfl := Option.some.inj h
    exact ⟨1, 0, 0, rfl, by omega, by omega, by omega, by omega, .inl ⟨h0, rfl, rfl, rfl⟩⟩
  · rename_i h0
    split at h
    · rename_i h1
      obtain rfl := Option.some.inj h
      have n0 := num_lt (last d (a : Int)).b 0 4
      have n4 := num_lt (last d (a : Int)).b 4 4
      exact ⟨_, _, _, rfl, h1.2.1, n0, n4, h1.2.2, .inr ⟨h0, h1.1, rfl, rfl, rfl⟩⟩
    · cases h
theorem open_facts {d : DK} {j1 : JN} {n : Nat} (hok : d.ok) (hup : Up d) (hvis : d.seen = flush d.sure d.pend) (hn : 1 ≤ n) (hjn : j1.n = n) (hat : j1.at_ + 2 + n ≤ d.seen.length) :
    ∃ D, openD d j1 n = D ∧ Up D ∧ D.ok ∧ D.seen.length = d.seen.length ∧ D.seen = flush D.sure D.pend ∧ D.pend.length ≤ d.pend.length + 1 ∧ last D (j1.at_ : Int) = last d (j1.at_ : Int) ∧ (j1.held.length < n → D = d.put (j1.place j1.next) (pad [])) ∧ (¬ j1.held.length < n → D = d) := by
  obtain ⟨o1, o2, o3⟩ := openD_ok hok j1 n
  have hm := Nat.mod_lt j1.next (show 0 < n by omega)
  have hpl : j1.place j1.next = j1.at_ + 2 + j1.next % n := by unfold JN.place; rw [hjn]
  refine ⟨openD d j1 n, rfl, ?_, o1, o2, ?_, o3, ?_, ?_, ?_⟩
  · unfold openD; split
    · rw [write_up hup (by omega) (by simp)]; exact hup
    · exact hup
  · unfold openD; split
    · rw [write_up hup (by omega) (by simp)]
      simp only [DK.put]
      rw [flush_snoc, ← hvis]
    · exact hvis
  · refine last_cong (by omega) o2 ?_ ?_
    all_goals
      unfold openD; split
      · rw [write_up hup (by omega) (by simp)]
        simp only [DK.put]
        rw [ring_set (by omega), if_neg (by omega)]
      · rfl
  · intro h; unfold openD; rw [if_pos h, write_up hup (by omega) (by simp)]
  · intro h; unfold openD; rw [if_neg h]
abbrev rjP (r : RJ) : Nat × List By := (r.ep, r.x.bs)
theorem scan_stop {d : DK} {a n E f low next : Nat} {s : Sec} (hr : d.read ((a + 2 + next % n : Nat) : Int) = some s) (h : 4294967295 < next ∨ pS s.1 ≠ next ∨ pE s.1 < low ∨ E < pE s.1) : scanL d a n E f low next = [] := by
  cases f with
  | zero => rfl
  | succ f =>
    by_cases h1 : 4294967295 < next
    · exact scanL_far h1
    · refine scanL_no hr ?_
      rintro ⟨-, h3, h4, h5⟩
      omega
end Go.Sl
/- Walks: references, numbers and sums. -/
namespace Go.Sl
open Go Go.RowKit Go.Proofs
set_option linter.unusedSimpArgs false
set_option linter.unusedVariables false
attribute [local irreducible] faB szB ldB zB zL slB mkB arB plB intB cells objc star stars buf slv grp whole Sat WPC WPL WPA WPO WPQ Trip Q1 E1 S1 C1

theorem bitx {a b : Nat} (ha : a < 2) (hb : b < 2) : (a ^^^ b = 1) ↔ (a + b) % 2 = 1 := by
  have ha' : a = 0 ∨ a = 1 := by omega
  have hb' : b = 0 ∨ b = 1 := by omega
  rcases ha' with rfl | rfl <;> rcases hb' with rfl | rfl <;> decide

theorem c_Num01 {v k : Nat} (hk : k ≤ 8) (hv : v < 18446744073709551616) : Trip Tryd.prog 72 #[.int .u64 (v : Int), .int .i64 (k : Int)] [] fun r Δ => ∃ a c, r = .slice a k c ∧ Δ = [buf 1 a k c ((le v k).map u8)] := by
  refine Trip.start 24 [.tmp 4] [(0, .int .u64 (v : Int)), (1, .int .i64 (k : Int))] Tryd.func72 rfl Tryd.ntmps72 rfl ⟨rfl, rfl, trivial⟩ rfl ?_
  refine WPC.seqR ?_
  refine stp ?_
  refine WPL.nil ?_
  refine WPC.seqR ?_
  refine stp ?_
  refine WPL.nil ?_
  refine WPC.seq ?_
  refine WPC.seqR ?_
  iterate 2 refine stp ?_
  refine WPL.nil ?_
  refine WPC.cond rfl (fun h0 => ?_) (fun h0 => ?_)
  · try simp only [decide_eq_true_eq, decide_eq_false_iff_not, beq_iff_eq, bne_iff_ne, beq_eq_false_iff_ne, bne_eq_false_iff_eq, Bool.not_eq_true', Bool.not_eq_false', Bool.not_eq_eq_eq_not, Bool.not_true, Bool.not_false, ne_eq, Decidable.not_not, Int.not_lt, Int.not_le, gt_iff_lt, ge_iff_le] at h0
    omega
  · skip
    refine WPC.skip ?_
    refine thenQ_n ?_
    refine WPC.seq ?_
    refine WPC.seqR ?_
    refine stp ?_
    refine WPL.nil ?_
    refine WPC.imp (Imp.bufNil (sz := 1)) ?_
    refine WPC.block ?_
    refine WPC.loopS (fun m e Γ => ∃ (i w : Nat) (a2 : Option Addr) (c2 : Nat), m = k - i ∧ i ≤ k ∧ w = v / 256 ^ i ∧ e = [(0, .int .u64 (w : Int)), (1, .int .i64 (k : Int)), (5, .slice a2 i c2), (6, .int .i64 (i : Int))] ∧ Γ = [buf 1 a2 i c2 ((le v i).map u8)]) (k) ⟨0, v, none, 0, rfl, by omega, by simp, rfl, rfl⟩ sbb Imp.pk ?_
    rintro m e Γ ⟨i, w, a2, c2, rfl, hi, hw, rfl, rfl⟩
    have hwv : w ≤ v := by rw [hw]; exact Nat.div_le_self _ _
    have hb : w % 256 % 256 = (by_ (v / 2 ^ (8 * i))).val := by rw [hw, Nat.mod_mod, pow256]; rfl
    refine WPC.seq ?_
    refine WPC.seqR ?_
    iterate 3 refine stp ?_
    refine WPL.nil ?_
    refine WPC.cond rfl (fun h1 => ?_) (fun h1 => ?_)
    · simp only [decide_eq_true_eq, Int.ofNat_lt] at h1
      refine WPC.skip ?_
      refine thenQ_n ?_
      refine WPC.seq ?_
      refine WPC.block ?_
      refine WPC.seqR ?_
      iterate 2 refine stp ?_
      refine L_s (q_remNN (a := w) (b := 256) rfl rfl (by omega)) rfl ?_
      refine L_s (q_conv8 (a := w % 256) in_uint64 in_uint8 rfl) rfl ?_
      rw [hb]
      refine nwb [_] fun b1 => ?_
      refine WPL.cons rfl (E1.wpo (e_ap1 rfl rfl) rfl ?_)
      rintro _ _ ⟨a3, c3, rfl, rfl⟩
      rw [show (le v i).map u8 ++ [u8 (by_ (v / 2 ^ (8 * i)))] = (le v (i + 1)).map u8 by rw [le_succ, List.map_append]; rfl]
      refine WPL.putS ?_
      refine stp ?_
      refine WPL.nil ?_
      refine WPC.region ?_
      refine stp ?_
      refine L_s (q_quoNN (a := w) (b := 256) rfl rfl rfl (show w < 18446744073709551616 by omega) (by omega)) rfl ?_
      refine stp ?_
      refine WPL.nil ?_
      refine blockQ_n ?_
      refine thenQ_n ?_
      refine WPC.region ?_
      iterate 3 refine stp ?_
      refine WPL.nil ?_
      refine thenQ_n ?_
      exact ⟨rfl, _, _, _, by omega, ⟨i + 1, w / 256, a3, c3, rfl, by omega, by rw [hw, Nat.div_div_eq_div_mul, ← Nat.pow_succ], rfl, rfl⟩, sbb, Imp.pk⟩
    · simp only [decide_eq_false_iff_not, Int.ofNat_lt] at h1
      have hik : i = k := by omega
      subst hik
      refine WPC.exit ?_
      refine thenQ_e ?_
      refine thenQ_e ?_
      refine blockQ_here ?_
      refine thenQ_n ?_
      refine WPC.seqR ?_
      iterate 2 refine stp ?_
      refine WPL.nil ?_
      refine WPC.ret ?_
      exact endR_r rfl (.tmp rfl .nil) Imp.pk ⟨a2, c2, rfl, rfl⟩

theorem c_Of01 {a : Option Addr} {n c : Nat} {p : Bool} {xs : List By} (hs : Sok 1 a n c (xs.map u8)) (hn : n ≤ 8) : Trip Tryd.prog 48 #[.slice a n c] [sl p a (xs.map u8)] fun r Δ => r = .int .u64 (ofLE xs : Int) ∧ Δ = [sl p a (xs.map u8)] := by
  have hl : xs.length = n := by have := hs.len; simpa using this
  refine Trip.start 21 [.tmp 2] [(0, .slice a n c)] Tryd.func48 rfl Tryd.ntmps48 rfl ⟨rfl, trivial⟩ rfl ?_
  refine WPC.seqR ?_
  refine stp ?_
  refine WPL.nil ?_
  refine WPC.seqR ?_
  refine stp ?_
  refine WPL.nil ?_
  refine WPC.seq ?_
  refine WPC.seqR ?_
  iterate 4 refine stp ?_
  refine WPL.nil ?_
  refine WPC.block ?_
  refine WPC.loopS (fun m e Γ => ∃ q w : Nat, m = q ∧ q ≤ n ∧ w = ofLE (xs.drop q) ∧ e = [(0, .slice a n c), (3, .int .u64 (w : Int)), (4, .int .i64 ((q : Int) - 1))] ∧ Γ = [sl p a (xs.map u8)]) (n) ⟨n, 0, rfl, Nat.le_refl _, by rw [List.drop_eq_nil_of_le (by omega)]; rfl, rfl, rfl⟩ sbb Imp.pk ?_
  rintro m e Γ ⟨q, w, hmq, hq, hw, rfl, rfl⟩
  refine WPC.seq ?_
  refine WPC.seqR ?_
  iterate 2 refine stp ?_
  refine WPL.nil ?_
  refine WPC.cond rfl (fun h0 => ?_) (fun h0 => ?_)
  · simp only [decide_eq_true_eq] at h0
    obtain ⟨r, rfl⟩ : ∃ r, q = r + 1 := ⟨q - 1, by omega⟩
    rw [show (((r + 1 : Nat) : Int) - 1) = (r : Int) by omega]
    have hp : Pl a := hs.at (by omega) (by omega)
    obtain ⟨x, hx⟩ : ∃ x, xs[r]? = some x := ⟨xs[r]'(by omega), by simp⟩
    have hx2 := x.2
    have hb : w < 72057594037927936 := by rw [hw]; exact Nat.lt_of_lt_of_le (ofLE_lt _) (pow_bound (by simp; omega))
    refine WPC.skip ?_
    refine thenQ_n ?_
    refine WPC.seq ?_
    refine WPC.block ?_
    refine WPC.region ?_
    refine stp ?_
    refine L_s (q_mulNN (a := w) (b := 256) rfl rfl rfl (show w * 256 < 18446744073709551616 by omega)) rfl ?_
    iterate 2 refine stp ?_
    refine L_s (q_idxN (i := r) sl_sl_uint8 rfl rfl (by omega) hp) rfl ?_
    refine L_s (q_ldMap (f := u8) ld_uint8 rfl mm hx) rfl ?_
    refine stp ?_
    refine L_s (q_addNN (a := w * 256) (b := x.val) rfl rfl rfl (show w * 256 + x.val < 18446744073709551616 by omega)) rfl ?_
    refine stp ?_
    refine WPL.nil ?_
    refine blockQ_n ?_
    refine thenQ_n ?_
    refine WPC.region ?_
    iterate 3 refine stp ?_
    refine WPL.nil ?_
    refine thenQ_n ?_
    exact ⟨rfl, _, _, _, by omega, ⟨r, w * 256 + x.val, rfl, by omega, by rw [hw, drop_step hx]; simp only [ofLE]; omega, rfl, rfl⟩, sbb, Imp.pk⟩
  · simp only [decide_eq_false_iff_not] at h0
    have hq0 : q = 0 := by omega
    subst hq0
    rw [List.drop_zero] at hw
    subst hw
    refine WPC.exit ?_
    refine thenQ_e ?_
    refine thenQ_e ?_
    refine blockQ_here ?_
    refine thenQ_n ?_
    refine WPC.seqR ?_
    iterate 2 refine stp ?_
    refine WPL.nil ?_
    refine WPC.ret ?_
    exact endR_r rfl (.tmp rfl .nil) Imp.pk ⟨rfl, rfl⟩

theorem c_RSum {a : Option Addr} {n c : Nat} {p : Bool} {xs : List By} (hs : Sok 1 a n c (xs.map u8)) (hn : n < 1000000) : Trip Tryd.prog 71 #[.slice a n c] [sl p a (xs.map u8)] fun r Δ => r = .int .u32 (crc xs : Int) ∧ Δ = [sl p a (xs.map u8)] := by
  have hl : xs.length = n := by have := hs.len; simpa using this
  refine Trip.start 36 [.tmp 2] [(0, .slice a n c)] Tryd.func71 rfl Tryd.ntmps71 rfl ⟨rfl, trivial⟩ rfl ?_
  refine WPC.seqR ?_
  refine stp ?_
  refine WPL.nil ?_
  refine WPC.seqR ?_
  refine stp ?_
  refine WPL.nil ?_
  refine WPC.seq ?_
  refine WPC.seqR ?_
  refine stp ?_
  refine WPL.nil ?_
  refine WPC.block ?_
  refine WPC.loopS (fun m e Γ => ∃ k s : Nat, m = n - k ∧ k ≤ n ∧ s = (xs.take k).foldl crcStep 4294967295 ∧ e = [(0, .slice a n c), (3, .int .u32 (s : Int)), (4, .int .i64 (k : Int))] ∧ Γ = [sl p a (xs.map u8)]) (n) ⟨0, 4294967295, rfl, by omega, rfl, rfl, rfl⟩ sbb Imp.pk ?_
  rintro m e Γ ⟨k, s, rfl, hk, hsv, rfl, rfl⟩
  have hs32 : s < 4294967296 := by rw [hsv]; exact fold_lt _ (by omega)
  refine WPC.seq ?_
  refine WPC.seqR ?_
  iterate 4 refine stp ?_
  refine WPL.nil ?_
  refine WPC.cond rfl (fun h0 => ?_) (fun h0 => ?_)
  · simp only [decide_eq_true_eq, Int.ofNat_lt] at h0
    have hp : Pl a := hs.at (by omega) (by omega)
    obtain ⟨x, hx⟩ : ∃ x, xs[k]? = some x := ⟨xs[k]'(by omega), by simp⟩
    have hx2 := x.2
    refine WPC.skip ?_
    refine thenQ_n ?_
    refine WPC.seq ?_
    refine WPC.block ?_
    refine WPC.seqR ?_
    refine stp ?_
    refine WPL.nil ?_
    refine WPC.block ?_
    refine WPC.loopS (fun m e Γ => ∃ i q : Nat, m = 8 - i ∧ i ≤ 8 ∧ q = rbits x.val i s ∧ e = [(0, .slice a n c), (3, .int .u32 (q : Int)), (4, .int .i64 (k : Int)), (5, .int .i64 (i : Int))] ∧ Γ = [sl p a (xs.map u8)]) (8) ⟨0, s, rfl, by omega, rfl, rfl, rfl⟩ sbb Imp.pk ?_
    rintro m e Γ ⟨i, q, rfl, hi, hq, rfl, rfl⟩
    have hq32 : q < 4294967296 := by rw [hq]; exact rbits_lt hs32 i
    refine WPC.seq ?_
    refine WPC.seqR ?_
    iterate 2 refine stp ?_
    refine WPL.nil ?_
    refine WPC.cond rfl (fun h1 => ?_) (fun h1 => ?_)
    · have hi8 : i < 8 := by simp only [decide_eq_true_eq] at h1; omega
      have hxi : x.val / 2 ^ i < 256 := Nat.lt_of_le_of_lt (Nat.div_le_self _ _) hx2
      refine WPC.skip ?_
      refine thenQ_n ?_
      refine WPC.seq ?_
      refine WPC.block ?_
      refine WPC.seqR ?_
      refine stp ?_
      refine L_s (q_andN (a := q) (b := 1) rfl rfl rfl hq32 (by decide)) rfl ?_
      rw [Nat.and_one_is_mod]
      iterate 2 refine stp ?_
      refine L_s (q_idxN (i := k) sl_sl_uint8 rfl rfl (by omega) hp) rfl ?_
      refine L_s (q_ldMap (f := u8) ld_uint8 rfl mm hx) rfl ?_
      refine stp ?_
      refine L_s (q_shrN (a := x.val) (b := i) rfl rfl hi8) rfl ?_
      refine L_s (q_andN (a := x.val / 2 ^ i) (b := 1) rfl rfl rfl hxi (by decide)) rfl ?_
      rw [Nat.and_one_is_mod]
      have hm1 := Nat.mod_lt q (show 0 < 2 by omega)
      have hm2 := Nat.mod_lt (x.val / 2 ^ i) (show 0 < 2 by omega)
      refine L_s (q_conv32 (a := ((x.val / 2 ^ i % 2 : Nat) : Int)) in_uint8 in_uint32 rfl (by omega)) rfl ?_
      refine L_s (q_xorN (a := q % 2) (b := x.val / 2 ^ i % 2) rfl rfl rfl (show _ < 4294967296 by omega) (show _ < 4294967296 by omega)) rfl ?_
      refine stp ?_
      refine WPL.nil ?_
      refine WPC.seqR ?_
      refine stp ?_
      refine L_s (q_quoNN (a := q) (b := 2) rfl rfl rfl hq32 (by omega)) rfl ?_
      refine stp ?_
      refine WPL.nil ?_
      refine WPC.seqR ?_
      iterate 2 refine stp ?_
      refine WPL.nil ?_
      refine WPC.cond rfl (fun h2 => ?_) (fun h2 => ?_)
      · have hb1 : (q % 2 + x.val / 2 ^ i % 2) % 2 = 1 := (bitx hm1 hm2).1 (by simp at h2; omega)
        have hst : rbits x.val (i + 1) s = q / 2 ^^^ 3988292384 := by
          simp only [rbits]; rw [← hq]; unfold rbit; rw [if_pos hb1]; rfl
        refine WPC.region ?_
        refine stp ?_
        refine L_s (q_xorN (a := q / 2) (b := 3988292384) rfl rfl rfl (show _ < 4294967296 by omega) (by decide)) rfl ?_
        refine stp ?_
        refine WPL.nil ?_
        refine blockQ_n ?_
        refine thenQ_n ?_
        refine WPC.region ?_
        iterate 3 refine stp ?_
        refine WPL.nil ?_
        refine thenQ_n ?_
        exact ⟨rfl, _, _, _, by omega, ⟨i + 1, q / 2 ^^^ 3988292384, rfl, by omega, hst.symm, rfl, rfl⟩, sbb, Imp.pk⟩
      · have hb1 : ¬ (q % 2 + x.val / 2 ^ i % 2) % 2 = 1 := fun h => by have := (bitx hm1 hm2).2 h; simp [this] at h2
        have hst : rbits x.val (i + 1) s = q / 2 := by
          simp only [rbits]; rw [← hq]; unfold rbit; rw [if_neg hb1, Nat.xor_zero]
        refine WPC.skip ?_
        refine blockQ_n ?_
        refine thenQ_n ?_
        refine WPC.region ?_
        iterate 3 refine stp ?_
        refine WPL.nil ?_
        refine thenQ_n ?_
        exact ⟨rfl, _, _, _, by omega, ⟨i + 1, q / 2, rfl, by omega, hst.symm, rfl, rfl⟩, sbb, Imp.pk⟩
    · have hi8 : i = 8 := by simp only [decide_eq_false_iff_not] at h1; omega
      rw [hi8, rbits_crc] at hq
      refine WPC.exit ?_
      refine thenQ_e ?_
      refine thenQ_e ?_
      refine blockQ_here ?_
      refine blockQ_n ?_
      refine thenQ_n ?_
      refine WPC.region ?_
      iterate 3 refine stp ?_
      refine WPL.nil ?_
      refine thenQ_n ?_
      exact ⟨rfl, _, _, _, by omega, ⟨k + 1, q, rfl, by omega, by rw [hq, hsv, fold_take_succ hx], rfl, rfl⟩, sbb, Imp.pk⟩
  · simp only [decide_eq_false_iff_not, Int.ofNat_lt] at h0
    have hkn : k = xs.length := by omega
    rw [hkn, List.take_length] at hsv
    refine WPC.exit ?_
    refine thenQ_e ?_
    refine thenQ_e ?_
    refine blockQ_here ?_
    refine thenQ_n ?_
    refine WPC.seqR ?_
    refine stp ?_
    refine L_s (q_subNN (a := 4294967295) (b := s) rfl rfl rfl (by decide) (by omega)) rfl ?_
    refine stp ?_
    refine WPL.nil ?_
    refine WPC.ret ?_
    exact endR_r rfl (.tmp rfl .nil) Imp.pk ⟨by simp only [packV]; rw [sub_xor hs32, hsv]; rfl, rfl⟩

end Go.Sl
/- Walks: references, disks. -/
namespace Go.Sl
open Go Go.RowKit Go.Proofs
set_option linter.unusedSimpArgs false
set_option linter.unusedVariables false
attribute [local irreducible] faB szB ldB zB zL slB mkB arB plB intB cells objc star stars buf slv grp whole Sat WPC WPL WPA WPO WPQ Trip Q1 E1 S1 C1

theorem c_RLen {b N : Nat} {L : RL} (hN : N ≤ 512) : Trip Tryd.prog 46 #[.pointer (some ⟨b, 0, none⟩)] [cells true b 0 (rdC N L)] fun r Δ => r = .int .i64 (N : Int) ∧ Δ = [cells true b 0 (rdC N L)] := by
  refine Trip.start 9 [.tmp 2] [(0, .pointer (some ⟨b, 0, none⟩))] Tryd.func46 rfl Tryd.ntmps46 rfl ⟨rfl, trivial⟩ rfl ?_
  refine WPC.seqR ?_
  refine stp ?_
  refine WPL.nil ?_
  refine WPC.seqR ?_
  iterate 6 refine stp ?_
  rw [show (((64 * N : Nat) : Int) / 64) = (N : Int) by omega]
  refine stp ?_
  refine WPL.nil ?_
  refine WPC.ret ?_
  exact endR_r rfl (.tmp rfl .nil) Imp.pk ⟨rfl, rfl⟩

theorem c_RDone {b N : Nat} {L : RL} : Trip Tryd.prog 55 #[.pointer (some ⟨b, 0, none⟩)] [cells true b 0 (rdC N L)] fun r Δ => r = .bool true ∧ Δ = [cells true b 0 (rdC N L)] := by
  refine Trip.start 32 [.tmp 2] [(0, .pointer (some ⟨b, 0, none⟩))] Tryd.func55 rfl Tryd.ntmps55 rfl ⟨rfl, trivial⟩ rfl ?_
  refine WPC.seqR ?_
  refine stp ?_
  refine WPL.nil ?_
  refine WPC.seq ?_
  refine WPC.seqR ?_
  iterate 4 refine stp ?_
  refine WPL.nil ?_
  refine WPC.cond rfl (fun h0 => ?_) (fun h0 => ?_)
  · try simp only [decide_eq_true_eq, decide_eq_false_iff_not, beq_iff_eq, bne_iff_ne, beq_eq_false_iff_ne, bne_eq_false_iff_eq, Bool.not_eq_true', Bool.not_eq_false', Bool.not_eq_eq_eq_not, Bool.not_true, Bool.not_false, ne_eq, Decidable.not_not, Int.not_lt, Int.not_le, gt_iff_lt, ge_iff_le] at h0
    cases h0
  · skip
    refine WPC.skip ?_
    refine thenQ_n ?_
    refine WPC.seq ?_
    refine WPC.seqR ?_
    iterate 5 refine stp ?_
    refine L_no rfl rfl rfl rfl ?_
    refine L_no rfl rfl rfl rfl ?_
    refine L_no rfl rfl rfl rfl ?_
    refine L_no rfl rfl rfl rfl ?_
    refine L_no rfl rfl rfl rfl ?_
    refine stp ?_
    refine WPL.nil ?_
    refine WPC.cond rfl (fun h1 => ?_) (fun h1 => ?_)
    · try simp only [decide_eq_true_eq, decide_eq_false_iff_not, beq_iff_eq, bne_iff_ne, beq_eq_false_iff_ne, bne_eq_false_iff_eq, Bool.not_eq_true', Bool.not_eq_false', Bool.not_eq_eq_eq_not, Bool.not_true, Bool.not_false, ne_eq, Decidable.not_not, Int.not_lt, Int.not_le, gt_iff_lt, ge_iff_le] at h1
      cases h1
    · skip
      refine WPC.skip ?_
      refine thenQ_n ?_
      refine WPC.seq ?_
      refine WPC.seqR ?_
      iterate 4 refine stp ?_
      refine WPL.nil ?_
      refine WPC.cond rfl (fun h2 => ?_) (fun h2 => ?_)
      · try simp only [decide_eq_true_eq, decide_eq_false_iff_not, beq_iff_eq, bne_iff_ne, beq_eq_false_iff_ne, bne_eq_false_iff_eq, Bool.not_eq_true', Bool.not_eq_false', Bool.not_eq_eq_eq_not, Bool.not_true, Bool.not_false, ne_eq, Decidable.not_not, Int.not_lt, Int.not_le, gt_iff_lt, ge_iff_le] at h2
        cases h2
      · skip
        refine WPC.skip ?_
        refine thenQ_n ?_
        refine WPC.seqR ?_
        refine stp ?_
        refine WPL.nil ?_
        refine WPC.ret ?_
        exact endR_r rfl (.tmp rfl .nil) Imp.pk ⟨rfl, rfl⟩

theorem c_RWrite {b i c : Nat} {d : DK} {a : Option Addr} {p : Bool} {xs : List By} (hok : d.ok) (hpl : d.pend.length < 1000000) (hi : i < d.seen.length) (hs : Sok 1 a xs.length c (xs.map u8)) (hx : xs.length ≤ 64) : Trip Tryd.prog 52 #[.pointer (some ⟨b, 0, none⟩), .int .i64 (i : Int), .slice a xs.length c] [rdisk b d, sl p a (xs.map u8)] fun r Δ => r = .int .i64 0 ∧ Δ = [rdisk b (d.put i (pad xs))] := by
  refine rdisk_open fun L hL => ?_
  have hwl := hL.len
  have hsm := hok.same
  have hdn := hok.n
  refine Trip.start 45 [.tmp 6] [(0, .pointer (some ⟨b, 0, none⟩)), (1, .int .i64 (i : Int)), (2, .slice a xs.length c)] Tryd.func52 rfl Tryd.ntmps52 rfl ⟨rfl, rfl, rfl, trivial⟩ rfl ?_
  refine WPC.seqR ?_
  refine stp ?_
  refine WPL.nil ?_
  refine WPC.seq ?_
  refine WPC.seqR ?_
  iterate 3 refine stp ?_
  apply WPL.joinO (e' := [(0, _), (1, _), (2, _), (6, _)]) 11 16 5 rfl
  · intro g1_2
    try simp only [decide_eq_true_eq, decide_eq_false_iff_not, beq_iff_eq, bne_iff_ne, beq_eq_false_iff_ne, bne_eq_false_iff_eq, Bool.not_eq_true', Bool.not_eq_false', Bool.not_eq_eq_eq_not, Bool.not_true, Bool.not_false, ne_eq, Decidable.not_not, Int.not_lt, Int.not_le, gt_iff_lt, ge_iff_le] at g1_2
    refine L_no rfl rfl rfl rfl ?_
    refine L_no rfl rfl rfl rfl ?_
    refine L_no rfl rfl rfl rfl ?_
    refine L_no rfl rfl rfl rfl ?_
    refine stp ?_
    first | exact WPL.jn rfl rfl sbb | exact WPL.jnI rfl rfl sbb Imp.pk
  · intro g1_2
    try simp only [decide_eq_true_eq, decide_eq_false_iff_not, beq_iff_eq, bne_iff_ne, beq_eq_false_iff_ne, bne_eq_false_iff_eq, Bool.not_eq_true', Bool.not_eq_false', Bool.not_eq_eq_eq_not, Bool.not_true, Bool.not_false, ne_eq, Decidable.not_not, Int.not_lt, Int.not_le, gt_iff_lt, ge_iff_le] at g1_2
    iterate 2 refine stpY rfl rfl ?_
    refine L_eyes rfl rfl rfl (C1.call (c_call Tryd.func46 rfl rfl rfl) (c_RLen (N := d.sure.length) (L := L) (by omega)) pkk rfl ?_)
    rintro _ _ ⟨rfl, rfl⟩
    refine WPL.putS ?_
    refine stpY rfl rfl ?_
    refine stp ?_
    first | exact WPL.jn rfl rfl sbb | exact WPL.jnI rfl rfl sbb Imp.pk
  refine WPL.nil ?_
  refine WPC.cond rfl (fun h0 => ?_) (fun h0 => ?_)
  · try simp only [decide_eq_true_eq, decide_eq_false_iff_not, beq_iff_eq, bne_iff_ne, beq_eq_false_iff_ne, bne_eq_false_iff_eq, Bool.not_eq_true', Bool.not_eq_false', Bool.not_eq_eq_eq_not, Bool.not_true, Bool.not_false, ne_eq, Decidable.not_not, Int.not_lt, Int.not_le, gt_iff_lt, ge_iff_le] at h0
    simp only [Bool.or_eq_true, decide_eq_true_eq] at h0
    omega
  · skip
    refine WPC.skip ?_
    refine thenQ_n ?_
    refine WPC.seq ?_
    refine WPC.seqR ?_
    iterate 3 refine stp ?_
    refine WPL.nil ?_
    refine WPC.cond rfl (fun h1 => ?_) (fun h1 => ?_)
    · try simp only [decide_eq_true_eq, decide_eq_false_iff_not, beq_iff_eq, bne_iff_ne, beq_eq_false_iff_ne, bne_eq_false_iff_eq, Bool.not_eq_true', Bool.not_eq_false', Bool.not_eq_eq_eq_not, Bool.not_true, Bool.not_false, ne_eq, Decidable.not_not, Int.not_lt, Int.not_le, gt_iff_lt, ge_iff_le] at h1
      omega
    · skip
      refine WPC.skip ?_
      refine thenQ_n ?_
      refine WPC.seqR ?_
      refine stp ?_
      refine kall rfl (c_RDone (N := d.sure.length) (L := L)) ?_
      rintro _ _ ⟨rfl, rfl⟩
      refine stp ?_
      refine WPL.nil ?_
      refine WPC.seq ?_
      refine WPC.seqR ?_
      iterate 2 refine stp ?_
      refine WPL.nil ?_
      refine WPC.cond rfl (fun h2 => ?_) (fun h2 => ?_)
      · try simp only [decide_eq_true_eq, decide_eq_false_iff_not, beq_iff_eq, bne_iff_ne, beq_eq_false_iff_ne, bne_eq_false_iff_eq, Bool.not_eq_true', Bool.not_eq_false', Bool.not_eq_eq_eq_not, Bool.not_true, Bool.not_false, ne_eq, Decidable.not_not, Int.not_lt, Int.not_le, gt_iff_lt, ge_iff_le] at h2
        cases h2
      · skip
        refine WPC.skip ?_
        refine thenQ_n ?_
        refine WPC.seqR ?_
        refine nwb [] fun b1 => ?_
        refine stp ?_
        refine WPL.cons rfl (E1.wpo (e_ap0S hs rfl rfl) rfl ?_)
        rintro _ _ ⟨a0, c0, rfl, rfl⟩
        refine WPL.putS ?_
        iterate 2 refine stp ?_
        refine L_s (q_subI (a := 64) (b := (xs.length : Int)) rfl rfl (by omega)) rfl ?_
        rw [show (64 - (xs.length : Int)) = ((64 - xs.length : Nat) : Int) by omega]
        refine WPL.cons rfl (E1.wpo (e_apZ rfl rfl) rfl ?_)
        rintro _ _ ⟨a1, c2, rfl, rfl⟩
        rw [show xs.map u8 ++ repZ [.int .u8 0] (64 - xs.length) = (pad xs).1.map u8 by rw [pad_val xs hx, List.map_append, repZ8], show xs.length + (64 - xs.length) = 64 by omega]
        refine WPL.bufRo fun hF => ?_
        refine WPL.putS ?_
        refine stp ?_
        refine WPL.nil ?_
        refine WPC.seqR ?_
        refine stp ?_
        refine nwb [] fun bZ => ?_
        iterate 4 refine stp ?_
        refine WPL.cons rfl (E1.wpo (e_ap0S (m := L.ws.length) hL.p rfl rfl) rfl ?_)
        rintro _ _ ⟨a3, c3, rfl, rfl⟩
        refine WPL.putS ?_
        iterate 2 refine stp ?_
        refine L_s (q_build (cs := [_, _]) pl_pursuivantref04_Write rfl rfl) rfl ?_
        refine nwb [_, _] fun bE => ?_
        refine WPL.cons rfl (E1.wpo (e_ap1 (cs := L.ws.flatMap encRW) rfl rfl) rfl ?_)
        rintro _ _ ⟨a4, c4, rfl, rfl⟩
        rw [show L.ws.flatMap encRW ++ [.int .i64 (i : Int), .slice a1 64 c2] = (L.ws ++ [(⟨i, (⟨(pad xs).1, a1, 64, c2⟩ : BS)⟩ : RW)]).flatMap encRW by rw [flat_snoc], show L.ws.length + 1 = (L.ws ++ [(⟨i, (⟨(pad xs).1, a1, 64, c2⟩ : BS)⟩ : RW)]).length by simp]
        refine WPL.bufRo fun hP => ?_
        refine WPL.putS ?_
        iterate 2 refine stp ?_
        refine sto ?_
        refine WPL.nil ?_
        refine WPC.prune [(6, _)] sbb ?_
        refine WPC.seqR ?_
        refine stp ?_
        refine WPL.nil ?_
        refine WPC.ret ?_
        have hcl := rdisk_close (b := b) (d := d.put i (pad xs)) (⟨L.sa, L.sc, a4, c4, L.ws ++ [⟨i, (⟨(pad xs).1, a1, 64, c2⟩ : BS)⟩]⟩ : RL) ⟨hL.s, hP, fun w hw => ?_, ?_⟩ (Γ := [])
        · rw [List.map_append] at hcl
          exact endR_r rfl (.tmp rfl .nil) (((Imp.pk (Δ := [BS.at_ (⟨(pad xs).1, a1, 64, c2⟩ : BS), bytes (L.ws.map (·.x)), sl false a4 ((L.ws ++ [(⟨i, (⟨(pad xs).1, a1, 64, c2⟩ : BS)⟩ : RW)]).flatMap encRW), sl false L.sa ((flatB d.sure).map u8), cells true b 0 (rdC d.sure.length ⟨L.sa, L.sc, a4, c4, L.ws ++ [⟨i, (⟨(pad xs).1, a1, 64, c2⟩ : BS)⟩]⟩)])).trans bytes_snoc).trans ((Imp.pk).trans hcl)) ⟨rfl, rfl⟩
        · rcases List.mem_append.1 hw with hw | hw
          · exact hL.w w hw
          · rw [List.mem_singleton.1 hw]; exact ⟨hF, (pad xs).2⟩
        · simp only [List.map_append, hL.e, DK.put]; rfl

end Go.Sl
/- Walks: references, reading, crashes. -/
namespace Go.Sl
open Go Go.RowKit Go.Proofs
set_option linter.unusedSimpArgs false
set_option linter.unusedVariables false
attribute [local irreducible] faB szB ldB zB zL slB mkB arB plB intB cells objc star stars buf slv grp whole Sat WPC WPL WPA WPO WPQ Trip Q1 E1 S1 C1

theorem c_RRead {b i : Nat} {d : DK} (hok : d.ok) (hpl : d.pend.length < 1000000) (hi : i < d.seen.length) (hvis : d.seen = flush d.sure d.pend) : Trip Tryd.prog 49 #[.pointer (some ⟨b, 0, none⟩), .int .i64 (i : Int)] [rdisk b d] fun r Δ => ∃ a c, r = .tuple #[.slice a 64 c, .int .i64 0] ∧ Sok 1 a 64 c ((ring d.seen i).1.map u8) ∧ Δ = [rdisk b d, sl false a ((ring d.seen i).1.map u8)] := by
  refine rdisk_open fun L hL => ?_
  have hwl := hL.len
  have hsm := hok.same
  have hdn := hok.n
  have hpc := hL.p.cap
  have hid : ∀ x ∈ d.pend, x.1 < d.sure.length := fun x hx => by rw [hsm]; exact hok.idx x hx
  refine Trip.start 53 [.tmp 4, .tmp 5] [(0, .pointer (some ⟨b, 0, none⟩)), (1, .int .i64 (i : Int))] Tryd.func49 rfl Tryd.ntmps49 rfl ⟨rfl, rfl, trivial⟩ rfl ?_
  refine WPC.seqR ?_
  iterate 2 refine stp ?_
  refine WPL.nil ?_
  refine WPC.seq ?_
  refine WPC.seqR ?_
  iterate 3 refine stp ?_
  apply WPL.joinO (e' := [(0, _), (1, _), (4, _), (5, _)]) 9 14 5 rfl
  · intro g1_2
    try simp only [decide_eq_true_eq, decide_eq_false_iff_not, beq_iff_eq, bne_iff_ne, beq_eq_false_iff_ne, bne_eq_false_iff_eq, Bool.not_eq_true', Bool.not_eq_false', Bool.not_eq_eq_eq_not, Bool.not_true, Bool.not_false, ne_eq, Decidable.not_not, Int.not_lt, Int.not_le, gt_iff_lt, ge_iff_le] at g1_2
    refine L_no rfl rfl rfl rfl ?_
    refine L_no rfl rfl rfl rfl ?_
    refine L_no rfl rfl rfl rfl ?_
    refine L_no rfl rfl rfl rfl ?_
    refine stp ?_
    first | exact WPL.jn rfl rfl sbb | exact WPL.jnI rfl rfl sbb Imp.pk
  · intro g1_2
    try simp only [decide_eq_true_eq, decide_eq_false_iff_not, beq_iff_eq, bne_iff_ne, beq_eq_false_iff_ne, bne_eq_false_iff_eq, Bool.not_eq_true', Bool.not_eq_false', Bool.not_eq_eq_eq_not, Bool.not_true, Bool.not_false, ne_eq, Decidable.not_not, Int.not_lt, Int.not_le, gt_iff_lt, ge_iff_le] at g1_2
    iterate 2 refine stpY rfl rfl ?_
    refine L_eyes rfl rfl rfl (C1.call (c_call Tryd.func46 rfl rfl rfl) (c_RLen (N := d.sure.length) (L := L) (by omega)) pkk rfl ?_)
    rintro _ _ ⟨rfl, rfl⟩
    refine WPL.putS ?_
    refine stpY rfl rfl ?_
    refine stp ?_
    first | exact WPL.jn rfl rfl sbb | exact WPL.jnI rfl rfl sbb Imp.pk
  refine WPL.nil ?_
  refine WPC.cond rfl (fun h0 => ?_) (fun h0 => ?_)
  · try simp only [decide_eq_true_eq, decide_eq_false_iff_not, beq_iff_eq, bne_iff_ne, beq_eq_false_iff_ne, bne_eq_false_iff_eq, Bool.not_eq_true', Bool.not_eq_false', Bool.not_eq_eq_eq_not, Bool.not_true, Bool.not_false, ne_eq, Decidable.not_not, Int.not_lt, Int.not_le, gt_iff_lt, ge_iff_le] at h0
    simp only [Bool.or_eq_true, decide_eq_true_eq] at h0
    omega
  · skip
    refine WPC.skip ?_
    refine thenQ_n ?_
    refine WPC.seq ?_
    refine WPC.seqR ?_
    iterate 7 refine stp ?_
    refine WPL.nil ?_
    refine WPC.block ?_
    refine WPC.loopS (fun m e Γ => ∃ q : Nat, m = q ∧ q ≤ L.ws.length ∧ (∀ (k : Nat) (w : Nat × Sec), q ≤ k → d.pend[k]? = some w → w.1 ≠ i) ∧ e = [(0, .pointer (some ⟨b, 0, none⟩)), (1, .int .i64 (i : Int)), (6, .int .i64 ((q : Int) - 1))] ∧ Γ = [cells true b 0 (rdC d.sure.length L), sl false L.sa ((flatB d.sure).map u8), sl false L.pa (L.ws.flatMap encRW), bytes (L.ws.map (·.x))]) (L.ws.length) ⟨L.ws.length, rfl, Nat.le_refl _, fun k w hk hw => by have := (List.getElem?_eq_some_iff.1 hw).1; omega, rfl, rfl⟩ sbb Imp.pk ?_
    rintro m e Γ ⟨q, hmq, hq, hno, rfl, rfl⟩
    refine WPC.seq ?_
    refine WPC.seqR ?_
    iterate 2 refine stp ?_
    refine WPL.nil ?_
    refine WPC.cond rfl (fun h1 => ?_) (fun h1 => ?_)
    · simp only [decide_eq_true_eq] at h1
      obtain ⟨r, rfl⟩ : ∃ r, q = r + 1 := ⟨q - 1, by omega⟩
      rw [show (((r + 1 : Nat) : Int) - 1) = (r : Int) by omega]
      have hp : Pl L.pa := hL.p.at (by omega) (by omega)
      obtain ⟨w, hw⟩ : ∃ w, L.ws[r]? = some w := ⟨L.ws[r]'(by omega), by simp⟩
      obtain ⟨v, hv, hvi, hvb⟩ := hL.get hw
      obtain ⟨hxo, hxl⟩ := hL.w w (List.mem_of_getElem? hw)
      have hxn := hxo.n
      have hwm : w.x ∈ L.ws.map (·.x) := List.mem_map_of_mem (List.mem_of_getElem? hw)
      have hvl := hok.idx v (List.mem_of_getElem? hv)
      refine WPC.skip ?_
      refine thenQ_n ?_
      refine WPC.seq ?_
      refine WPC.block ?_
      refine WPC.seqR ?_
      iterate 5 refine stp ?_
      refine L_s (q_idxN (i := r) sl_sl_pursuivantref04_Write rfl rfl (by omega) hp) rfl ?_
      refine stp ?_
      refine L_s (q_ldFlat1 (k := 2) (i := r) (j := 0) (enc := encRW) ld_int rfl mm encRW_len hw (by omega) rfl) rfl ?_
      iterate 2 refine stp ?_
      refine WPL.nil ?_
      refine WPC.cond rfl (fun h2 => ?_) (fun h2 => ?_)
      · have hwi : w.i = i := by simp at h2; omega
        have hring : (ring d.seen i).1 = w.x.bs := by
          rw [hvis, ← hwi, ← hvi, flush_last d.pend d.sure r v hid hv (fun k' w' hk hw' => by rw [hvi, hwi]; exact hno k' w' (by omega) hw'), hvb]
        refine WPC.seqR ?_
        iterate 5 refine stp ?_
        refine L_s (q_idxN (i := r) sl_sl_pursuivantref04_Write rfl rfl (by omega) hp) rfl ?_
        refine stp ?_
        refine L_s (q_ldFlat1 (k := 2) (i := r) (j := 1) (enc := encRW) ld_sl_uint8 rfl mm encRW_len hw (by omega) rfl) rfl ?_
        iterate 2 refine stp ?_
        refine WPL.nil ?_
        refine WPC.prune [(0, _), (1, _), (4, _), (5, _), (6, _), (21, _), (22, _), (25, _), (26, _), (27, _), (28, _), (29, _), (30, _), (31, _), (32, _), (33, _), (34, _), (35, _), (36, _), (37, _), (38, _), (39, _), (40, _), (41, _), (42, _)] sbb ?_
        refine WPC.ret ?_
        refine blockQ_r ?_
        refine thenQ_r ?_
        refine thenQ_r ?_
        refine blockQ_r ?_
        refine thenQ_r ?_
        have hn64 : w.x.n = 64 := by omega
        have hxo2 := hxo
        unfold BS.ok at hxo2
        rw [hn64] at hxo2 ⊢
        rw [hring]
        exact endR_r rfl (.tmp rfl (.tmp rfl .nil)) (((Imp.pk (Δ := [bytes (L.ws.map (·.x)), cells true b 0 (rdC d.sure.length L), sl false L.sa ((flatB d.sure).map u8), sl false L.pa (L.ws.flatMap encRW)])).trans (bytes_one hwm)).trans ((Imp.pk (Δ := [cells true b 0 (rdC d.sure.length L), sl false L.sa ((flatB d.sure).map u8), sl false L.pa (L.ws.flatMap encRW), bytes (L.ws.map (·.x)), w.x.at_])).trans (rdisk_close L hL))) ⟨w.x.a, w.x.c, rfl, hxo2, rfl⟩
      · have hwi : w.i ≠ i := by simp at h2; omega
        refine WPC.skip ?_
        refine blockQ_n ?_
        refine thenQ_n ?_
        refine WPC.region ?_
        iterate 3 refine stp ?_
        refine WPL.nil ?_
        refine thenQ_n ?_
        exact ⟨rfl, _, _, _, by omega, ⟨r, rfl, by omega, fun k w' hk hw' => by
            rcases Nat.lt_or_ge r k with h | h
            · exact hno k w' (by omega) hw'
            · rw [show k = r by omega, hv] at hw'; rw [← Option.some.inj hw', hvi]; exact hwi, rfl, rfl⟩, sbb, Imp.pk⟩
    · simp only [decide_eq_false_iff_not] at h1
      have hq0 : q = 0 := by omega
      subst hq0
      have hcut : ((flatB d.sure).drop (64 * i)).take (64 * i + 64 - 64 * i) = (ring d.seen i).1 := by
        rw [Nat.add_sub_cancel_left, flatB_cut _ _ (by omega), hvis, flush_none hid fun k w hw => hno k w (Nat.zero_le _) hw]
      have hsc := hL.s.cap
      have hso := hL.s.cutB (l := 64 * i) (k := 64 * i + 64) (m := L.sc) (by omega) (by omega) (by omega)
      have hci := Imp.cutRo hL.s (l := 64 * i) (k := 64 * i + 64) (m := L.sc) (Γ := [cells true b 0 (rdC d.sure.length L), sl false L.pa (L.ws.flatMap encRW), bytes (L.ws.map (·.x))]) (by omega) (by omega) (by omega)
      rw [hcut, Nat.add_sub_cancel_left] at hso
      rw [hcut] at hci
      refine WPC.exit ?_
      refine thenQ_e ?_
      refine thenQ_e ?_
      refine blockQ_here ?_
      refine thenQ_n ?_
      refine WPC.seqR ?_
      iterate 5 refine stp ?_
      refine L_s (q_mulN (a := 64) (b := i) rfl rfl (by omega)) rfl ?_
      refine stp ?_
      refine L_s (q_mulN (a := 64) (b := i) rfl rfl (by omega)) rfl ?_
      refine L_s (q_addN (a := 64 * i) (b := 64) rfl rfl (by omega)) rfl ?_
      refine L_s (q_sliceLH (l := 64 * i) (j := 64 * i + 64) sl_sl_uint8 rfl rfl rfl (by omega) (by omega)) rfl ?_
      rw [Nat.add_sub_cancel_left]
      iterate 2 refine stp ?_
      refine WPL.nil ?_
      refine WPC.ret ?_
      exact endR_r rfl (.tmp rfl (.tmp rfl .nil)) (((Imp.pk (Δ := [sl false L.sa ((flatB d.sure).map u8), cells true b 0 (rdC d.sure.length L), sl false L.pa (L.ws.flatMap encRW), bytes (L.ws.map (·.x))])).trans hci).trans ((Imp.pk (Δ := [cells true b 0 (rdC d.sure.length L), sl false L.sa ((flatB d.sure).map u8), sl false L.pa (L.ws.flatMap encRW), bytes (L.ws.map (·.x)), sl false (cut L.sa L.sc (64 * i) (64 * i * 1)) ((ring d.seen i).1.map u8)])).trans (rdisk_close L hL))) ⟨_, _, rfl, hso, rfl⟩

theorem c_RCrash {b c : Nat} {d : DK} {p : Bool} {a : Option Addr} {ps : List Int} (hok : d.ok) (hpl : d.pend.length < 1000000) (hs : Sok 1 a ps.length c (ps.map (.int .i64))) : Trip Tryd.prog 26 #[.pointer (some ⟨b, 0, none⟩), .slice a ps.length c] [rdisk b d, sl p a (ps.map (.int .i64))] fun r Δ => r = .tuple #[] ∧ Δ = [rdisk b (d.crash ps), sl p a (ps.map (.int .i64))] := by
  refine rdisk_open fun L hL => ?_
  have hwl := hL.len
  have hsm := hok.same
  have hdn := hok.n
  have hpc := hL.p.cap
  refine Trip.start 77 [] [(0, .pointer (some ⟨b, 0, none⟩)), (1, .slice a ps.length c)] Tryd.func26 rfl Tryd.ntmps26 rfl ⟨rfl, rfl, trivial⟩ rfl ?_
  refine WPC.seqR ?_
  refine nwb [] fun bZ => ?_
  iterate 4 refine stp ?_
  refine WPL.cons rfl (E1.wpo (e_ap0S (m := 64 * d.sure.length) hL.s rfl rfl) rfl ?_)
  rintro _ _ ⟨a1, c1, rfl, rfl⟩
  refine WPL.bufSl fun hB => ?_
  have hB : Sok 1 a1 (64 * d.sure.length) c1 ((flatB d.sure).map u8) := hB
  refine WPL.putS ?_
  refine stp ?_
  refine WPL.nil ?_
  refine WPC.seq ?_
  refine WPC.seqR ?_
  refine stp ?_
  refine WPL.nil ?_
  refine WPC.block ?_
  refine WPC.loopS (fun m e Γ => ∃ (k : Nat) (us : List Sec), m = d.pend.length - k ∧ k ≤ d.pend.length ∧ us.length = d.sure.length ∧ crashL us (d.pend.drop k) (ps.drop k) = crashL d.sure d.pend ps ∧ e = [(0, .pointer (some ⟨b, 0, none⟩)), (1, .slice a ps.length c), (4, .slice a1 (64 * d.sure.length) c1), (5, .int .i64 (k : Int))] ∧ Γ = [sl true a1 ((flatB us).map u8), cells true b 0 (rdC d.sure.length L), sl false L.sa ((flatB d.sure).map u8), sl false L.pa (L.ws.flatMap encRW), bytes (L.ws.map (·.x)), sl p a (ps.map (.int .i64))]) (d.pend.length) ⟨0, d.sure, rfl, by omega, rfl, rfl, rfl, rfl⟩ sbb Imp.pk ?_
  rintro m e Γ ⟨k, us, rfl, hk, hul, hfl, rfl, rfl⟩
  refine WPC.seq ?_
  refine WPC.seqR ?_
  iterate 7 refine stp ?_
  refine WPL.nil ?_
  refine WPC.cond rfl (fun h0 => ?_) (fun h0 => ?_)
  · simp only [decide_eq_true_eq, Int.ofNat_lt] at h0
    have hp : Pl L.pa := hL.p.at (by omega) (by omega)
    obtain ⟨w, hw⟩ : ∃ w, L.ws[k]? = some w := ⟨L.ws[k]'(by omega), by simp⟩
    obtain ⟨v, hv, hvi, hvb⟩ := hL.get hw
    obtain ⟨hxo, hxl⟩ := hL.w w (List.mem_of_getElem? hw)
    have hxn := hxo.n
    have hwm : w.x ∈ L.ws.map (·.x) := List.mem_map_of_mem (List.mem_of_getElem? hw)
    have hvl := hok.idx v (List.mem_of_getElem? hv)
    have hpx : Pl w.x.a := hxo.at (by omega) (by omega)
    have hp1 : Pl a1 := hB.at (by omega) (by omega)
    rw [drop_step hv, crashL_step] at hfl
    have hpv : (pickOf (ps.drop k)) ≤ 64 := pickOf_le _
    refine WPC.skip ?_
    refine thenQ_n ?_
    refine WPC.seq ?_
    refine WPC.block ?_
    refine WPC.seqR ?_
    refine stp ?_
    refine WPL.nil ?_
    refine WPC.seq ?_
    refine WPC.seqR ?_
    iterate 4 refine stp ?_
    refine WPL.nil ?_
    refine WPC.midS (fun e Γ => ∃ pv : Int, ((pickOf (ps.drop k)) : Int) = max 0 (min pv 64) ∧ e = [(0, .pointer (some ⟨b, 0, none⟩)), (1, .slice a ps.length c), (4, .slice a1 (64 * d.sure.length) c1), (5, .int .i64 (k : Int)), (6, .int .i64 pv)] ∧ Γ = [sl true a1 ((flatB us).map u8), cells true b 0 (rdC d.sure.length L), sl false L.sa ((flatB d.sure).map u8), sl false L.pa (L.ws.flatMap encRW), bytes (L.ws.map (·.x)), sl p a (ps.map (.int .i64))]) ?_ ?_
    · refine WPC.cond rfl (fun h1 => ?_) (fun h1 => ?_)
      · simp only [decide_eq_true_eq, Int.ofNat_lt] at h1
        have hpa : Pl a := hs.at (by omega) (by omega)
        obtain ⟨pv, hpx2⟩ : ∃ pv, ps[k]? = some pv := ⟨ps[k], by simp [h1]⟩
        have hpe : ((pickOf (ps.drop k)) : Int) = max 0 (min pv 64) := by rw [drop_step hpx2]; simp only [pickOf]; omega
        refine WPC.region ?_
        iterate 2 refine stp ?_
        refine L_s (q_idxN (i := k) sl_sl_int rfl rfl h1 hpa) rfl ?_
        refine L_s (q_ldMap ld_int rfl mm hpx2) rfl ?_
        refine stp ?_
        refine WPL.nil ?_
        refine thenQ_n ?_
        exact ⟨rfl, _, _, ⟨pv, hpe, rfl, rfl⟩, sbb, Imp.pk⟩
      · simp only [decide_eq_false_iff_not, Int.ofNat_lt] at h1
        have hpe : ((pickOf (ps.drop k)) : Int) = max 0 (min 0 64) := by rw [List.drop_eq_nil_of_le (by omega)]; rfl
        refine WPC.skip ?_
        refine thenQ_n ?_
        exact ⟨rfl, _, _, ⟨0, hpe, rfl, rfl⟩, sbb, Imp.pk⟩
    · rintro e Γ ⟨pv, hpe, rfl, rfl⟩
      refine WPC.seqR ?_
      refine stp ?_
      refine WPL.nil ?_
      refine WPC.block ?_
      refine WPC.loopS (fun m e Γ => ∃ q : Nat, m = 64 - q ∧ q ≤ (pickOf (ps.drop k)) ∧ e = [(0, .pointer (some ⟨b, 0, none⟩)), (1, .slice a ps.length c), (4, .slice a1 (64 * d.sure.length) c1), (5, .int .i64 (k : Int)), (6, .int .i64 pv), (7, .int .i64 (q : Int))] ∧ Γ = [sl true a1 ((flatB (us.set w.i (torn q v.2 (ring us w.i)))).map u8), cells true b 0 (rdC d.sure.length L), sl false L.sa ((flatB d.sure).map u8), sl false L.pa (L.ws.flatMap encRW), bytes (L.ws.map (·.x)), sl p a (ps.map (.int .i64))]) (64) ⟨0, rfl, Nat.zero_le _, rfl, by rw [torn_zero0, set_self (ring_get (by omega))]⟩ sbb Imp.pk ?_
      rintro m e Γ ⟨q, rfl, hq, rfl, rfl⟩
      refine WPC.seq ?_
      refine WPC.seqR ?_
      iterate 3 refine stp ?_
      apply WPL.joinA (e' := [(0, _), (1, _), (4, _), (5, _), (6, _), (7, _), (31, _), (32, _)]) 33 37 4 rfl
      · intro g8_2
        try simp only [decide_eq_true_eq, decide_eq_false_iff_not, beq_iff_eq, bne_iff_ne, beq_eq_false_iff_ne, bne_eq_false_iff_eq, Bool.not_eq_true', Bool.not_eq_false', Bool.not_eq_eq_eq_not, Bool.not_true, Bool.not_false, ne_eq, Decidable.not_not, Int.not_lt, Int.not_le, gt_iff_lt, ge_iff_le] at g8_2
        iterate 3 refine stpY rfl rfl ?_
        refine stp ?_
        first | exact WPL.jn rfl rfl sbb | exact WPL.jnI rfl rfl sbb Imp.pk
      · intro g8_2
        try simp only [decide_eq_true_eq, decide_eq_false_iff_not, beq_iff_eq, bne_iff_ne, beq_eq_false_iff_ne, bne_eq_false_iff_eq, Bool.not_eq_true', Bool.not_eq_false', Bool.not_eq_eq_eq_not, Bool.not_true, Bool.not_false, ne_eq, Decidable.not_not, Int.not_lt, Int.not_le, gt_iff_lt, ge_iff_le] at g8_2
        refine L_no rfl rfl rfl rfl ?_
        refine L_no rfl rfl rfl rfl ?_
        refine L_no rfl rfl rfl rfl ?_
        refine stp ?_
        first | exact WPL.jn rfl rfl sbb | exact WPL.jnI rfl rfl sbb Imp.pk
      refine WPL.nil ?_
      refine WPC.cond rfl (fun h2 => ?_) (fun h2 => ?_)
      · simp only [Bool.and_eq_true, decide_eq_true_eq] at h2
        have hqp : q < (pickOf (ps.drop k)) := by omega
        obtain ⟨x, hx⟩ : ∃ x, w.x.bs[q]? = some x := ⟨w.x.bs[q]'(by omega), by simp⟩
        have hfs : (flatB (us.set w.i (torn q v.2 (ring us w.i)))).set (64 * w.i + q) x = flatB (us.set w.i (torn (q + 1) v.2 (ring us w.i))) := by
          rw [flatB_set _ w.i q x (torn (q + 1) v.2 (ring us w.i)) (by rw [List.length_set]; omega) (by omega) (by rw [ring_set (by omega), if_pos rfl, torn_step (by omega) (by rw [hvb]; exact hx)]), List.set_set]
        refine WPC.skip ?_
        refine thenQ_n ?_
        refine WPC.seq ?_
        refine WPC.block ?_
        refine WPC.draw mixed ?_
        refine WPA.imp ((Imp.pk (Δ := [bytes (L.ws.map (·.x)), sl true a1 ((flatB (us.set w.i (torn q v.2 (ring us w.i)))).map u8), cells true b 0 (rdC d.sure.length L), sl false L.sa ((flatB d.sure).map u8), sl false L.pa (L.ws.flatMap encRW), sl p a (ps.map (.int .i64))])).trans (bytes_one hwm)) ?_
        refine atP 0 rfl ?_
        refine atP 1 rfl ?_
        refine atP 2 rfl ?_
        refine atP 3 rfl ?_
        refine atL 4 rfl ?_
        refine atP 5 rfl ?_
        refine WPA.takeP 6 rfl (q_idxN (i := k) sl_sl_pursuivantref04_Write rfl rfl (by omega) hp) (by kernel_rfl) (by kernel_rfl) (by kernel_rfl) rfl rfl (.cons (Ent.mem mm) (.nil _)) ?_
        refine WPA.putS ?_
        refine atP 7 rfl ?_
        refine WPA.takeL 8 rfl (Ent.mem mm) (q_ldFlat1 (k := 2) (i := k) (j := 0) (enc := encRW) ld_int rfl (.head _) encRW_len hw (by omega) rfl) (by kernel_rfl) (by kernel_rfl) (by kernel_rfl) rfl rfl (.cons (Ent.mem mm) (.nil _)) ?_
        refine WPA.putS ?_
        refine WPA.takeP 9 rfl (q_mulN (a := 64) (b := w.i) rfl rfl (by omega)) (by kernel_rfl) (by kernel_rfl) (by kernel_rfl) rfl rfl (.cons (Ent.mem mm) (.cons (Ent.mem mm) (.nil _))) ?_
        refine WPA.putS ?_
        refine atP 10 rfl ?_
        refine WPA.takeP 11 rfl (q_addN (a := 64 * w.i) (b := q) rfl rfl (by omega)) (by kernel_rfl) (by kernel_rfl) (by kernel_rfl) rfl rfl (.cons (Ent.mem mm) (.cons (Ent.mem mm) (.nil _))) ?_
        refine WPA.putS ?_
        refine atP 12 rfl ?_
        refine atP 13 rfl ?_
        refine atP 14 rfl ?_
        refine atL 15 rfl ?_
        refine atP 16 rfl ?_
        refine WPA.takeP 17 rfl (q_idxN (i := k) sl_sl_pursuivantref04_Write rfl rfl (by omega) hp) (by kernel_rfl) (by kernel_rfl) (by kernel_rfl) rfl rfl (.cons (Ent.mem mm) (.cons (Ent.mem mm) (.cons (Ent.mem mm) (.nil _)))) ?_
        refine WPA.putS ?_
        refine atP 18 rfl ?_
        refine WPA.takeL 19 rfl (Ent.mem mm) (q_ldFlat1 (k := 2) (i := k) (j := 1) (enc := encRW) ld_sl_uint8 rfl (.head _) encRW_len hw (by omega) rfl) (by kernel_rfl) (by kernel_rfl) (by kernel_rfl) rfl rfl (.cons (Ent.mem mm) (.cons (Ent.mem mm) (.cons (Ent.mem mm) (.nil _)))) ?_
        refine WPA.putS ?_
        refine atP 20 rfl ?_
        refine WPA.takeP 21 rfl (q_idxN (i := q) sl_sl_uint8 rfl rfl (by omega) hpx) (by kernel_rfl) (by kernel_rfl) (by kernel_rfl) rfl rfl (.cons (Ent.mem mm) (.cons (Ent.mem mm) (.cons (Ent.mem mm) (.cons (Ent.mem mm) (.nil _))))) ?_
        refine WPA.putS ?_
        refine WPA.takeL 22 rfl (Ent.mem mm) (q_ldMap (f := u8) ld_uint8 rfl (.head _) hx) (by kernel_rfl) (by kernel_rfl) (by kernel_rfl) rfl rfl (.cons (Ent.mem mm) (.cons (Ent.mem mm) (.cons (Ent.mem mm) (.cons (Ent.mem mm) (.nil _))))) ?_
        refine WPA.putS ?_
        refine WPA.takeP 23 rfl (q_idxN (i := 64 * w.i + q) sl_sl_uint8 rfl rfl (by omega) hp1) (by kernel_rfl) (by kernel_rfl) (by kernel_rfl) rfl rfl (.cons (Ent.mem mm) (.cons (Ent.mem mm) (.cons (Ent.mem mm) (.cons (Ent.mem mm) (.cons (Ent.mem mm) (.nil _)))))) ?_
        refine WPA.putS ?_
        refine WPA.oneE 24 [] (by kernel_rfl) rfl rfl (by repeat (first | exact .nil | refine .anc rfl ?_ | refine .keep mm ?_)) (S1.wpo (s_storeMap (xs := flatB (us.set w.i (torn q v.2 (ring us w.i)))) (f := u8) (e := x) (i := 64 * w.i + q) sz_uint8 rfl rfl rfl rfl (by rw [flatB_len, List.length_set]; omega) uu) rfl ?_)
        refine ⟨(.nil _), ?_⟩
        refine WPA.putN ?_
        rw [hfs]
        refine WPA.done (by kernel_rfl) ?_
        refine blockQ_n ?_
        refine thenQ_n ?_
        refine WPC.region ?_
        iterate 3 refine stp ?_
        refine WPL.nil ?_
        refine thenQ_n ?_
        exact ⟨rfl, _, _, _, by omega, ⟨q + 1, rfl, by omega, rfl, rfl⟩, sbb, Imp.pk⟩
      · simp only [Bool.and_eq_false_iff, decide_eq_false_iff_not] at h2
        have hqp : q = (pickOf (ps.drop k)) := by omega
        refine WPC.exit ?_
        refine thenQ_e ?_
        refine thenQ_e ?_
        refine blockQ_here ?_
        refine blockQ_n ?_
        refine thenQ_n ?_
        refine WPC.region ?_
        iterate 3 refine stp ?_
        refine WPL.nil ?_
        refine thenQ_n ?_
        exact ⟨rfl, _, _, _, by omega, ⟨k + 1, us.set w.i (torn (pickOf (ps.drop k)) v.2 (ring us w.i)), rfl, by omega, by rw [List.length_set]; exact hul, by rw [← hvi]; exact hfl, rfl, by rw [← hqp]⟩, sbb, Imp.pk⟩
  · simp only [decide_eq_false_iff_not, Int.ofNat_lt] at h0
    rw [List.drop_eq_nil_of_le (by omega)] at hfl
    have hfl2 : us = crashL d.sure d.pend ps := hfl
    refine WPC.exit ?_
    refine thenQ_e ?_
    refine thenQ_e ?_
    refine blockQ_here ?_
    refine thenQ_n ?_
    refine WPC.seqR ?_
    iterate 4 refine stp ?_
    refine sto ?_
    refine WPL.nil ?_
    refine WPC.seqR ?_
    iterate 3 refine stp ?_
    refine sto ?_
    refine WPL.nil ?_
    refine WPC.seqR ?_
    iterate 3 refine stp ?_
    refine sto ?_
    refine WPL.nil ?_
    refine WPC.region ?_
    iterate 3 refine stp ?_
    refine sto ?_
    refine WPL.nil ?_
    have hB2 : Sok 1 a1 (64 * us.length) c1 ((flatB us).map u8) := sok_flat hB hul
    have hcl := rdisk_close (b := b) (d := ⟨us, us, [], -1, false⟩) (⟨a1, c1, none, 0, []⟩ : RL) ⟨hB2, ⟨rfl, Nat.le_refl _, .inl rfl⟩, by simp, rfl⟩ (Γ := [sl p a (ps.map (.int .i64))])
    simp only [rdC, hul] at hcl
    unfold DK.crash
    rw [← hfl2]
    exact endR_n rfl .nil (((bytes_nil.trans (Imp.slEmpty (p := false) (a := none))).trans (Imp.pk (Δ := [sl true a1 ((flatB us).map u8), sl false none [], bytes [], cells true b 0 [.slice a1 (64 * d.sure.length) c1, .slice none 0 0, .bool false, .int .i64 0, .bool false], sl p a (ps.map (.int .i64))]))).trans ((Imp.freeze _ _ _ _).trans ((Imp.pk).trans hcl))) ⟨rfl, rfl⟩

end Go.Sl
/- Walks: references, syncing, a new disk. -/
namespace Go.Sl
open Go Go.RowKit Go.Proofs
set_option linter.unusedSimpArgs false
set_option linter.unusedVariables false
attribute [local irreducible] faB szB ldB zB zL slB mkB arB plB intB cells objc star stars buf slv grp whole Sat WPC WPL WPA WPO WPQ Trip Q1 E1 S1 C1

theorem c_RSync {b : Nat} {d : DK} (hok : d.ok) (hpl : d.pend.length < 1000000) (hup : Up d) : Trip Tryd.prog 23 #[.pointer (some ⟨b, 0, none⟩)] [rdisk b d] fun r Δ => r = .tuple #[] ∧ Δ = [rdisk b d.sync] := by
  refine rdisk_open fun L hL => ?_
  have hwl := hL.len
  have hsm := hok.same
  have hdn := hok.n
  have hpc := hL.p.cap
  refine Trip.start 33 [] [(0, .pointer (some ⟨b, 0, none⟩))] Tryd.func23 rfl Tryd.ntmps23 rfl ⟨rfl, trivial⟩ rfl ?_
  refine WPC.seqR ?_
  refine stp ?_
  refine kall rfl (c_RDone (N := d.sure.length) (L := L)) ?_
  rintro _ _ ⟨rfl, rfl⟩
  refine stp ?_
  refine WPL.nil ?_
  refine WPC.seq ?_
  refine WPC.seqR ?_
  iterate 2 refine stp ?_
  refine WPL.nil ?_
  refine WPC.cond rfl (fun h0 => ?_) (fun h0 => ?_)
  · try simp only [decide_eq_true_eq, decide_eq_false_iff_not, beq_iff_eq, bne_iff_ne, beq_eq_false_iff_ne, bne_eq_false_iff_eq, Bool.not_eq_true', Bool.not_eq_false', Bool.not_eq_eq_eq_not, Bool.not_true, Bool.not_false, ne_eq, Decidable.not_not, Int.not_lt, Int.not_le, gt_iff_lt, ge_iff_le] at h0
    cases h0
  · skip
    refine WPC.skip ?_
    refine thenQ_n ?_
    refine WPC.seqR ?_
    iterate 5 refine stp ?_
    refine WPL.nil ?_
    refine WPC.seqR ?_
    refine stp ?_
    refine WPL.nil ?_
    refine WPC.seq ?_
    refine WPC.seqR ?_
    refine stp ?_
    refine WPL.nil ?_
    refine WPC.imp (Imp.bufNil (sz := 1)) ?_
    refine WPC.block ?_
    refine WPC.loopS (fun m e Γ => ∃ (k : Nat) (a2 : Option Addr) (c2 : Nat), m = L.ws.length - k ∧ k ≤ L.ws.length ∧ e = [(0, .pointer (some ⟨b, 0, none⟩)), (3, .bool false), (4, .slice a2 k c2), (5, .int .i64 (k : Int))] ∧ Γ = [buf 1 a2 k c2 ((List.replicate k (64 : Int)).map (.int .i64)), cells true b 0 (rdC d.sure.length L), sl false L.sa ((flatB d.sure).map u8), sl false L.pa (L.ws.flatMap encRW), bytes (L.ws.map (·.x))]) (L.ws.length) ⟨0, none, 0, rfl, by omega, rfl, rfl⟩ sbb Imp.pk ?_
    rintro m e Γ ⟨k, a2, c2, rfl, hk, rfl, rfl⟩
    refine WPC.seq ?_
    refine WPC.seqR ?_
    iterate 7 refine stp ?_
    refine WPL.nil ?_
    refine WPC.cond rfl (fun h1 => ?_) (fun h1 => ?_)
    · simp only [decide_eq_true_eq, Int.ofNat_lt] at h1
      refine WPC.skip ?_
      refine thenQ_n ?_
      refine WPC.seq ?_
      refine WPC.block ?_
      refine WPC.region ?_
      refine stp ?_
      refine nwb [_] fun b1 => ?_
      refine WPL.cons rfl (E1.wpo (e_ap1 rfl rfl) rfl ?_)
      rintro _ _ ⟨a3, c3, rfl, rfl⟩
      rw [show (List.replicate k (64 : Int)).map (Value.int .i64) ++ [Value.int .i64 64] = (List.replicate (k + 1) (64 : Int)).map (Value.int .i64) by rw [List.replicate_succ', List.map_append]; rfl]
      refine WPL.putS ?_
      refine stp ?_
      refine WPL.nil ?_
      refine blockQ_n ?_
      refine thenQ_n ?_
      refine WPC.region ?_
      iterate 3 refine stp ?_
      refine WPL.nil ?_
      refine thenQ_n ?_
      exact ⟨rfl, _, _, _, by omega, ⟨k + 1, a3, c3, rfl, by omega, rfl, rfl⟩, sbb, Imp.pk⟩
    · simp only [decide_eq_false_iff_not, Int.ofNat_lt] at h1
      have hkk : k = d.pend.length := by omega
      refine WPC.exit ?_
      refine thenQ_e ?_
      refine thenQ_e ?_
      refine blockQ_here ?_
      refine thenQ_n ?_
      refine WPC.seqR ?_
      iterate 2 refine stp ?_
      refine WPL.bufRo fun hA => ?_
      refine WPL.imp ((Imp.pk (Δ := [cells true b 0 (rdC d.sure.length L), sl false L.sa ((flatB d.sure).map u8), sl false L.pa (L.ws.flatMap encRW), bytes (L.ws.map (·.x)), sl false a2 ((List.replicate k (64 : Int)).map (.int .i64))])).trans (rdisk_close L hL)) ?_
      refine kall rfl (show Trip _ _ _ [rdisk b d, sl false a2 ((List.replicate k (64 : Int)).map (.int .i64))] _ by
        have hc := c_RCrash (b := b) (ps := List.replicate k 64) hok hpl (p := false) (by rw [List.length_replicate]; exact hA)
        rw [List.length_replicate] at hc
        exact hc) ?_
      rintro _ _ ⟨rfl, rfl⟩
      refine WPL.nil ?_
      refine WPC.region ?_
      refine rdisk_openL fun L2 hL2 => ?_
      iterate 4 refine stp ?_
      refine sto ?_
      refine WPL.nil ?_
      have he : rdisk b (d.crash (List.replicate k 64)) = rdisk b d.sync := rdisk_cong (by show crashL _ _ _ = _; rw [sync_up hup, hkk, flush_crash]) (by rw [sync_up hup]; rfl)
      exact endR_n rfl .nil ((Imp.pk).trans ((rdisk_close L2 hL2).trans (by rw [he]; exact Imp.refl _))) ⟨rfl, rfl⟩

theorem c_RNew {k : Nat} (hk : 1 ≤ k ∧ k ≤ 512) : Trip Tryd.prog 20 #[.int .i64 (k : Int)] [] fun r Δ => ∃ b, r = .tuple #[.pointer (some ⟨b, 0, none⟩), .int .i64 0] ∧ Δ = [rdisk b (DK.new k)] := by
  refine Trip.start 15 [.tmp 2, .tmp 3] [(0, .int .i64 (k : Int))] Tryd.func20 rfl Tryd.ntmps20 rfl ⟨rfl, trivial⟩ rfl ?_
  refine WPC.seqR ?_
  iterate 2 refine stp ?_
  refine WPL.nil ?_
  refine WPC.seq ?_
  refine WPC.seqR ?_
  iterate 3 refine stp ?_
  apply WPL.joinO (e' := [(0, _), (2, _), (3, _)]) 6 9 3 rfl
  · intro g1_2
    try simp only [decide_eq_true_eq, decide_eq_false_iff_not, beq_iff_eq, bne_iff_ne, beq_eq_false_iff_ne, bne_eq_false_iff_eq, Bool.not_eq_true', Bool.not_eq_false', Bool.not_eq_eq_eq_not, Bool.not_true, Bool.not_false, ne_eq, Decidable.not_not, Int.not_lt, Int.not_le, gt_iff_lt, ge_iff_le] at g1_2
    refine L_no rfl rfl rfl rfl ?_
    refine L_no rfl rfl rfl rfl ?_
    refine stp ?_
    first | exact WPL.jn rfl rfl sbb | exact WPL.jnI rfl rfl sbb Imp.pk
  · intro g1_2
    try simp only [decide_eq_true_eq, decide_eq_false_iff_not, beq_iff_eq, bne_iff_ne, beq_eq_false_iff_ne, bne_eq_false_iff_eq, Bool.not_eq_true', Bool.not_eq_false', Bool.not_eq_eq_eq_not, Bool.not_true, Bool.not_false, ne_eq, Decidable.not_not, Int.not_lt, Int.not_le, gt_iff_lt, ge_iff_le] at g1_2
    iterate 2 refine stpY rfl rfl ?_
    refine stp ?_
    first | exact WPL.jn rfl rfl sbb | exact WPL.jnI rfl rfl sbb Imp.pk
  refine WPL.nil ?_
  refine WPC.cond rfl (fun h0 => ?_) (fun h0 => ?_)
  · try simp only [decide_eq_true_eq, decide_eq_false_iff_not, beq_iff_eq, bne_iff_ne, beq_eq_false_iff_ne, bne_eq_false_iff_eq, Bool.not_eq_true', Bool.not_eq_false', Bool.not_eq_eq_eq_not, Bool.not_true, Bool.not_false, ne_eq, Decidable.not_not, Int.not_lt, Int.not_le, gt_iff_lt, ge_iff_le] at h0
    simp only [Bool.or_eq_true, decide_eq_true_eq] at h0
    omega
  · skip
    refine WPC.skip ?_
    refine thenQ_n ?_
    refine WPC.seqR ?_
    refine stp ?_
    refine L_s (q_mulN (a := 64) (b := k) rfl rfl (by omega)) rfl ?_
    refine nw fun bS => ?_
    rw [Int.toNat_natCast, repZ8]
    refine L_s (q_build (cs := [_, _, _, _, _]) pl_pursuivantref04_Disk rfl rfl) rfl ?_
    refine nw fun bD => ?_
    iterate 2 refine stp ?_
    refine WPL.nil ?_
    refine WPC.ret ?_
    have hcl := rdisk_close (b := bD) (d := DK.new k) (⟨some ⟨bS, 0, none⟩, 64 * k, none, 0, []⟩ : RL) ⟨⟨by rw [List.length_map, flatB_len, Nat.mul_one], by simp [DK.new], .inr (Pl.mk _ _)⟩, ⟨rfl, Nat.le_refl _, .inl rfl⟩, by simp, rfl⟩ (Γ := [])
    simp only [rdC, DK.new, List.length_replicate, flat_zero] at hcl
    exact endR_r rfl (.tmp rfl (.tmp rfl .nil)) (((bytes_nil.trans (Imp.slEmpty (p := false) (a := none))).trans (Imp.pk (Δ := [cells true bS 0 ((List.replicate (64 * k) (0 : By)).map u8), sl false none [], bytes [], cells true bD 0 [.slice (some ⟨bS, 0, none⟩) (64 * k) (64 * k), .slice none 0 0, .bool false, .int .i64 0, .bool false]]))).trans ((Imp.freeze _ _ _ _).trans ((Imp.pk).trans hcl))) ⟨bD, rfl, rfl⟩

end Go.Sl
/- Walks: references, stamps. -/
namespace Go.Sl
open Go Go.RowKit Go.Proofs
set_option linter.unusedSimpArgs false
set_option linter.unusedVariables false
attribute [local irreducible] faB szB ldB zB zL slB mkB arB plB intB cells objc star stars buf slv grp whole Sat WPC WPL WPA WPO WPQ Trip Q1 E1 S1 C1

theorem c_RStamp {a : Option Addr} {c seq epoch : Nat} {p : Bool} {xs : List By} (hs : Sok 1 a xs.length c (xs.map u8)) (h1 : seq < 4294967296) (h2 : epoch < 4294967296) (hl : xs.length ≤ 43) : Trip Tryd.prog 54 #[.int .u32 (seq : Int), .int .u32 (epoch : Int), .slice a xs.length c] [sl p a (xs.map u8)] fun r Δ => ∃ a' c', r = .tuple #[.slice a' 64 c', .int .i64 0] ∧ Sok 1 a' 64 c' ((stamp seq epoch xs).map u8) ∧ Δ = [sl false a' ((stamp seq epoch xs).map u8)] := by
  refine Trip.start 48 [.tmp 6, .tmp 7] [(0, .int .u32 (seq : Int)), (1, .int .u32 (epoch : Int)), (2, .slice a xs.length c)] Tryd.func54 rfl Tryd.ntmps54 rfl ⟨rfl, rfl, rfl, trivial⟩ rfl ?_
  refine WPC.seqR ?_
  iterate 2 refine stp ?_
  refine WPL.nil ?_
  refine WPC.seq ?_
  refine WPC.seqR ?_
  iterate 3 refine stp ?_
  refine WPL.nil ?_
  refine WPC.cond rfl (fun h0 => ?_) (fun h0 => ?_)
  · try simp only [decide_eq_true_eq, decide_eq_false_iff_not, beq_iff_eq, bne_iff_ne, beq_eq_false_iff_ne, bne_eq_false_iff_eq, Bool.not_eq_true', Bool.not_eq_false', Bool.not_eq_eq_eq_not, Bool.not_true, Bool.not_false, ne_eq, Decidable.not_not, Int.not_lt, Int.not_le, gt_iff_lt, ge_iff_le] at h0
    omega
  · skip
    refine WPC.skip ?_
    refine thenQ_n ?_
    refine WPC.seqR ?_
    iterate 2 refine stp ?_
    refine kall rfl (c_Num01 (v := seq) (k := 4) (by omega) (by omega)) ?_
    rintro _ _ ⟨a1, c1, rfl, rfl⟩
    iterate 2 refine stp ?_
    refine kall rfl (c_Num01 (v := epoch) (k := 4) (by omega) (by omega)) ?_
    rintro _ _ ⟨a2, c2, rfl, rfl⟩
    refine WPL.bufFact (sz := 1) (a := a2) (m := 4) (k := c2) mm fun hq => ?_
    refine WPL.cons rfl (E1.wpo (e_apB hq rfl rfl) rfl ?_)
    rintro _ _ ⟨a3, c3, rfl, rfl⟩
    rw [← List.map_append]
    refine WPL.bufRo fun hE => ?_
    refine WPL.putS ?_
    refine stp ?_
    refine WPL.nil ?_
    refine WPC.seqR ?_
    refine nwb [] fun bZ => ?_
    refine stp ?_
    refine WPL.cons rfl (E1.wpo (e_ap0S (m := 8) hE rfl rfl) rfl ?_)
    rintro _ _ ⟨a4, c4, rfl, rfl⟩
    refine WPL.putS ?_
    iterate 2 refine stp ?_
    refine L_s (q_conv8 (a := xs.length) in_int in_uint8 rfl) rfl ?_
    refine nwb [_] fun bE => ?_
    refine WPL.cons rfl (E1.wpo (e_ap1 rfl rfl) rfl ?_)
    rintro _ _ ⟨a5, c5, rfl, rfl⟩
    rw [show (le seq 4 ++ le epoch 4).map u8 ++ [Value.int .u8 ((xs.length % 256 : Nat) : Int)] = ((le seq 4 ++ le epoch 4) ++ le xs.length 1).map u8 by rw [List.map_append]; simp [le, by_]]
    refine WPL.putS ?_
    refine stp ?_
    refine WPL.nil ?_
    refine WPC.prune [(2, _), (6, _), (7, _), (8, _), (9, _)] sbb ?_
    refine WPC.seqR ?_
    iterate 2 refine stp ?_
    refine WPL.cons rfl (E1.wpo (e_apS hs rfl rfl) rfl ?_)
    rintro _ _ ⟨a6, c6, rfl, rfl⟩
    rw [← List.map_append]
    refine WPL.putS ?_
    refine stp ?_
    refine WPL.nil ?_
    refine WPC.seq ?_
    refine WPC.block ?_
    refine WPC.loopS (fun m e Γ => ∃ (q : Nat) (a7 : Option Addr) (c7 : Nat), m = 43 - xs.length - q ∧ q ≤ 43 - xs.length ∧ e = [(8, .slice a3 8 c3), (9, .slice a7 (9 + xs.length + q) c7)] ∧ Γ = [buf 1 a7 (9 + xs.length + q) c7 (((le seq 4 ++ le epoch 4) ++ le xs.length 1 ++ xs ++ List.replicate q (0 : By)).map u8), sl false a3 ((le seq 4 ++ le epoch 4).map u8)]) (43 - xs.length) ⟨0, a6, c6, rfl, by omega, rfl, by rw [List.replicate_zero, List.append_nil]⟩ sbb Imp.pk ?_
    rintro m e Γ ⟨q, a7, c7, rfl, hq, rfl, rfl⟩
    refine WPC.seq ?_
    refine WPC.seqR ?_
    iterate 3 refine stp ?_
    refine WPL.nil ?_
    refine WPC.cond rfl (fun h1 => ?_) (fun h1 => ?_)
    · have hq43 : q < 43 - xs.length := by simp at h1; omega
      refine WPC.skip ?_
      refine thenQ_n ?_
      refine WPC.block ?_
      refine WPC.region ?_
      refine stp ?_
      refine nwb [_] fun b3 => ?_
      refine WPL.cons rfl (E1.wpo (e_ap1 rfl rfl) rfl ?_)
      rintro _ _ ⟨a8, c8, rfl, rfl⟩
      rw [show ((le seq 4 ++ le epoch 4) ++ le xs.length 1 ++ xs ++ List.replicate q (0 : By)).map u8 ++ [Value.int .u8 0] = ((le seq 4 ++ le epoch 4) ++ le xs.length 1 ++ xs ++ List.replicate (q + 1) (0 : By)).map u8 by rw [List.replicate_succ', ← List.append_assoc]; exact (List.map_append (f := u8) (l₂ := [(0 : By)])).symm, Nat.add_assoc (9 + xs.length)]
      refine WPL.putS ?_
      refine stp ?_
      refine WPL.nil ?_
      refine blockQ_n ?_
      refine thenQ_n ?_
      exact ⟨rfl, _, _, _, by omega, ⟨q + 1, a8, c8, rfl, by omega, rfl, rfl⟩, sbb, Imp.pk⟩
    · have hq43 : q = 43 - xs.length := by simp at h1; omega
      have hz52 : ((le seq 4 ++ le epoch 4) ++ le xs.length 1 ++ xs ++ List.replicate q (0 : By)) = (stampHead seq epoch xs) := by rw [hq43]; unfold stampHead; rfl
      have hzl := stampHead_length (seq := seq) (epoch := epoch) hl
      rw [hz52, show 9 + xs.length + q = 52 by omega]
      refine WPC.exit ?_
      refine thenQ_e ?_
      refine thenQ_e ?_
      refine blockQ_here ?_
      refine thenQ_n ?_
      refine WPC.seqR ?_
      refine stp ?_
      refine WPL.imp (Imp.pk (Δ := [buf 1 a7 52 c7 ((stampHead seq epoch xs).map u8), sl false a3 ((le seq 4 ++ le epoch 4).map u8)])) ?_
      refine WPL.bufOpen fun sp hsk hsp => ?_
      refine kall rfl (c_RSum (p := true) hsk (by omega)) ?_
      rintro _ _ ⟨rfl, rfl⟩
      have hcl := crc_lt (stampHead seq epoch xs)
      refine WPL.imp ((Imp.pk (Δ := [sl true a7 ((stampHead seq epoch xs).map u8), cells true (blk a7) (off a7 + ((stampHead seq epoch xs).map u8).length) sp, sl false a3 ((le seq 4 ++ le epoch 4).map u8)])).trans (Imp.bufClose hsk hsp)) ?_
      refine stp ?_
      refine WPL.nil ?_
      refine WPC.seqR ?_
      iterate 3 refine stp ?_
      refine kall rfl (c_Num01 (v := crc (stampHead seq epoch xs)) (k := 4) (by omega) (by omega)) ?_
      rintro _ _ ⟨a9, c9, rfl, rfl⟩
      refine WPL.bufFact (sz := 1) (a := a9) (m := 4) (k := c9) mm fun hq => ?_
      refine WPL.cons rfl (E1.wpo (e_apB hq rfl rfl) rfl ?_)
      rintro _ _ ⟨a10, c10, rfl, rfl⟩
      rw [← List.map_append]
      refine WPL.putS ?_
      refine stp ?_
      refine WPL.nil ?_
      refine WPC.seqR ?_
      iterate 2 refine stp ?_
      refine WPL.cons rfl (E1.wpo (e_apS (m := 8) hE rfl rfl) rfl ?_)
      rintro _ _ ⟨a11, c11, rfl, rfl⟩
      rw [← List.map_append, show (stampHead seq epoch xs) ++ le (crc (stampHead seq epoch xs)) 4 ++ (le seq 4 ++ le epoch 4) = stamp seq epoch xs by unfold stamp; simp only [List.append_assoc]]
      refine WPL.bufRo fun hF => ?_
      refine WPL.putS ?_
      iterate 2 refine stp ?_
      refine WPL.nil ?_
      refine WPC.ret ?_
      exact endR_r rfl (.tmp rfl (.tmp rfl .nil)) Imp.pk ⟨a11, c11, rfl, hF, rfl⟩

theorem c_RParse {a : Option Addr} {c : Nat} (s : Sec) (hs : Sok 1 a 64 c (s.1.map u8)) : Trip Tryd.prog 51 #[.slice a 64 c] [sl false a (s.1.map u8)] fun r Δ => ∃ a' c', r = .agg #[.int .u32 (pS s.1 : Int), .int .u32 (pE s.1 : Int), .slice a' (pB s.1).length c'] ∧ Sok 1 a' (pB s.1).length c' ((pB s.1).map u8) ∧ Δ = [sl false a' ((pB s.1).map u8)] := by
  have hcap := hs.cap
  have hsl := s.2
  have n0l := num_lt s.1 0 4
  obtain ⟨n0, hn0⟩ : ∃ x, num s.1 0 4 = x := ⟨_, rfl⟩
  rw [hn0] at n0l
  have n4l := num_lt s.1 4 4
  obtain ⟨n4, hn4⟩ : ∃ x, num s.1 4 4 = x := ⟨_, rfl⟩
  rw [hn4] at n4l
  have n56l := num_lt s.1 56 4
  obtain ⟨n56, hn56⟩ : ∃ x, num s.1 56 4 = x := ⟨_, rfl⟩
  rw [hn56] at n56l
  have n60l := num_lt s.1 60 4
  obtain ⟨n60, hn60⟩ : ∃ x, num s.1 60 4 = x := ⟨_, rfl⟩
  rw [hn60] at n60l
  have n52l := num_lt s.1 52 4
  obtain ⟨n52, hn52⟩ : ∃ x, num s.1 52 4 = x := ⟨_, rfl⟩
  rw [hn52] at n52l
  obtain ⟨x8, hx8⟩ : ∃ x, s.1[8]? = some x := ⟨s.1[8]'(by omega), by simp⟩
  have hn8 : num s.1 8 1 = x8.val := by unfold num part; rw [drop_step hx8]; simp [ofLE]
  have hx8l := x8.2
  have hp : Pl a := hs.at (by omega) (by omega)
  have s52 := hs.cutB (l := 0) (k := 52) (m := c) (by omega) (by omega) (by omega)
  have i52 := fun Γ => Imp.cutRo hs (l := 0) (k := 52) (m := c) (Γ := Γ) (by omega) (by omega) (by omega)
  simp only [List.drop_zero, Nat.sub_zero, Nat.zero_mul, cut_zero] at s52 i52
  refine Trip.start 68 [.cell 2 93] [(0, .slice a 64 c)] Tryd.func51 rfl Tryd.ntmps51 rfl ⟨rfl, trivial⟩ rfl ?_
  refine WPC.seqR ?_
  refine nw fun bR => ?_
  refine WPL.nil ?_
  refine WPC.seq ?_
  refine WPC.seqR ?_
  iterate 3 refine stp ?_
  refine WPL.nil ?_
  refine WPC.cond rfl (fun h0 => ?_) (fun h0 => ?_)
  · try simp only [decide_eq_true_eq, decide_eq_false_iff_not, beq_iff_eq, bne_iff_ne, beq_eq_false_iff_ne, bne_eq_false_iff_eq, Bool.not_eq_true', Bool.not_eq_false', Bool.not_eq_eq_eq_not, Bool.not_true, Bool.not_false, ne_eq, Decidable.not_not, Int.not_lt, Int.not_le, gt_iff_lt, ge_iff_le] at h0
    simp at h0
  · skip
    refine WPC.skip ?_
    refine thenQ_n ?_
    refine WPC.seqR ?_
    refine stp ?_
    refine L_s (q_sliceLH (l := 0) (j := 4) sl_sl_uint8 rfl rfl rfl (by omega) (by omega)) rfl ?_
    refine WPL.imp ((Imp.pk (Δ := [sl false a (s.1.map u8), cells true bR 0 [.int .u32 0, .int .u32 0, .slice none 0 0]])).trans (Imp.cutRo hs (l := 0) (k := 4) (m := c) (by omega) (by omega) (by omega))) ?_
    refine kall rfl (c_Of01 (p := false) (hs.cutB (l := 0) (k := 4) (m := c) (by omega) (by omega) (by omega)) (by omega)) ?_
    rintro _ _ ⟨rfl, rfl⟩
    rw [show ofLE ((s.1.drop 0).take (4 - 0)) = n0 from hn0]
    iterate 2 refine stp ?_
    refine WPL.nil ?_
    refine WPC.seqR ?_
    refine stp ?_
    refine L_s (q_sliceLH (l := 4) (j := 8) sl_sl_uint8 rfl rfl rfl (by omega) (by omega)) rfl ?_
    refine WPL.imp ((Imp.pk (Δ := [sl false a (s.1.map u8), cells true bR 0 [.int .u32 0, .int .u32 0, .slice none 0 0]])).trans (Imp.cutRo hs (l := 4) (k := 8) (m := c) (by omega) (by omega) (by omega))) ?_
    refine kall rfl (c_Of01 (p := false) (hs.cutB (l := 4) (k := 8) (m := c) (by omega) (by omega) (by omega)) (by omega)) ?_
    rintro _ _ ⟨rfl, rfl⟩
    rw [show ofLE ((s.1.drop 4).take (8 - 4)) = n4 from hn4]
    iterate 2 refine stp ?_
    refine WPL.nil ?_
    refine WPC.seqR ?_
    refine stp ?_
    refine L_s (q_idxN (i := 8) sl_sl_uint8 rfl rfl (by omega) hp) rfl ?_
    refine L_s (q_ldMap (f := u8) ld_uint8 rfl mm hx8) rfl ?_
    iterate 2 refine stp ?_
    refine WPL.nil ?_
    refine WPC.seqR ?_
    iterate 2 refine stp ?_
    refine L_s (q_sliceLH (l := 56) (j := 60) sl_sl_uint8 rfl rfl rfl (by omega) (by omega)) rfl ?_
    refine WPL.imp ((Imp.pk (Δ := [sl false a (s.1.map u8), cells true bR 0 [.int .u32 0, .int .u32 0, .slice none 0 0]])).trans (Imp.cutRo hs (l := 56) (k := 60) (m := c) (by omega) (by omega) (by omega))) ?_
    refine kall rfl (c_Of01 (p := false) (hs.cutB (l := 56) (k := 60) (m := c) (by omega) (by omega) (by omega)) (by omega)) ?_
    rintro _ _ ⟨rfl, rfl⟩
    rw [show ofLE ((s.1.drop 56).take (60 - 56)) = n56 from hn56]
    iterate 3 refine stp ?_
    apply WPL.joinA (e' := [(0, _), (2, _), (3, _), (4, _), (5, _)]) 30 37 7 rfl
    · intro g6_6
      try simp only [decide_eq_true_eq, decide_eq_false_iff_not, beq_iff_eq, bne_iff_ne, beq_eq_false_iff_ne, bne_eq_false_iff_eq, Bool.not_eq_true', Bool.not_eq_false', Bool.not_eq_eq_eq_not, Bool.not_true, Bool.not_false, ne_eq, Decidable.not_not, Int.not_lt, Int.not_le, gt_iff_lt, ge_iff_le] at g6_6
      iterate 2 refine stpY rfl rfl ?_
      refine L_yes rfl rfl (q_sliceLH (l := 60) (j := 64) sl_sl_uint8 rfl rfl rfl (by omega) (by omega)) rfl ?_
      refine WPL.imp ((Imp.pk (Δ := [sl false a (s.1.map u8), sl false (cut a c 56 (56 * 1)) (((s.1.drop 56).take (60 - 56)).map u8), cells true bR 0 [.int .u32 0, .int .u32 0, .slice none 0 0]])).trans (Imp.cutRo hs (l := 60) (k := 64) (m := c) (by omega) (by omega) (by omega))) ?_
      refine L_eyes rfl rfl rfl (C1.call (c_call Tryd.func48 rfl rfl rfl) (c_Of01 (p := false) (hs.cutB (l := 60) (k := 64) (m := c) (by omega) (by omega) (by omega)) (by omega)) pkk rfl ?_)
      rintro _ _ ⟨rfl, rfl⟩
      rw [show ofLE ((s.1.drop 60).take (64 - 60)) = n60 from hn60]
      refine WPL.putS ?_
      iterate 2 refine stpY rfl rfl ?_
      refine stp ?_
      first | exact WPL.jn rfl rfl sbb | exact WPL.jnI rfl rfl sbb Imp.pk
    · intro g6_6
      try simp only [decide_eq_true_eq, decide_eq_false_iff_not, beq_iff_eq, bne_iff_ne, beq_eq_false_iff_ne, bne_eq_false_iff_eq, Bool.not_eq_true', Bool.not_eq_false', Bool.not_eq_eq_eq_not, Bool.not_true, Bool.not_false, ne_eq, Decidable.not_not, Int.not_lt, Int.not_le, gt_iff_lt, ge_iff_le] at g6_6
      refine L_no rfl rfl rfl rfl ?_
      refine L_no rfl rfl rfl rfl ?_
      refine L_no rfl rfl rfl rfl ?_
      refine WPL.imp ((Imp.pk (Δ := [sl false a (s.1.map u8), sl false (cut a c 56 (56 * 1)) (((s.1.drop 56).take (60 - 56)).map u8), cells true bR 0 [.int .u32 0, .int .u32 0, .slice none 0 0]])).trans (Imp.cutRo hs (l := 60) (k := 64) (m := c) (by omega) (by omega) (by omega))) ?_
      refine L_no rfl rfl rfl rfl ?_
      refine L_no rfl rfl rfl rfl ?_
      refine L_no rfl rfl rfl rfl ?_
      refine stp ?_
      first | exact WPL.jn rfl rfl sbb | exact WPL.jnI rfl rfl sbb Imp.pk
    refine stp ?_
    refine WPL.nil ?_
    refine WPC.imp ((Imp.pk (Δ := [sl false a (s.1.map u8), cells true bR 0 [.int .u32 0, .int .u32 0, .slice none 0 0]])).trans ((i52 _).trans ((Imp.pk (Δ := [sl false a (s.1.map u8), sl false a ((s.1.take 52).map u8), cells true bR 0 [.int .u32 0, .int .u32 0, .slice none 0 0]])).trans (Imp.cutRo hs (l := 52) (k := 56) (m := c) (by omega) (by omega) (by omega))))) ?_
    refine WPC.seqQ mixed (by kernel_rfl) ?_
    refine stq ?_
    refine WPQ.cons (q_sliceHi (j := 52) sl_sl_uint8 rfl rfl (by omega)) rfl ?_
    refine WPQ.call (c_call Tryd.func71 rfl rfl rfl) (c_RSum (p := false) s52 (by omega)) pkk rfl ?_
    have hcl := crc_lt (s.1.take 52)
    iterate 2 refine stq ?_
    refine WPQ.cons (q_sliceLH (l := 52) (j := 56) sl_sl_uint8 rfl rfl rfl (by omega) (by omega)) rfl ?_
    refine WPQ.call (c_call Tryd.func48 rfl rfl rfl) (c_Of01 (p := false) (hs.cutB (l := 52) (k := 56) (m := c) (by omega) (by omega) (by omega)) (by omega)) pkk rfl ?_
    rw [show ofLE ((s.1.drop 52).take (56 - 52)) = n52 from hn52]
    iterate 2 refine stq ?_
    refine WPQ.nil ?_
    refine WPC.seq ?_
    refine WPC.seqR ?_
    iterate 3 refine stp ?_
    apply WPL.joinO (e' := [(0, _), (2, _), (3, _), (4, _), (5, _)]) 48 51 3 rfl
    · intro g8_2
      try simp only [decide_eq_true_eq, decide_eq_false_iff_not, beq_iff_eq, bne_iff_ne, beq_eq_false_iff_ne, bne_eq_false_iff_eq, Bool.not_eq_true', Bool.not_eq_false', Bool.not_eq_eq_eq_not, Bool.not_true, Bool.not_false, ne_eq, Decidable.not_not, Int.not_lt, Int.not_le, gt_iff_lt, ge_iff_le] at g8_2
      refine L_no rfl rfl rfl rfl ?_
      refine L_no rfl rfl rfl rfl ?_
      refine stp ?_
      first | exact WPL.jn rfl rfl sbb | exact WPL.jnI rfl rfl sbb Imp.pk
    · intro g8_2
      try simp only [decide_eq_true_eq, decide_eq_false_iff_not, beq_iff_eq, bne_iff_ne, beq_eq_false_iff_ne, bne_eq_false_iff_eq, Bool.not_eq_true', Bool.not_eq_false', Bool.not_eq_eq_eq_not, Bool.not_true, Bool.not_false, ne_eq, Decidable.not_not, Int.not_lt, Int.not_le, gt_iff_lt, ge_iff_le] at g8_2
      iterate 2 refine stpY rfl rfl ?_
      refine stp ?_
      first | exact WPL.jn rfl rfl sbb | exact WPL.jnI rfl rfl sbb Imp.pk
    refine stp ?_
    apply WPL.joinO (e' := [(0, _), (2, _), (3, _), (4, _), (5, _)]) 52 55 3 rfl
    · intro g8_6
      try simp only [decide_eq_true_eq, decide_eq_false_iff_not, beq_iff_eq, bne_iff_ne, beq_eq_false_iff_ne, bne_eq_false_iff_eq, Bool.not_eq_true', Bool.not_eq_false', Bool.not_eq_eq_eq_not, Bool.not_true, Bool.not_false, ne_eq, Decidable.not_not, Int.not_lt, Int.not_le, gt_iff_lt, ge_iff_le] at g8_6
      refine L_no rfl rfl rfl rfl ?_
      refine L_no rfl rfl rfl rfl ?_
      refine stp ?_
      first | exact WPL.jn rfl rfl sbb | exact WPL.jnI rfl rfl sbb Imp.pk
    · intro g8_6
      try simp only [decide_eq_true_eq, decide_eq_false_iff_not, beq_iff_eq, bne_iff_ne, beq_eq_false_iff_ne, bne_eq_false_iff_eq, Bool.not_eq_true', Bool.not_eq_false', Bool.not_eq_eq_eq_not, Bool.not_true, Bool.not_false, ne_eq, Decidable.not_not, Int.not_lt, Int.not_le, gt_iff_lt, ge_iff_le] at g8_6
      iterate 2 refine stpY rfl rfl ?_
      refine stp ?_
      first | exact WPL.jn rfl rfl sbb | exact WPL.jnI rfl rfl sbb Imp.pk
    refine stp ?_
    apply WPL.joinO (e' := [(0, _), (2, _), (3, _), (4, _), (5, _)]) 56 59 3 rfl
    · intro g8_10
      try simp only [decide_eq_true_eq, decide_eq_false_iff_not, beq_iff_eq, bne_iff_ne, beq_eq_false_iff_ne, bne_eq_false_iff_eq, Bool.not_eq_true', Bool.not_eq_false', Bool.not_eq_eq_eq_not, Bool.not_true, Bool.not_false, ne_eq, Decidable.not_not, Int.not_lt, Int.not_le, gt_iff_lt, ge_iff_le] at g8_10
      refine L_no rfl rfl rfl rfl ?_
      refine L_no rfl rfl rfl rfl ?_
      refine stp ?_
      first | exact WPL.jn rfl rfl sbb | exact WPL.jnI rfl rfl sbb Imp.pk
    · intro g8_10
      try simp only [decide_eq_true_eq, decide_eq_false_iff_not, beq_iff_eq, bne_iff_ne, beq_eq_false_iff_ne, bne_eq_false_iff_eq, Bool.not_eq_true', Bool.not_eq_false', Bool.not_eq_eq_eq_not, Bool.not_true, Bool.not_false, ne_eq, Decidable.not_not, Int.not_lt, Int.not_le, gt_iff_lt, ge_iff_le] at g8_10
      iterate 2 refine stpY rfl rfl ?_
      refine stp ?_
      first | exact WPL.jn rfl rfl sbb | exact WPL.jnI rfl rfl sbb Imp.pk
    refine WPL.nil ?_
    refine WPC.cond rfl (fun h1 => ?_) (fun h1 => ?_)
    · have hpn : parse s.1 = none := by unfold parse; rw [hn0, hn4, hn56, hn60, hn52, hn8, if_pos]; simp only [Bool.or_eq_true, Bool.not_eq_true', Bool.and_eq_false_iff, beq_eq_false_iff_ne, decide_eq_true_eq, beq_iff_eq, decide_eq_false_iff_not, ne_eq] at h1 ⊢; omega
      obtain ⟨e1, e2, e3⟩ := parse_none hpn
      refine WPC.seqR ?_
      refine L_s (q_build (cs := [_, _, _]) pl_pursuivantref05_Record rfl rfl) rfl ?_
      refine sto ?_
      refine WPL.nil ?_
      refine WPC.ret ?_
      refine thenQ_r ?_
      rw [e1, e2, e3]
      exact endR_r rfl (.cellN (us := [_, _, _]) rfl ld_pursuivantref05_Record mm rfl rfl .nil) ((Imp.slEmpty (p := false) (a := none)).trans Imp.pk) ⟨none, 0, rfl, ⟨rfl, Nat.le_refl _, .inl rfl⟩, rfl⟩
    · have hps : parse s.1 = some (n0, n4, part s.1 9 x8.val) := by unfold parse; rw [hn0, hn4, hn56, hn60, hn52, hn8, if_neg]; simp only [Bool.or_eq_false_iff, Bool.not_eq_false', Bool.and_eq_true, beq_iff_eq, decide_eq_true_eq, beq_eq_false_iff_ne, decide_eq_false_iff_not, ne_eq] at h1 ⊢; omega
      obtain ⟨e1, e2, e3⟩ := parse_some hps
      have h43 : x8.val ≤ 43 := by have := parse_lt hps; have h2 : (part s.1 9 x8.val).length = min x8.val (64 - 9) := by simp [part, hsl]
                                   omega
      have hlb : (pB s.1).length = x8.val := by rw [e3]; simp [part, hsl]; omega
      have hsoP := hs.cutB (l := 9) (k := 9 + x8.val) (m := c) (by omega) (by omega) (by omega)
      have hciP := fun Γ => Imp.cutRo hs (l := 9) (k := 9 + x8.val) (m := c) (Γ := Γ) (by omega) (by omega) (by omega)
      rw [Nat.add_sub_cancel_left, show (s.1.drop 9).take x8.val = pB s.1 from e3.symm] at hsoP
      simp only [Nat.add_sub_cancel_left, show (s.1.drop 9).take x8.val = pB s.1 from e3.symm] at hciP
      refine WPC.skip ?_
      refine thenQ_n ?_
      refine WPC.seqR ?_
      iterate 4 refine stp ?_
      refine L_s (q_addN (a := 9) (b := x8.val) rfl rfl (by omega)) rfl ?_
      refine L_s (q_sliceLH (l := 9) (j := 9 + x8.val) sl_sl_uint8 rfl rfl rfl (by omega) (by omega)) rfl ?_
      rw [Nat.add_sub_cancel_left]
      refine L_s (q_build (cs := [_, _, _]) pl_pursuivantref05_Record rfl rfl) rfl ?_
      refine sto ?_
      refine WPL.nil ?_
      refine WPC.ret ?_
      rw [← hlb] at hsoP
      exact endR_r rfl (.cellN (us := [_, _, _]) rfl ld_pursuivantref05_Record mm rfl rfl .nil) (((Imp.pk (Δ := [sl false a (s.1.map u8)])).trans (hciP _)).trans (Imp.pk (Δ := [sl false (cut a c 9 (9 * 1)) ((pB s.1).map u8)]))) ⟨_, _, by rw [e1, e2, hlb]; rfl, hsoP, rfl⟩

end Go.Sl
/- Walks: references, slots. -/
namespace Go.Sl
open Go Go.RowKit Go.Proofs
set_option linter.unusedSimpArgs false
set_option linter.unusedVariables false
attribute [local irreducible] faB szB ldB zB zL slB mkB arB plB intB cells objc star stars buf slv grp whole Sat WPC WPL WPA WPO WPQ Trip Q1 E1 S1 C1

theorem sok_nil : Sok 1 none ([] : List By).length 0 (([] : List By).map u8) := ⟨rfl, Nat.le_refl _, .inl rfl⟩

theorem c_RLast {b at_ : Nat} {d : DK} (hok : d.ok) (hpl : d.pend.length < 1000000) (hvis : d.seen = flush d.sure d.pend) (ha : at_ + 1 < d.seen.length) : Trip Tryd.prog 47 #[.pointer (some ⟨b, 0, none⟩), .int .i64 (at_ : Int)] [rdisk b d] fun r Δ => ∃ (a : Option Addr) (c w : Nat), r = .tuple #[.agg #[.int .u32 ((last d (at_ : Int)).seq : Int), .int .u32 0, .slice a (last d (at_ : Int)).b.length c], .int .i64 (w : Int)] ∧ (0 < (last d (at_ : Int)).seq → (w : Int) = (last d (at_ : Int)).at_) ∧ Sok 1 a (last d (at_ : Int)).b.length c ((last d (at_ : Int)).b.map u8) ∧ Δ = [rdisk b d, sl false a ((last d (at_ : Int)).b.map u8)] := by
  obtain ⟨l1, l2, l3⟩ := last_q ha
  have hdn := hok.n
  have hS1 := pS_lt (ring d.seen at_).1
  have hS2 := pS_lt (ring d.seen (at_ + 1)).1
  refine Trip.start 47 [.cell 4 93, .tmp 5] [(0, .pointer (some ⟨b, 0, none⟩)), (1, .int .i64 (at_ : Int))] Tryd.func47 rfl Tryd.ntmps47 rfl ⟨rfl, rfl, trivial⟩ rfl ?_
  refine WPC.seqR ?_
  refine nw fun bR => ?_
  refine stp ?_
  refine WPL.nil ?_
  refine WPC.seqR ?_
  iterate 2 refine stp ?_
  refine kall rfl (c_RRead hok hpl (by omega) hvis) ?_
  rintro _ _ ⟨a1, c1, rfl, hs1, rfl⟩
  iterate 5 refine stp ?_
  refine WPL.nil ?_
  refine WPC.seqR ?_
  iterate 3 refine stp ?_
  refine kall rfl (c_RRead (i := at_ + 1) hok hpl ha hvis) ?_
  rintro _ _ ⟨a2, c2, rfl, hs2, rfl⟩
  iterate 5 refine stp ?_
  refine WPL.nil ?_
  refine WPC.seqR ?_
  refine stp ?_
  refine kall rfl (c_RParse (ring d.seen at_) hs1) ?_
  rintro _ _ ⟨a3, c3, rfl, hs3, rfl⟩
  refine nw fun bA => ?_
  refine sto ?_
  refine WPL.nil ?_
  refine WPC.seqR ?_
  refine stp ?_
  refine kall rfl (c_RParse (ring d.seen (at_ + 1)) hs2) ?_
  rintro _ _ ⟨a4, c4, rfl, hs4, rfl⟩
  refine nw fun bB => ?_
  refine sto ?_
  refine WPL.nil ?_
  refine WPC.prune [(1, _), (4, _), (5, _), (10, _), (11, _)] sbb ?_
  refine WPC.seq ?_
  refine WPC.seqR ?_
  iterate 3 refine stp ?_
  refine WPL.nil ?_
  refine WPC.midS (fun e Γ => ∃ (a5 : Option Addr) (c5 : Nat), Sok 1 a5 (qB (ring d.seen at_)).length c5 ((qB (ring d.seen at_)).map u8) ∧ e = [(1, .int .i64 (at_ : Int)), (4, .pointer (some ⟨bR, 0, none⟩)), (10, .pointer (some ⟨bA, 0, none⟩)), (11, .pointer (some ⟨bB, 0, none⟩))] ∧ Γ = [cells true bA 0 [.int .u32 (qS (ring d.seen at_) : Int), .int .u32 0, .slice a5 (qB (ring d.seen at_)).length c5], sl false a5 ((qB (ring d.seen at_)).map u8), cells true bB 0 [.int .u32 (pS (ring d.seen (at_ + 1)).1 : Int), .int .u32 (pE (ring d.seen (at_ + 1)).1 : Int), .slice a4 (pB (ring d.seen (at_ + 1)).1).length c4], sl false a4 ((pB (ring d.seen (at_ + 1)).1).map u8), cells true bR 0 [.int .u32 0, .int .u32 0, .slice none 0 0], rdisk b d]) ?_ ?_
  · refine WPC.cond rfl (fun h0 => ?_) (fun h0 => ?_)
    · have hE : pE (ring d.seen at_).1 ≠ 0 := by simp at h0; omega
      have e1 : qS (ring d.seen at_) = 0 := by unfold qS; rw [if_neg hE]
      have e2 : qB (ring d.seen at_) = [] := by unfold qB; rw [if_neg hE]
      refine WPC.region ?_
      refine L_s (q_build (cs := [_, _, _]) pl_pursuivantref05_Record rfl rfl) rfl ?_
      refine sto ?_
      refine WPL.imp (Imp.slEmpty (p := false) (a := none)) ?_
      refine WPL.nil ?_
      refine thenQ_n ?_
      exact ⟨rfl, _, _, ⟨none, 0, by rw [e2]; exact sok_nil, rfl, by rw [e1, e2]⟩, sbb, Imp.pk⟩
    · have hE : pE (ring d.seen at_).1 = 0 := by simp at h0; omega
      have e1 : qS (ring d.seen at_) = pS (ring d.seen at_).1 := by unfold qS; rw [if_pos hE]
      have e2 : qB (ring d.seen at_) = pB (ring d.seen at_).1 := by unfold qB; rw [if_pos hE]
      rw [hE]
      refine WPC.skip ?_
      refine thenQ_n ?_
      exact ⟨rfl, _, _, ⟨a3, c3, by rw [e2]; exact hs3, rfl, by rw [e1, e2]⟩, sbb, Imp.pk⟩
  · rintro e Γ ⟨a5, c5, hs5, rfl, rfl⟩
    refine WPC.seq ?_
    refine WPC.seqR ?_
    iterate 3 refine stp ?_
    refine WPL.nil ?_
    refine WPC.midS (fun e Γ => ∃ (a6 : Option Addr) (c6 : Nat), Sok 1 a6 (qB (ring d.seen (at_ + 1))).length c6 ((qB (ring d.seen (at_ + 1))).map u8) ∧ e = [(1, .int .i64 (at_ : Int)), (4, .pointer (some ⟨bR, 0, none⟩)), (10, .pointer (some ⟨bA, 0, none⟩)), (11, .pointer (some ⟨bB, 0, none⟩))] ∧ Γ = [cells true bA 0 [.int .u32 (qS (ring d.seen at_) : Int), .int .u32 0, .slice a5 (qB (ring d.seen at_)).length c5], sl false a5 ((qB (ring d.seen at_)).map u8), cells true bB 0 [.int .u32 (qS (ring d.seen (at_ + 1)) : Int), .int .u32 0, .slice a6 (qB (ring d.seen (at_ + 1))).length c6], sl false a6 ((qB (ring d.seen (at_ + 1))).map u8), cells true bR 0 [.int .u32 0, .int .u32 0, .slice none 0 0], rdisk b d]) ?_ ?_
    · refine WPC.cond rfl (fun h1 => ?_) (fun h1 => ?_)
      · have hE : pE (ring d.seen (at_ + 1)).1 ≠ 0 := by simp at h1; omega
        have e1 : qS (ring d.seen (at_ + 1)) = 0 := by unfold qS; rw [if_neg hE]
        have e2 : qB (ring d.seen (at_ + 1)) = [] := by unfold qB; rw [if_neg hE]
        refine WPC.region ?_
        refine L_s (q_build (cs := [_, _, _]) pl_pursuivantref05_Record rfl rfl) rfl ?_
        refine sto ?_
        refine WPL.imp (Imp.slEmpty (p := false) (a := none)) ?_
        refine WPL.nil ?_
        refine thenQ_n ?_
        exact ⟨rfl, _, _, ⟨none, 0, by rw [e2]; exact sok_nil, rfl, by rw [e1, e2]⟩, sbb, Imp.pk⟩
      · have hE : pE (ring d.seen (at_ + 1)).1 = 0 := by simp at h1; omega
        have e1 : qS (ring d.seen (at_ + 1)) = pS (ring d.seen (at_ + 1)).1 := by unfold qS; rw [if_pos hE]
        have e2 : qB (ring d.seen (at_ + 1)) = pB (ring d.seen (at_ + 1)).1 := by unfold qB; rw [if_pos hE]
        rw [hE]
        refine WPC.skip ?_
        refine thenQ_n ?_
        exact ⟨rfl, _, _, ⟨a4, c4, by rw [e2]; exact hs4, rfl, by rw [e1, e2]⟩, sbb, Imp.pk⟩
    · rintro e Γ ⟨a6, c6, hs6, rfl, rfl⟩
      refine WPC.seq ?_
      refine WPC.seqR ?_
      iterate 5 refine stp ?_
      refine WPL.nil ?_
      refine WPC.cond rfl (fun h2 => ?_) (fun h2 => ?_)
      · have hlt : qS (ring d.seen at_) < qS (ring d.seen (at_ + 1)) := by simp at h2; omega
        rw [if_pos hlt] at l1 l2 l3
        refine WPC.seqR ?_
        iterate 3 refine stp ?_
        refine sto ?_
        refine stp ?_
        refine WPL.nil ?_
        refine WPC.ret ?_
        refine thenQ_r ?_
        rw [l1, l2] at *
        exact endR_r rfl (.cellN (us := [_, _, _]) rfl ld_pursuivantref05_Record mm rfl rfl (.tmp rfl .nil)) Imp.pk ⟨a6, c6, at_ + 1, rfl, fun h => (l3 h).symm, hs6, rfl⟩
      · have hlt : ¬ qS (ring d.seen at_) < qS (ring d.seen (at_ + 1)) := by simp at h2; omega
        rw [if_neg hlt] at l1 l2 l3
        refine WPC.skip ?_
        refine thenQ_n ?_
        refine WPC.seqR ?_
        iterate 2 refine stp ?_
        refine sto ?_
        refine stp ?_
        refine WPL.nil ?_
        refine WPC.ret ?_
        rw [l1, l2] at *
        exact endR_r rfl (.cellN (us := [_, _, _]) rfl ld_pursuivantref05_Record mm rfl rfl (.tmp rfl .nil)) Imp.pk ⟨a5, c5, at_, rfl, fun h => (l3 h).symm, hs5, rfl⟩

theorem c_RRight {b at_ : Nat} {d : DK} (hok : d.ok) (ha : at_ + 1 < d.seen.length) : Trip Tryd.prog 81 #[.pointer (some ⟨b, 0, none⟩), .int .i64 (at_ : Int)] [rdisk b d] fun r Δ => r = .bool true ∧ Δ = [rdisk b d] := by
  refine rdisk_open fun L hL => ?_
  have hsm := hok.same
  have hdn := hok.n
  refine Trip.start 14 [.tmp 4] [(0, .pointer (some ⟨b, 0, none⟩)), (1, .int .i64 (at_ : Int))] Tryd.func81 rfl Tryd.ntmps81 rfl ⟨rfl, rfl, trivial⟩ rfl ?_
  refine WPC.seqR ?_
  refine stp ?_
  refine WPL.nil ?_
  refine WPC.seqR ?_
  iterate 3 refine stp ?_
  apply WPL.joinA (e' := [(4, _)]) 7 13 6 rfl
  · intro g1_2
    try simp only [decide_eq_true_eq, decide_eq_false_iff_not, beq_iff_eq, bne_iff_ne, beq_eq_false_iff_ne, bne_eq_false_iff_eq, Bool.not_eq_true', Bool.not_eq_false', Bool.not_eq_eq_eq_not, Bool.not_true, Bool.not_false, ne_eq, Decidable.not_not, Int.not_lt, Int.not_le, gt_iff_lt, ge_iff_le] at g1_2
    iterate 2 refine stpY rfl rfl ?_
    refine L_eyes rfl rfl rfl (C1.call (c_call Tryd.func46 rfl rfl rfl) (c_RLen (N := d.sure.length) (L := L) (by omega)) pkk rfl ?_)
    rintro _ _ ⟨rfl, rfl⟩
    refine WPL.putS ?_
    iterate 2 refine stpY rfl rfl ?_
    refine stp ?_
    first | exact WPL.jn rfl rfl sbb | exact WPL.jnI rfl rfl sbb Imp.pk
  · intro g1_2
    try simp only [decide_eq_true_eq, decide_eq_false_iff_not, beq_iff_eq, bne_iff_ne, beq_eq_false_iff_ne, bne_eq_false_iff_eq, Bool.not_eq_true', Bool.not_eq_false', Bool.not_eq_eq_eq_not, Bool.not_true, Bool.not_false, ne_eq, Decidable.not_not, Int.not_lt, Int.not_le, gt_iff_lt, ge_iff_le] at g1_2
    refine L_no rfl rfl rfl rfl ?_
    refine L_no rfl rfl rfl rfl ?_
    refine L_no rfl rfl rfl rfl ?_
    refine L_no rfl rfl rfl rfl ?_
    refine L_no rfl rfl rfl rfl ?_
    refine stp ?_
    first | exact WPL.jn rfl rfl sbb | exact WPL.jnI rfl rfl sbb Imp.pk
  refine stp ?_
  refine WPL.nil ?_
  refine WPC.ret ?_
  exact endR_r rfl (.tmp rfl .nil) ((Imp.pk).trans (rdisk_close L hL)) ⟨by simp only [packV]; congr 1; simp; omega, rfl⟩

theorem c_RPut {b at_ c : Nat} {d : DK} {a : Option Addr} {p : Bool} {xs : List By} (hok : d.ok) (hpl : d.pend.length < 1000000) (hvis : d.seen = flush d.sure d.pend) (hup : Up d) (ha : at_ + 1 < d.seen.length) (hq : (last d (at_ : Int)).seq < 4294967295) (hs : Sok 1 a xs.length c (xs.map u8)) (hx : xs.length ≤ 43) : Trip Tryd.prog 79 #[.pointer (some ⟨b, 0, none⟩), .int .i64 (at_ : Int), .slice a xs.length c] [rdisk b d, sl p a (xs.map u8)] fun r Δ => r = .int .i64 0 ∧ Δ = [rdisk b (d.sync.put (otherI d at_) (stampS ((last d (at_ : Int)).seq + 1) 0 xs))] := by
  have hat := last_at d (at_ : Int)
  have hdn := hok.n
  have hoth : otherI d at_ = at_ ∨ otherI d at_ = at_ + 1 := by unfold otherI; split <;> omega
  refine Trip.start 55 [.tmp 6] [(0, .pointer (some ⟨b, 0, none⟩)), (1, .int .i64 (at_ : Int)), (2, .slice a xs.length c)] Tryd.func79 rfl Tryd.ntmps79 rfl ⟨rfl, rfl, rfl, trivial⟩ rfl ?_
  refine WPC.seqR ?_
  refine stp ?_
  refine WPL.nil ?_
  refine WPC.seqR ?_
  iterate 2 refine stp ?_
  refine kall rfl (c_RRight hok ha) ?_
  rintro _ _ ⟨rfl, rfl⟩
  refine stp ?_
  refine WPL.nil ?_
  refine WPC.seq ?_
  refine WPC.seqR ?_
  iterate 2 refine stp ?_
  refine WPL.nil ?_
  refine WPC.cond rfl (fun h0 => ?_) (fun h0 => ?_)
  · try simp only [decide_eq_true_eq, decide_eq_false_iff_not, beq_iff_eq, bne_iff_ne, beq_eq_false_iff_ne, bne_eq_false_iff_eq, Bool.not_eq_true', Bool.not_eq_false', Bool.not_eq_eq_eq_not, Bool.not_true, Bool.not_false, ne_eq, Decidable.not_not, Int.not_lt, Int.not_le, gt_iff_lt, ge_iff_le] at h0
    simp at h0
  · skip
    refine WPC.skip ?_
    refine thenQ_n ?_
    refine WPC.seq ?_
    refine WPC.seqR ?_
    iterate 3 refine stp ?_
    refine WPL.nil ?_
    refine WPC.cond rfl (fun h1 => ?_) (fun h1 => ?_)
    · try simp only [decide_eq_true_eq, decide_eq_false_iff_not, beq_iff_eq, bne_iff_ne, beq_eq_false_iff_ne, bne_eq_false_iff_eq, Bool.not_eq_true', Bool.not_eq_false', Bool.not_eq_eq_eq_not, Bool.not_true, Bool.not_false, ne_eq, Decidable.not_not, Int.not_lt, Int.not_le, gt_iff_lt, ge_iff_le] at h1
      omega
    · skip
      refine WPC.skip ?_
      refine thenQ_n ?_
      refine WPC.seqR ?_
      iterate 2 refine stp ?_
      refine kall rfl (c_RLast hok hpl hvis ha) ?_
      rintro _ _ ⟨a1, c1, w, rfl, hw, hs1, rfl⟩
      iterate 3 refine stp ?_
      refine nw fun bR => ?_
      refine sto ?_
      refine stp ?_
      refine WPL.nil ?_
      refine WPC.seq ?_
      refine WPC.seqR ?_
      iterate 3 refine stp ?_
      refine WPL.nil ?_
      refine WPC.cond rfl (fun h2 => ?_) (fun h2 => ?_)
      · try simp only [decide_eq_true_eq, decide_eq_false_iff_not, beq_iff_eq, bne_iff_ne, beq_eq_false_iff_ne, bne_eq_false_iff_eq, Bool.not_eq_true', Bool.not_eq_false', Bool.not_eq_eq_eq_not, Bool.not_true, Bool.not_false, ne_eq, Decidable.not_not, Int.not_lt, Int.not_le, gt_iff_lt, ge_iff_le] at h2
        omega
      · skip
        refine WPC.skip ?_
        refine thenQ_n ?_
        refine WPC.seqR ?_
        iterate 2 refine stp ?_
        refine WPL.nil ?_
        refine WPC.prune [(0, _), (1, _), (2, _), (6, _), (8, _), (9, _), (10, _)] sbb ?_
        refine WPC.seq ?_
        refine WPC.seqR ?_
        iterate 4 refine stp ?_
        apply WPL.joinA (e' := [(0, _), (1, _), (2, _), (6, _), (8, _), (10, _)]) 34 38 4 rfl
        · intro g10_3
          try simp only [decide_eq_true_eq, decide_eq_false_iff_not, beq_iff_eq, bne_iff_ne, beq_eq_false_iff_ne, bne_eq_false_iff_eq, Bool.not_eq_true', Bool.not_eq_false', Bool.not_eq_eq_eq_not, Bool.not_true, Bool.not_false, ne_eq, Decidable.not_not, Int.not_lt, Int.not_le, gt_iff_lt, ge_iff_le] at g10_3
          iterate 3 refine stpY rfl rfl ?_
          refine stp ?_
          first | exact WPL.jn rfl rfl sbb | exact WPL.jnI rfl rfl sbb Imp.pk
        · intro g10_3
          try simp only [decide_eq_true_eq, decide_eq_false_iff_not, beq_iff_eq, bne_iff_ne, beq_eq_false_iff_ne, bne_eq_false_iff_eq, Bool.not_eq_true', Bool.not_eq_false', Bool.not_eq_eq_eq_not, Bool.not_true, Bool.not_false, ne_eq, Decidable.not_not, Int.not_lt, Int.not_le, gt_iff_lt, ge_iff_le] at g10_3
          refine L_no rfl rfl rfl rfl ?_
          refine L_no rfl rfl rfl rfl ?_
          refine L_no rfl rfl rfl rfl ?_
          refine stp ?_
          first | exact WPL.jn rfl rfl sbb | exact WPL.jnI rfl rfl sbb Imp.pk
        refine WPL.nil ?_
        refine WPC.midS (fun e Γ => e = [(0, .pointer (some ⟨b, 0, none⟩)), (1, .int .i64 (at_ : Int)), (2, .slice a xs.length c), (8, .pointer (some ⟨bR, 0, none⟩)), (10, .int .i64 (otherI d at_ : Int))] ∧ Γ = [cells true bR 0 [.int .u32 ((last d (at_ : Int)).seq : Int), .int .u32 0, .slice a1 (last d (at_ : Int)).b.length c1], rdisk b d, sl p a (xs.map u8)]) ?_ ?_
        · refine WPC.cond rfl (fun h3 => ?_) (fun h3 => ?_)
          · have ho : otherI d at_ = at_ + 1 := by
              simp only [Bool.and_eq_true, decide_eq_true_eq, beq_iff_eq] at h3
              unfold otherI; rw [if_pos]; have := hw (by omega); omega
            refine WPC.region ?_
            iterate 3 refine stp ?_
            refine WPL.nil ?_
            refine thenQ_n ?_
            exact ⟨rfl, _, _, ⟨by rw [ho], rfl⟩, sbb, Imp.pk⟩
          · have ho : otherI d at_ = at_ := by
              unfold otherI; split
              · rename_i he
                exfalso
                have hcur := last_cur ha
                rcases Nat.eq_zero_or_pos (last d (at_ : Int)).seq with h | h
                · obtain ⟨l1, -, -⟩ := last_q ha
                  have hl := last_zero ha h
                  omega
                · have := hw h
                  simp at h3
                  have := h3 h
                  omega
              · rfl
            refine WPC.skip ?_
            refine thenQ_n ?_
            exact ⟨rfl, _, _, ⟨by rw [ho], rfl⟩, sbb, Imp.pk⟩
        · rintro e Γ ⟨rfl, rfl⟩
          refine WPC.seqR ?_
          iterate 2 refine stp ?_
          refine L_s (q_addNN (a := (last d (at_ : Int)).seq) (b := 1) rfl rfl rfl (show _ < 4294967296 by omega)) rfl ?_
          refine stp ?_
          refine kall rfl (c_RStamp (epoch := 0) hs (by omega) (by omega) hx) ?_
          rintro _ _ ⟨a2, c2, rfl, hs2, rfl⟩
          iterate 5 refine stp ?_
          refine WPL.nil ?_
          refine WPC.seqR ?_
          refine stp ?_
          refine kall rfl (c_RSync hok hpl hup) ?_
          rintro _ _ ⟨rfl, rfl⟩
          refine WPL.nil ?_
          refine WPC.seqR ?_
          iterate 3 refine stp ?_
          refine kall rfl (show Trip _ _ #[_, _, .slice a2 64 c2] _ _ from by
              have hsl := stamp_length (seq := (last d (at_ : Int)).seq + 1) (epoch := 0) hx
              have h := c_RWrite (b := b) (i := otherI d at_) (d := d.sync) (a := a2) (c := c2) (p := false) (xs := stamp ((last d (at_ : Int)).seq + 1) 0 xs) hok.sync (by have := sync_pend d; omega) (by rw [sync_len]; omega) (by rw [hsl]; exact hs2) (by omega)
              rw [hsl] at h
              exact h) ?_
          rintro _ _ ⟨rfl, rfl⟩
          refine stp ?_
          refine WPL.nil ?_
          refine WPC.ret ?_
          exact endR_r rfl (.tmp rfl .nil) Imp.pk ⟨rfl, rfl⟩

theorem c_RSave {b at_ c : Nat} {d : DK} {a : Option Addr} {p : Bool} {xs : List By} (hok : d.ok) (hpl : d.pend.length < 1000000) (hvis : d.seen = flush d.sure d.pend) (hup : Up d) (ha : at_ + 1 < d.seen.length) (hq : (last d (at_ : Int)).seq < 4294967295) (hs : Sok 1 a xs.length c (xs.map u8)) (hx : xs.length ≤ 43) : Trip Tryd.prog 73 #[.pointer (some ⟨b, 0, none⟩), .int .i64 (at_ : Int), .slice a xs.length c] [rdisk b d, sl p a (xs.map u8)] fun r Δ => r = .int .i64 0 ∧ Δ = [rdisk b (save d (at_ : Int) xs).1] := by
  have hse := save_eq hup ha hq hx
  have hpe := put_eq hup ha hq hx
  have hok2 := put_ok hok (at_ : Int) xs
  have hpp := put_pend d (at_ : Int) xs
  rw [hpe] at hok2 hpp
  simp only at hok2 hpp
  have hp1 : (d.sync.put (otherI d at_) (stampS ((last d (at_ : Int)).seq + 1) 0 xs)).pend.length = 1 := by rw [sync_up hup]; rfl
  rw [hse]
  refine Trip.start 21 [.tmp 6] [(0, .pointer (some ⟨b, 0, none⟩)), (1, .int .i64 (at_ : Int)), (2, .slice a xs.length c)] Tryd.func73 rfl Tryd.ntmps73 rfl ⟨rfl, rfl, rfl, trivial⟩ rfl ?_
  refine WPC.seqR ?_
  refine stp ?_
  refine WPL.nil ?_
  refine WPC.seqR ?_
  iterate 3 refine stp ?_
  refine kall rfl (c_RPut hok hpl hvis hup ha hq hs hx) ?_
  rintro _ _ ⟨rfl, rfl⟩
  refine stp ?_
  refine WPL.nil ?_
  refine WPC.seq ?_
  refine WPC.seqR ?_
  iterate 2 refine stp ?_
  refine WPL.nil ?_
  refine WPC.cond rfl (fun h0 => ?_) (fun h0 => ?_)
  · try simp only [decide_eq_true_eq, decide_eq_false_iff_not, beq_iff_eq, bne_iff_ne, beq_eq_false_iff_ne, bne_eq_false_iff_eq, Bool.not_eq_true', Bool.not_eq_false', Bool.not_eq_eq_eq_not, Bool.not_true, Bool.not_false, ne_eq, Decidable.not_not, Int.not_lt, Int.not_le, gt_iff_lt, ge_iff_le] at h0
    simp at h0
  · skip
    refine WPC.skip ?_
    refine thenQ_n ?_
    refine WPC.seqR ?_
    refine stp ?_
    refine kall rfl (c_RSync hok2 (by omega) (show Up (d.sync.put (otherI d at_) (stampS ((last d (at_ : Int)).seq + 1) 0 xs)) from hup.sync)) ?_
    rintro _ _ ⟨rfl, rfl⟩
    refine WPL.nil ?_
    refine WPC.seq ?_
    refine WPC.seqR ?_
    refine rdisk_openL fun L2 hL2 => ?_
    iterate 4 refine stp ?_
    refine WPL.nil ?_
    refine WPC.cond rfl (fun h1 => ?_) (fun h1 => ?_)
    · try simp only [decide_eq_true_eq, decide_eq_false_iff_not, beq_iff_eq, bne_iff_ne, beq_eq_false_iff_ne, bne_eq_false_iff_eq, Bool.not_eq_true', Bool.not_eq_false', Bool.not_eq_eq_eq_not, Bool.not_true, Bool.not_false, ne_eq, Decidable.not_not, Int.not_lt, Int.not_le, gt_iff_lt, ge_iff_le] at h1
      cases h1
    · skip
      refine WPC.skip ?_
      refine thenQ_n ?_
      refine WPC.seqR ?_
      refine stp ?_
      refine WPL.nil ?_
      refine WPC.ret ?_
      exact endR_r rfl (.tmp rfl .nil) ((Imp.pk).trans (rdisk_close L2 hL2)) ⟨rfl, rfl⟩

end Go.Sl
/- Walks: references, journals. -/
namespace Go.Sl
open Go Go.RowKit Go.Proofs
set_option linter.unusedSimpArgs false
set_option linter.unusedVariables false
attribute [local irreducible] faB szB ldB zB zL slB mkB arB plB intB cells objc star stars buf slv grp whole Sat WPC WPL WPA WPO WPQ Trip Q1 E1 S1 C1

theorem c_RPlace {b db s : Nat} {j : JN} {L : RJL} (hs : s < 18446744073709551616) (hn : 1 ≤ j.n ∧ j.n ≤ 100) (ha : j.at_ ≤ 1000) : Trip Tryd.prog 50 #[.pointer (some ⟨b, 0, none⟩), .int .u64 (s : Int)] [cells true b 0 (rjC db j L)] fun r Δ => r = .int .i64 (j.place s : Int) ∧ Δ = [cells true b 0 (rjC db j L)] := by
  have hm := Nat.mod_lt s (show 0 < j.n by omega)
  refine Trip.start 19 [.tmp 4] [(0, .pointer (some ⟨b, 0, none⟩)), (1, .int .u64 (s : Int))] Tryd.func50 rfl Tryd.ntmps50 rfl ⟨rfl, rfl, trivial⟩ rfl ?_
  refine WPC.seqR ?_
  refine stp ?_
  refine WPL.nil ?_
  refine WPC.seqQ mixed (by kernel_rfl) ?_
  iterate 11 refine stq ?_
  refine WPQ.cons (q_remNN (a := s) (b := j.n) rfl rfl (by omega)) rfl ?_
  iterate 3 refine stq ?_
  refine WPQ.nil ?_
  refine WPC.ret ?_
  exact endR_r rfl (.tmp rfl .nil) Imp.pk ⟨by simp [packV, JN.place], rfl⟩

theorem c_RJsave {b db : Nat} {d : DK} {j : JN} {L : RJL} (hok : d.ok) (hpl : d.pend.length < 1000000) (hvis : d.seen = flush d.sure d.pend) (hup : Up d) (hj : j.at_ + 1 < d.seen.length) (h1 : j.first < 4294967296) (h2 : j.epoch < 4294967296) (h3 : j.low < 4294967296) (hq : (last d (j.at_ : Int)).seq < 4294967295) : Trip Tryd.prog 53 #[.pointer (some ⟨b, 0, none⟩)] [cells true b 0 (rjC db j L), rdisk db d] fun r Δ => r = .int .i64 0 ∧ Δ = [cells true b 0 (rjC db j L), rdisk db (jsave d j).1] := by
  have hml := metaB_len j
  refine Trip.start 33 [.tmp 2] [(0, .pointer (some ⟨b, 0, none⟩))] Tryd.func53 rfl Tryd.ntmps53 rfl ⟨rfl, trivial⟩ rfl ?_
  refine WPC.seqR ?_
  refine stp ?_
  refine WPL.nil ?_
  refine WPC.seqR ?_
  iterate 4 refine stp ?_
  refine kall rfl (c_Num01 (v := j.first) (k := 4) (by omega) (by omega)) ?_
  rintro _ _ ⟨a1, c1, rfl, rfl⟩
  refine stp ?_
  refine WPL.nil ?_
  refine WPC.seqR ?_
  iterate 5 refine stp ?_
  refine kall rfl (c_Num01 (v := j.epoch) (k := 4) (by omega) (by omega)) ?_
  rintro _ _ ⟨a2, c2, rfl, rfl⟩
  refine WPL.bufFact (sz := 1) (a := a2) (m := 4) (k := c2) mm fun hqb => ?_
  refine WPL.cons rfl (E1.wpo (e_apB hqb rfl rfl) rfl ?_)
  rintro _ _ ⟨a3, c3, rfl, rfl⟩
  rw [← List.map_append]
  refine WPL.putS ?_
  refine stp ?_
  refine WPL.nil ?_
  refine WPC.seqR ?_
  iterate 5 refine stp ?_
  refine kall rfl (c_Num01 (v := j.low) (k := 4) (by omega) (by omega)) ?_
  rintro _ _ ⟨a4, c4, rfl, rfl⟩
  refine WPL.bufFact (sz := 1) (a := a4) (m := 4) (k := c4) mm fun hq4 => ?_
  refine WPL.cons rfl (E1.wpo (e_apB hq4 rfl rfl) rfl ?_)
  rintro _ _ ⟨a5, c5, rfl, rfl⟩
  rw [← List.map_append, show ((le j.first 4 ++ le j.epoch 4) ++ le j.low 4) = j.metaB from rfl]
  refine WPL.bufRo fun hM => ?_
  refine WPL.putS ?_
  refine stp ?_
  refine WPL.nil ?_
  refine WPC.seqD mixed ?_
  refine atP 0 rfl ?_
  refine atP 1 rfl ?_
  refine atP 2 rfl ?_
  refine atL 3 rfl ?_
  refine atP 4 rfl ?_
  refine atP 5 rfl ?_
  refine atP 6 rfl ?_
  refine atL 7 rfl ?_
  refine atP 8 rfl ?_
  refine WPA.oneE 9 [] (by kernel_rfl) rfl rfl (by repeat (first | exact .nil | refine .anc rfl ?_ | refine .keep mm ?_)) (C1.call (c_call Tryd.func73 rfl rfl rfl) (show Trip _ _ #[_, _, .slice a5 (4 + 4 + 4) c5] _ _ from by
      have h := c_RSave (b := db) (at_ := j.at_) (d := d) (a := a5) (c := c5) (p := false) (xs := j.metaB) hok hpl hvis hup hj hq (by rw [hml]; exact hM) (by omega)
      rw [hml] at h
      exact h) pkk rfl ?_)
  rintro _ _ ⟨rfl, rfl⟩
  refine ⟨(.nil _), ?_⟩
  refine WPA.putS ?_
  refine atP 10 rfl ?_
  refine WPA.done (by kernel_rfl) ?_
  refine WPC.ret ?_
  exact endR_r rfl (.tmp rfl .nil) Imp.pk ⟨rfl, rfl⟩

theorem c_RJAppend {b db c : Nat} {d : DK} {j : JN} {a : Option Addr} {xs : List By} (hj : j.ok d) (hok : d.ok) (hpl : d.pend.length < 1000000) (hvis : d.seen = flush d.sure d.pend) (hup : Up d) (hnx : j.next < 4294967296) (hs : Sok 1 a xs.length c (xs.map u8)) : Trip Tryd.prog 22 #[.pointer (some ⟨b, 0, none⟩), .slice a xs.length c] [rjour b db j, rdisk db d, sl false a (xs.map u8)] fun r Δ => r = .int .i64 (jappend d j xs).2.2 ∧ Δ = [rjour b db (jappend d j xs).2.1, rdisk db (jappend d j xs).1] := by
  refine rjour_open fun L hL => ?_
  have hrl := hL.len
  have hjn := hj.n
  have hja := hj.at_
  have hdn := hok.n
  have hh := hj.held
  have hf1 := hj.first
  have hf2 := hj.epoch
  have hf3 := hj.low
  have hnx2 : j.first + j.held.length < 4294967296 := hnx
  refine Trip.start 74 [.tmp 4] [(0, .pointer (some ⟨b, 0, none⟩)), (1, .slice a xs.length c)] Tryd.func22 rfl Tryd.ntmps22 rfl ⟨rfl, rfl, trivial⟩ rfl ?_
  refine WPC.seqR ?_
  refine stp ?_
  refine WPL.nil ?_
  refine WPC.seq ?_
  refine WPC.seqR ?_
  iterate 3 refine stp ?_
  refine WPL.nil ?_
  refine WPC.cond rfl (fun h0 => ?_) (fun h0 => ?_)
  · have hx43 : 43 < xs.length := by simp at h0; omega
    have hap : jappend d j xs = (d, j, 2) := by unfold jappend; rw [if_pos hx43]
    rw [hap]
    refine WPC.seqR ?_
    refine stp ?_
    refine WPL.nil ?_
    refine WPC.ret ?_
    refine thenQ_r ?_
    exact endR_r rfl (.tmp rfl .nil) ((Imp.pk (Δ := [cells true b 0 (rjC db j L), sl false L.a (L.rs.flatMap encRJ), bytes (L.rs.map (·.x)), rdisk db d])).trans (rjour_close L hL)) ⟨rfl, rfl⟩
  · have hx43 : ¬ 43 < xs.length := by simp at h0; omega
    refine WPC.skip ?_
    refine thenQ_n ?_
    refine WPC.seqQ mixed (by kernel_rfl) ?_
    iterate 10 refine stq ?_
    refine WPQ.cons (q_addUN (a := j.first) (b := L.rs.length) rfl rfl (by omega)) rfl ?_
    refine stq ?_
    refine WPQ.nil ?_
    refine WPC.seq ?_
    refine WPC.seqQ mixed (by kernel_rfl) ?_
    iterate 11 refine stq ?_
    apply WPQ.joinO (e' := [(0, _), (1, _), (4, _), (5, _)]) 32 35 3 rfl
    · intro g4_10
      try simp only [decide_eq_true_eq, decide_eq_false_iff_not, beq_iff_eq, bne_iff_ne, beq_eq_false_iff_ne, bne_eq_false_iff_eq, Bool.not_eq_true', Bool.not_eq_false', Bool.not_eq_eq_eq_not, Bool.not_true, Bool.not_false, ne_eq, Decidable.not_not, Int.not_lt, Int.not_le, gt_iff_lt, ge_iff_le] at g4_10
      refine WPQ.no rfl rfl rfl rfl ?_
      refine WPQ.no rfl rfl rfl rfl ?_
      refine stq ?_
      exact WPQ.jn rfl rfl sbb
    · intro g4_10
      try simp only [decide_eq_true_eq, decide_eq_false_iff_not, beq_iff_eq, bne_iff_ne, beq_eq_false_iff_ne, bne_eq_false_iff_eq, Bool.not_eq_true', Bool.not_eq_false', Bool.not_eq_eq_eq_not, Bool.not_true, Bool.not_false, ne_eq, Decidable.not_not, Int.not_lt, Int.not_le, gt_iff_lt, ge_iff_le] at g4_10
      iterate 2 refine stqY rfl rfl ?_
      refine stq ?_
      exact WPQ.jn rfl rfl sbb
    refine WPQ.nil ?_
    refine WPC.cond rfl (fun h1 => ?_) (fun h1 => ?_)
    · have hfull : j.held.length = j.n := by simp at h1; omega
      have hap : jappend d j xs = (d, j, 42) := by unfold jappend; rw [if_neg hx43, if_pos (.inl hfull)]
      rw [hap]
      refine WPC.seqR ?_
      refine stp ?_
      refine WPL.nil ?_
      refine WPC.ret ?_
      refine thenQ_r ?_
      exact endR_r rfl (.tmp rfl .nil) ((Imp.pk (Δ := [cells true b 0 (rjC db j L), sl false L.a (L.rs.flatMap encRJ), bytes (L.rs.map (·.x)), rdisk db d])).trans (rjour_close L hL)) ⟨rfl, rfl⟩
    · have hnf : ¬ (j.held.length = j.n ∨ 4294967295 < j.next) := by simp at h1; unfold JN.next; omega
      have hm := Nat.mod_lt j.next (show 0 < j.n by omega)
      have hpl2 : j.place j.next < d.seen.length := by unfold JN.place; omega
      have hnn : j.first + L.rs.length = j.next := by unfold JN.next; omega
      rw [hnn]
      have hsl := stamp_length (seq := j.next) (epoch := j.epoch) (b := xs) (by omega)
      have hap : jappend d j xs = (d.put (j.place j.next) (pad (stamp j.next j.epoch xs)), ({ j with held := j.held ++ [(j.epoch, xs)] } : JN), 0) := by unfold jappend; rw [if_neg hx43, if_neg hnf, write_up hup hpl2 (by omega)]
      rw [hap]
      refine WPC.skip ?_
      refine thenQ_n ?_
      refine WPC.seqR ?_
      iterate 8 refine stp ?_
      refine kall rfl (c_RStamp hs hnx hf2 (by omega)) ?_
      rintro _ _ ⟨a1, c1, rfl, hs1, rfl⟩
      iterate 5 refine stp ?_
      refine WPL.nil ?_
      refine WPC.seqD mixed ?_
      refine atP 0 rfl ?_
      refine atP 2 rfl ?_
      refine atP 3 rfl ?_
      refine atP 4 rfl ?_
      refine atL 5 rfl ?_
      refine atP 7 rfl ?_
      refine atP 8 rfl ?_
      refine atP 9 rfl ?_
      refine atL 10 rfl ?_
      refine atP 11 rfl ?_
      refine WPA.takeP 12 rfl (q_build (cs := [_, _]) pl_pursuivantref06_Record rfl rfl) (by kernel_rfl) (by kernel_rfl) (by kernel_rfl) rfl rfl (.cons (Ent.mem mm) (.cons (Ent.mem mm) (.nil _))) ?_
      refine WPA.putS ?_
      refine WPA.two 1 13 (by kernel_rfl) ?_ ?_
      · refine Eff.mk 1 [(10, [_]), (5, [_])] rfl rfl (by repeat (first | exact .nil | refine .anc rfl ?_ | refine .keep mm ?_)) (E1.wpo (e_buildSlice (cs := []) mk_sl_pursuivantref06_Record (by decide) rfl rfl rfl) rfl ?_)
        rintro _ _ ⟨bZ, rfl, rfl⟩
        refine ⟨(.cons (Ent.mem mm) (.cons (Ent.mem mm) (.nil _))), ?_⟩
        refine WPA.putS ?_
        refine WPA.two 6 13 (by kernel_rfl) ?_ ?_
        · refine Eff.mk 6 [(10, [_])] rfl rfl (by repeat (first | exact .nil | refine .anc rfl ?_ | refine .keep mm ?_)) (E1.wpo (e_ap0S (m := L.rs.length) hL.s rfl rfl) rfl ?_)
          rintro _ _ ⟨a2, c2, rfl, rfl⟩
          refine ⟨(.cons (Ent.mem mm) (.nil _)), ?_⟩
          refine WPA.putS ?_
          refine WPA.oneE 13 [] (by kernel_rfl) rfl rfl (by repeat (first | exact .nil | refine .anc rfl ?_ | refine .keep mm ?_)) (E1.wpo (e_buildSlice (cs := [_, _]) mk_sl_pursuivantref06_Record (by decide) rfl rfl rfl) rfl ?_)
          rintro _ _ ⟨bE, rfl, rfl⟩
          refine ⟨(.nil _), ?_⟩
          refine WPA.putS ?_
          refine WPA.oneE 14 [] (by kernel_rfl) rfl rfl (by repeat (first | exact .nil | refine .anc rfl ?_ | refine .keep mm ?_)) (E1.wpo (e_ap1 (cs := L.rs.flatMap encRJ) rfl rfl) rfl ?_)
          rintro _ _ ⟨a3, c3, rfl, rfl⟩
          rw [show L.rs.flatMap encRJ ++ [.int .u64 (j.epoch : Int), .slice a xs.length c] = (L.rs ++ [(⟨j.epoch, ⟨xs, a, xs.length, c⟩⟩ : RJ)]).flatMap encRJ by rw [flat_snoc], show L.rs.length + 1 = (L.rs ++ [(⟨j.epoch, ⟨xs, a, xs.length, c⟩⟩ : RJ)]).length by simp]
          refine ⟨(.nil _), ?_⟩
          refine WPA.putS ?_
          refine WPA.bufRo fun hP => ?_
          refine atP 15 rfl ?_
          refine atP 16 rfl ?_
          refine WPA.oneE 17 [] (by kernel_rfl) rfl rfl (by repeat (first | exact .nil | refine .anc rfl ?_ | refine .keep mm ?_)) (S1.wpo (s_store1k sz_sl_pursuivantref06_Record rfl rfl rfl rfl uu (by repeat constructor)) rfl ?_)
          refine ⟨(.nil _), ?_⟩
          refine WPA.putN ?_
          refine WPA.done (by kernel_rfl) ?_
          refine WPC.seqD mixed ?_
          refine atP 0 rfl ?_
          refine atP 1 rfl ?_
          refine atP 2 rfl ?_
          refine atL 3 rfl ?_
          refine atP 4 rfl ?_
          refine atP 5 rfl ?_
          refine atP 7 rfl ?_
          refine WPA.oneE 6 [(3, [_])] (by kernel_rfl) rfl rfl (by repeat (first | exact .nil | refine .anc rfl ?_ | refine .keep mm ?_)) (C1.call (c_call Tryd.func50 rfl rfl rfl) (c_RPlace (L := (⟨L.rs ++ [(⟨j.epoch, ⟨xs, a, xs.length, c⟩⟩ : RJ)], a3, c3⟩ : RJL)) (j := j) (s := j.next) (by omega) hjn (by omega)) pkk rfl ?_)
          rintro _ _ ⟨rfl, rfl⟩
          refine ⟨(.cons (Ent.mem mm) (.nil _)), ?_⟩
          refine WPA.putS ?_
          refine WPA.oneE 8 [] (by kernel_rfl) rfl rfl (by repeat (first | exact .nil | refine .anc rfl ?_ | refine .keep mm ?_)) (C1.call (c_call Tryd.func52 rfl rfl rfl) (show Trip _ _ #[_, _, .slice a1 64 c1] _ _ from by
              have h := c_RWrite (b := db) (i := j.place j.next) (d := d) (a := a1) (c := c1) (p := false) (xs := stamp j.next j.epoch xs) hok hpl hpl2 (by rw [hsl]; exact hs1) (by omega)
              rw [hsl] at h
              exact h) pkk rfl ?_)
          rintro _ _ ⟨rfl, rfl⟩
          refine ⟨(.nil _), ?_⟩
          refine WPA.putS ?_
          refine atP 9 rfl ?_
          refine WPA.done (by kernel_rfl) ?_
          refine WPC.ret ?_
          have hcl := rjour_close (b := b) (db := db) (j := ({ j with held := j.held ++ [(j.epoch, xs)] } : JN)) (⟨L.rs ++ [(⟨j.epoch, ⟨xs, a, xs.length, c⟩⟩ : RJ)], a3, c3⟩ : RJL) ⟨by simp only [List.map_append, hL.held]; rfl, fun r hr => by
              rcases List.mem_append.1 hr with hr | hr
              · exact hL.ok r hr
              · rw [List.mem_singleton.1 hr]; exact hs, hP⟩ (Γ := [rdisk db (d.put (j.place j.next) (pad (stamp j.next j.epoch xs)))])
          rw [List.map_append] at hcl
          exact endR_r rfl (.tmp rfl .nil) (((Imp.pk (Δ := [BS.at_ (⟨j.epoch, ⟨xs, a, xs.length, c⟩⟩ : RJ).x, bytes (L.rs.map (·.x)), sl false a3 ((L.rs ++ [(⟨j.epoch, ⟨xs, a, xs.length, c⟩⟩ : RJ)]).flatMap encRJ), cells true b 0 (rjC db j (⟨L.rs ++ [(⟨j.epoch, ⟨xs, a, xs.length, c⟩⟩ : RJ)], a3, c3⟩ : RJL)), rdisk db (d.put (j.place j.next) (pad (stamp j.next j.epoch xs)))])).trans bytes_snoc).trans ((Imp.pk).trans hcl)) ⟨rfl, rfl⟩
        · refine Eff.mk 13 [(5, [_])] rfl rfl (by repeat (first | exact .nil | refine .anc rfl ?_ | refine .keep mm ?_)) (E1.wpo (e_buildSlice (cs := [_, _]) mk_sl_pursuivantref06_Record (by decide) rfl rfl rfl) rfl ?_)
          rintro _ _ ⟨bE, rfl, rfl⟩
          refine ⟨(.cons (Ent.mem mm) (.nil _)), ?_⟩
          refine WPA.putS ?_
          refine WPA.oneE 6 [] (by kernel_rfl) rfl rfl (by repeat (first | exact .nil | refine .anc rfl ?_ | refine .keep mm ?_)) (E1.wpo (e_ap0S (m := L.rs.length) hL.s rfl rfl) rfl ?_)
          rintro _ _ ⟨a2, c2, rfl, rfl⟩
          refine ⟨(.nil _), ?_⟩
          refine WPA.putS ?_
          refine WPA.oneE 14 [] (by kernel_rfl) rfl rfl (by repeat (first | exact .nil | refine .anc rfl ?_ | refine .keep mm ?_)) (E1.wpo (e_ap1 (cs := L.rs.flatMap encRJ) rfl rfl) rfl ?_)
          rintro _ _ ⟨a3, c3, rfl, rfl⟩
          rw [show L.rs.flatMap encRJ ++ [.int .u64 (j.epoch : Int), .slice a xs.length c] = (L.rs ++ [(⟨j.epoch, ⟨xs, a, xs.length, c⟩⟩ : RJ)]).flatMap encRJ by rw [flat_snoc], show L.rs.length + 1 = (L.rs ++ [(⟨j.epoch, ⟨xs, a, xs.length, c⟩⟩ : RJ)]).length by simp]
          refine ⟨(.nil _), ?_⟩
          refine WPA.putS ?_
          refine WPA.bufRo fun hP => ?_
          refine atP 15 rfl ?_
          refine atP 16 rfl ?_
          refine WPA.oneE 17 [] (by kernel_rfl) rfl rfl (by repeat (first | exact .nil | refine .anc rfl ?_ | refine .keep mm ?_)) (S1.wpo (s_store1k sz_sl_pursuivantref06_Record rfl rfl rfl rfl uu (by repeat constructor)) rfl ?_)
          refine ⟨(.nil _), ?_⟩
          refine WPA.putN ?_
          refine WPA.done (by kernel_rfl) ?_
          refine WPC.seqD mixed ?_
          refine atP 0 rfl ?_
          refine atP 1 rfl ?_
          refine atP 2 rfl ?_
          refine atL 3 rfl ?_
          refine atP 4 rfl ?_
          refine atP 5 rfl ?_
          refine atP 7 rfl ?_
          refine WPA.oneE 6 [(3, [_])] (by kernel_rfl) rfl rfl (by repeat (first | exact .nil | refine .anc rfl ?_ | refine .keep mm ?_)) (C1.call (c_call Tryd.func50 rfl rfl rfl) (c_RPlace (L := (⟨L.rs ++ [(⟨j.epoch, ⟨xs, a, xs.length, c⟩⟩ : RJ)], a3, c3⟩ : RJL)) (j := j) (s := j.next) (by omega) hjn (by omega)) pkk rfl ?_)
          rintro _ _ ⟨rfl, rfl⟩
          refine ⟨(.cons (Ent.mem mm) (.nil _)), ?_⟩
          refine WPA.putS ?_
          refine WPA.oneE 8 [] (by kernel_rfl) rfl rfl (by repeat (first | exact .nil | refine .anc rfl ?_ | refine .keep mm ?_)) (C1.call (c_call Tryd.func52 rfl rfl rfl) (show Trip _ _ #[_, _, .slice a1 64 c1] _ _ from by
              have h := c_RWrite (b := db) (i := j.place j.next) (d := d) (a := a1) (c := c1) (p := false) (xs := stamp j.next j.epoch xs) hok hpl hpl2 (by rw [hsl]; exact hs1) (by omega)
              rw [hsl] at h
              exact h) pkk rfl ?_)
          rintro _ _ ⟨rfl, rfl⟩
          refine ⟨(.nil _), ?_⟩
          refine WPA.putS ?_
          refine atP 9 rfl ?_
          refine WPA.done (by kernel_rfl) ?_
          refine WPC.ret ?_
          have hcl := rjour_close (b := b) (db := db) (j := ({ j with held := j.held ++ [(j.epoch, xs)] } : JN)) (⟨L.rs ++ [(⟨j.epoch, ⟨xs, a, xs.length, c⟩⟩ : RJ)], a3, c3⟩ : RJL) ⟨by simp only [List.map_append, hL.held]; rfl, fun r hr => by
              rcases List.mem_append.1 hr with hr | hr
              · exact hL.ok r hr
              · rw [List.mem_singleton.1 hr]; exact hs, hP⟩ (Γ := [rdisk db (d.put (j.place j.next) (pad (stamp j.next j.epoch xs)))])
          rw [List.map_append] at hcl
          exact endR_r rfl (.tmp rfl .nil) (((Imp.pk (Δ := [BS.at_ (⟨j.epoch, ⟨xs, a, xs.length, c⟩⟩ : RJ).x, bytes (L.rs.map (·.x)), sl false a3 ((L.rs ++ [(⟨j.epoch, ⟨xs, a, xs.length, c⟩⟩ : RJ)]).flatMap encRJ), cells true b 0 (rjC db j (⟨L.rs ++ [(⟨j.epoch, ⟨xs, a, xs.length, c⟩⟩ : RJ)], a3, c3⟩ : RJL)), rdisk db (d.put (j.place j.next) (pad (stamp j.next j.epoch xs)))])).trans bytes_snoc).trans ((Imp.pk).trans hcl)) ⟨rfl, rfl⟩
      · refine Eff.mk 13 [(5, [_])] rfl rfl (by repeat (first | exact .nil | refine .anc rfl ?_ | refine .keep mm ?_)) (E1.wpo (e_buildSlice (cs := [_, _]) mk_sl_pursuivantref06_Record (by decide) rfl rfl rfl) rfl ?_)
        rintro _ _ ⟨bE, rfl, rfl⟩
        refine ⟨(.cons (Ent.mem mm) (.nil _)), ?_⟩
        refine WPA.putS ?_
        refine WPA.oneE 1 [(5, [_])] (by kernel_rfl) rfl rfl (by repeat (first | exact .nil | refine .anc rfl ?_ | refine .keep mm ?_)) (E1.wpo (e_buildSlice (cs := []) mk_sl_pursuivantref06_Record (by decide) rfl rfl rfl) rfl ?_)
        rintro _ _ ⟨bZ, rfl, rfl⟩
        refine ⟨(.cons (Ent.mem mm) (.nil _)), ?_⟩
        refine WPA.putS ?_
        refine WPA.oneE 6 [] (by kernel_rfl) rfl rfl (by repeat (first | exact .nil | refine .anc rfl ?_ | refine .keep mm ?_)) (E1.wpo (e_ap0S (m := L.rs.length) hL.s rfl rfl) rfl ?_)
        rintro _ _ ⟨a2, c2, rfl, rfl⟩
        refine ⟨(.nil _), ?_⟩
        refine WPA.putS ?_
        refine WPA.oneE 14 [] (by kernel_rfl) rfl rfl (by repeat (first | exact .nil | refine .anc rfl ?_ | refine .keep mm ?_)) (E1.wpo (e_ap1 (cs := L.rs.flatMap encRJ) rfl rfl) rfl ?_)
        rintro _ _ ⟨a3, c3, rfl, rfl⟩
        rw [show L.rs.flatMap encRJ ++ [.int .u64 (j.epoch : Int), .slice a xs.length c] = (L.rs ++ [(⟨j.epoch, ⟨xs, a, xs.length, c⟩⟩ : RJ)]).flatMap encRJ by rw [flat_snoc], show L.rs.length + 1 = (L.rs ++ [(⟨j.epoch, ⟨xs, a, xs.length, c⟩⟩ : RJ)]).length by simp]
        refine ⟨(.nil _), ?_⟩
        refine WPA.putS ?_
        refine WPA.bufRo fun hP => ?_
        refine atP 15 rfl ?_
        refine atP 16 rfl ?_
        refine WPA.oneE 17 [] (by kernel_rfl) rfl rfl (by repeat (first | exact .nil | refine .anc rfl ?_ | refine .keep mm ?_)) (S1.wpo (s_store1k sz_sl_pursuivantref06_Record rfl rfl rfl rfl uu (by repeat constructor)) rfl ?_)
        refine ⟨(.nil _), ?_⟩
        refine WPA.putN ?_
        refine WPA.done (by kernel_rfl) ?_
        refine WPC.seqD mixed ?_
        refine atP 0 rfl ?_
        refine atP 1 rfl ?_
        refine atP 2 rfl ?_
        refine atL 3 rfl ?_
        refine atP 4 rfl ?_
        refine atP 5 rfl ?_
        refine atP 7 rfl ?_
        refine WPA.oneE 6 [(3, [_])] (by kernel_rfl) rfl rfl (by repeat (first | exact .nil | refine .anc rfl ?_ | refine .keep mm ?_)) (C1.call (c_call Tryd.func50 rfl rfl rfl) (c_RPlace (L := (⟨L.rs ++ [(⟨j.epoch, ⟨xs, a, xs.length, c⟩⟩ : RJ)], a3, c3⟩ : RJL)) (j := j) (s := j.next) (by omega) hjn (by omega)) pkk rfl ?_)
        rintro _ _ ⟨rfl, rfl⟩
        refine ⟨(.cons (Ent.mem mm) (.nil _)), ?_⟩
        refine WPA.putS ?_
        refine WPA.oneE 8 [] (by kernel_rfl) rfl rfl (by repeat (first | exact .nil | refine .anc rfl ?_ | refine .keep mm ?_)) (C1.call (c_call Tryd.func52 rfl rfl rfl) (show Trip _ _ #[_, _, .slice a1 64 c1] _ _ from by
            have h := c_RWrite (b := db) (i := j.place j.next) (d := d) (a := a1) (c := c1) (p := false) (xs := stamp j.next j.epoch xs) hok hpl hpl2 (by rw [hsl]; exact hs1) (by omega)
            rw [hsl] at h
            exact h) pkk rfl ?_)
        rintro _ _ ⟨rfl, rfl⟩
        refine ⟨(.nil _), ?_⟩
        refine WPA.putS ?_
        refine atP 9 rfl ?_
        refine WPA.done (by kernel_rfl) ?_
        refine WPC.ret ?_
        have hcl := rjour_close (b := b) (db := db) (j := ({ j with held := j.held ++ [(j.epoch, xs)] } : JN)) (⟨L.rs ++ [(⟨j.epoch, ⟨xs, a, xs.length, c⟩⟩ : RJ)], a3, c3⟩ : RJL) ⟨by simp only [List.map_append, hL.held]; rfl, fun r hr => by
            rcases List.mem_append.1 hr with hr | hr
            · exact hL.ok r hr
            · rw [List.mem_singleton.1 hr]; exact hs, hP⟩ (Γ := [rdisk db (d.put (j.place j.next) (pad (stamp j.next j.epoch xs)))])
        rw [List.map_append] at hcl
        exact endR_r rfl (.tmp rfl .nil) (((Imp.pk (Δ := [BS.at_ (⟨j.epoch, ⟨xs, a, xs.length, c⟩⟩ : RJ).x, bytes (L.rs.map (·.x)), sl false a3 ((L.rs ++ [(⟨j.epoch, ⟨xs, a, xs.length, c⟩⟩ : RJ)]).flatMap encRJ), cells true b 0 (rjC db j (⟨L.rs ++ [(⟨j.epoch, ⟨xs, a, xs.length, c⟩⟩ : RJ)], a3, c3⟩ : RJL)), rdisk db (d.put (j.place j.next) (pad (stamp j.next j.epoch xs)))])).trans bytes_snoc).trans ((Imp.pk).trans hcl)) ⟨rfl, rfl⟩

end Go.Sl
/- Walks: references, trims, cuts. -/
namespace Go.Sl
open Go Go.RowKit Go.Proofs
set_option linter.unusedSimpArgs false
set_option linter.unusedVariables false
attribute [local irreducible] faB szB ldB zB zL slB mkB arB plB intB cells objc star stars buf slv grp whole Sat WPC WPL WPA WPO WPQ Trip Q1 E1 S1 C1

theorem flat_dropN {α : Type} {enc : α → List Value} {k : Nat} (hk : ∀ x, (enc x).length = k) : ∀ (xs : List α) (m : Nat), (xs.flatMap enc).drop (m * k) = (xs.drop m).flatMap enc
  | [], m => by simp
  | x :: xs, 0 => by simp
  | x :: xs, m + 1 => by
    rw [List.flatMap_cons, List.drop_append, List.drop_eq_nil_of_le (by rw [hk, Nat.succ_mul]; omega), List.nil_append, hk, show (m + 1) * k - k = m * k by rw [Nat.succ_mul]; omega, flat_dropN hk xs m]; rfl
theorem flat_takeN {α : Type} {enc : α → List Value} {k : Nat} (hk : ∀ x, (enc x).length = k) : ∀ (xs : List α) (m : Nat), (xs.flatMap enc).take (m * k) = (xs.take m).flatMap enc
  | [], m => by simp
  | x :: xs, 0 => by simp
  | x :: xs, m + 1 => by
    rw [List.flatMap_cons, List.take_append, List.take_of_length_le (by rw [hk, Nat.succ_mul]; omega), hk, show (m + 1) * k - k = m * k by rw [Nat.succ_mul]; omega, flat_takeN hk xs m]; rfl

theorem c_RJTrim {b db : Nat} {d : DK} {j : JN} {k : Int} (hj : j.ok d) (hok : d.ok) (hpl : d.pend.length < 1000000) (hvis : d.seen = flush d.sure d.pend) (hup : Up d) (hnx : j.next < 4294967296) (hq : (last d (j.at_ : Int)).seq < 4294967295) : Trip Tryd.prog 24 #[.pointer (some ⟨b, 0, none⟩), .int .i64 k] [rjour b db j, rdisk db d] fun r Δ => r = .int .i64 (jtrim d j k).2.2 ∧ Δ = [rjour b db (jtrim d j k).2.1, rdisk db (jtrim d j k).1] := by
  refine rjour_open fun L hL => ?_
  have hrl := hL.len
  have hjn := hj.n
  have hja := hj.at_
  have hdn := hok.n
  have hh := hj.held
  have hf1 := hj.first
  have hf2 := hj.epoch
  have hf3 := hj.low
  have hcap := hL.s.cap
  have hnx2 : j.first + j.held.length < 4294967296 := hnx
  refine Trip.start 51 [.tmp 4] [(0, .pointer (some ⟨b, 0, none⟩)), (1, .int .i64 k)] Tryd.func24 rfl Tryd.ntmps24 rfl ⟨rfl, rfl, trivial⟩ rfl ?_
  refine WPC.seqR ?_
  refine stp ?_
  refine WPL.nil ?_
  refine WPC.seq ?_
  refine WPC.seqR ?_
  iterate 3 refine stp ?_
  apply WPL.joinO (e' := [(0, _), (1, _), (4, _)]) 7 15 8 rfl
  · intro g1_2
    try simp only [decide_eq_true_eq, decide_eq_false_iff_not, beq_iff_eq, bne_iff_ne, beq_eq_false_iff_ne, bne_eq_false_iff_eq, Bool.not_eq_true', Bool.not_eq_false', Bool.not_eq_eq_eq_not, Bool.not_true, Bool.not_false, ne_eq, Decidable.not_not, Int.not_lt, Int.not_le, gt_iff_lt, ge_iff_le] at g1_2
    refine L_no rfl rfl rfl rfl ?_
    refine L_no rfl rfl rfl rfl ?_
    refine L_no rfl rfl rfl rfl ?_
    refine L_no rfl rfl rfl rfl ?_
    refine L_no rfl rfl rfl rfl ?_
    refine L_no rfl rfl rfl rfl ?_
    refine L_no rfl rfl rfl rfl ?_
    refine stp ?_
    first | exact WPL.jn rfl rfl sbb | exact WPL.jnI rfl rfl sbb Imp.pk
  · intro g1_2
    try simp only [decide_eq_true_eq, decide_eq_false_iff_not, beq_iff_eq, bne_iff_ne, beq_eq_false_iff_ne, bne_eq_false_iff_eq, Bool.not_eq_true', Bool.not_eq_false', Bool.not_eq_eq_eq_not, Bool.not_true, Bool.not_false, ne_eq, Decidable.not_not, Int.not_lt, Int.not_le, gt_iff_lt, ge_iff_le] at g1_2
    iterate 7 refine stpY rfl rfl ?_
    refine stp ?_
    first | exact WPL.jn rfl rfl sbb | exact WPL.jnI rfl rfl sbb Imp.pk
  refine WPL.nil ?_
  refine WPC.cond rfl (fun h0 => ?_) (fun h0 => ?_)
  · have hk : k < 0 ∨ (j.held.length : Int) < k := by simp only [Bool.or_eq_true, decide_eq_true_eq] at h0; omega
    have hap : jtrim d j k = (d, j, 1) := by unfold jtrim; rw [if_pos hk]
    rw [hap]
    refine WPC.seqR ?_
    refine stp ?_
    refine WPL.nil ?_
    refine WPC.ret ?_
    refine thenQ_r ?_
    exact endR_r rfl (.tmp rfl .nil) ((Imp.pk (Δ := [cells true b 0 (rjC db j L), sl false L.a (L.rs.flatMap encRJ), bytes (L.rs.map (·.x)), rdisk db d])).trans (rjour_close L hL)) ⟨rfl, rfl⟩
  · have hk : ¬ (k < 0 ∨ (j.held.length : Int) < k) := by simp only [Bool.or_eq_false_iff, decide_eq_false_iff_not] at h0; omega
    obtain ⟨m, rfl⟩ : ∃ m : Nat, k = (m : Int) := ⟨k.toNat, by omega⟩
    have hml : m ≤ L.rs.length := by omega
    obtain ⟨lw, hlw⟩ : ∃ lw : Nat, (if 0 < (m : Int) then ((j.held[(m : Int).toNat - 1]?).getD (0, [])).1 else j.low) = lw := ⟨_, rfl⟩
    have hlwl : lw < 4294967296 := by
      rw [← hlw]; split
      · exact getD_lt hj.eps _
      · exact hf3
    have hap : jtrim d j (m : Int) = ((jsave d ({ j with low := lw, first := j.first + m, held := j.held.drop m } : JN)).1, ({ j with low := lw, first := j.first + m, held := j.held.drop m } : JN), (jsave d ({ j with low := lw, first := j.first + m, held := j.held.drop m } : JN)).2) := by unfold jtrim; rw [if_neg hk, hlw, Int.toNat_natCast]
    have hse := save_eq (xs := ({ j with low := lw, first := j.first + m, held := j.held.drop m } : JN).metaB) hup (show j.at_ + 1 < d.seen.length by omega) hq (by rw [metaB_len]; omega)
    have hs2 : (jsave d ({ j with low := lw, first := j.first + m, held := j.held.drop m } : JN)).2 = 0 := by unfold jsave; rw [hse]
    rw [hap, hs2]
    refine WPC.skip ?_
    refine thenQ_n ?_
    refine WPC.seq ?_
    refine WPC.seqR ?_
    iterate 2 refine stp ?_
    refine WPL.nil ?_
    refine WPC.midS (fun e Γ => e = [(0, .pointer (some ⟨b, 0, none⟩)), (1, .int .i64 (m : Int))] ∧ Γ = [cells true b 0 (rjC db { j with low := lw } L), sl false L.a (L.rs.flatMap encRJ), bytes (L.rs.map (·.x)), rdisk db d]) ?_ ?_
    · refine WPC.cond rfl (fun h1 => ?_) (fun h1 => ?_)
      · have hm0 : 0 < m := by simp at h1; omega
        obtain ⟨r, hr⟩ : ∃ r, L.rs[m - 1]? = some r := ⟨L.rs[m - 1]'(by omega), by simp⟩
        have hp : Pl L.a := hL.s.at (by omega) (by omega)
        have hrep : r.ep = lw := by
          rw [← hlw, if_pos (by omega), Int.toNat_natCast, ← hL.held, List.getElem?_map, hr]; rfl
        refine WPC.region ?_
        iterate 6 refine stp ?_
        refine L_s (q_decN (k := m) rfl rfl hm0 (by omega)) rfl ?_
        refine L_s (q_idxN (i := m - 1) sl_sl_pursuivantref06_Record rfl rfl (by omega) hp) rfl ?_
        refine stp ?_
        refine L_s (q_ldFlat1 (k := 2) (i := m - 1) (j := 0) (enc := encRJ) ld_uint64 rfl mm encRJ_len hr (by omega) rfl) rfl ?_
        rw [hrep]
        iterate 2 refine stp ?_
        refine sto ?_
        refine WPL.nil ?_
        refine thenQ_n ?_
        exact ⟨rfl, _, _, ⟨rfl, rfl⟩, sbb, Imp.pk⟩
      · have h1 : ¬ (0 < (m : Int)) := by simp at h1; omega
        refine WPC.skip ?_
        refine thenQ_n ?_
        exact ⟨rfl, _, _, ⟨rfl, by rw [← hlw, if_neg h1]⟩, sbb, Imp.pk⟩
    · rintro e Γ ⟨rfl, rfl⟩
      refine WPC.seqR ?_
      iterate 7 refine stp ?_
      refine L_s (q_addUN (a := j.first) (b := m) rfl rfl (by omega)) rfl ?_
      iterate 2 refine stp ?_
      refine sto ?_
      refine WPL.nil ?_
      refine WPC.seqR ?_
      iterate 6 refine stp ?_
      refine L_s (q_sliceLoC (l := m) sl_sl_pursuivantref06_Record rfl rfl hml hcap) rfl ?_
      rw [show L.rs.length - m = (L.rs.drop m).length by simp]
      iterate 2 refine stp ?_
      refine sto ?_
      refine WPL.nil ?_
      refine WPC.seqR ?_
      refine stp ?_
      refine kall rfl (c_RJsave (L := (⟨L.rs.drop m, cut L.a L.c m (m * 2), L.c - m⟩ : RJL)) (j := ({ j with low := lw, first := j.first + m, held := j.held.drop m } : JN)) hok hpl hvis hup (show j.at_ + 1 < _ by omega) (show j.first + m < _ by omega) hf2 hlwl hq) ?_
      rintro _ _ ⟨rfl, rfl⟩
      refine stp ?_
      refine WPL.nil ?_
      refine WPC.ret ?_
      have hcl := rjour_close (b := b) (db := db) (j := ({ j with low := lw, first := j.first + m, held := j.held.drop m } : JN)) (⟨L.rs.drop m, cut L.a L.c m (m * 2), L.c - m⟩ : RJL) ⟨by rw [List.map_drop, hL.held], fun r hr => hL.ok r (List.mem_of_mem_drop hr), by have := sokCut hL.s hml; rw [flat_dropN encRJ_len] at this; simpa using this⟩ (Γ := [rdisk db (jsave d ({ j with low := lw, first := j.first + m, held := j.held.drop m } : JN)).1])
      have hcut := Imp.slCut (p := false) (Γ := [bytes (L.rs.map (·.x)), cells true b 0 (rjC db ({ j with low := lw, first := j.first + m, held := j.held.drop m } : JN) (⟨L.rs.drop m, cut L.a L.c m (m * 2), L.c - m⟩ : RJL)), rdisk db (jsave d ({ j with low := lw, first := j.first + m, held := j.held.drop m } : JN)).1]) hL.s hml
      rw [flat_dropN encRJ_len] at hcut
      exact endR_r rfl (.tmp rfl .nil) ((((Imp.pk (Δ := [sl false L.a (L.rs.flatMap encRJ), bytes (L.rs.map (·.x)), cells true b 0 (rjC db ({ j with low := lw, first := j.first + m, held := j.held.drop m } : JN) (⟨L.rs.drop m, cut L.a L.c m (m * 2), L.c - m⟩ : RJL)), rdisk db (jsave d ({ j with low := lw, first := j.first + m, held := j.held.drop m } : JN)).1])).trans hcut).trans ((Imp.pk (Δ := [bytes (L.rs.map (·.x)), sl false (cut L.a L.c m (m * 2)) ((L.rs.drop m).flatMap encRJ), cells true b 0 (rjC db ({ j with low := lw, first := j.first + m, held := j.held.drop m } : JN) (⟨L.rs.drop m, cut L.a L.c m (m * 2), L.c - m⟩ : RJL)), rdisk db (jsave d ({ j with low := lw, first := j.first + m, held := j.held.drop m } : JN)).1])).trans (bytes_cong (ys := (L.rs.drop m).map (·.x)) (fun y hy => by
        rw [List.map_drop] at hy; exact List.mem_of_mem_drop hy)))).trans ((Imp.pk).trans hcl)) ⟨rfl, rfl⟩

theorem c_RJCut {b db : Nat} {d : DK} {j : JN} {k : Int} (hj : j.ok d) (hok : d.ok) (hpl : d.pend.length < 1000000) (hvis : d.seen = flush d.sure d.pend) (hup : Up d) (hnx : j.next < 4294967296) (hq : (last d (j.at_ : Int)).seq < 4294967295) : Trip Tryd.prog 25 #[.pointer (some ⟨b, 0, none⟩), .int .i64 k] [rjour b db j, rdisk db d] fun r Δ => r = .int .i64 (jcut d j k).2.2 ∧ Δ = [rjour b db (jcut d j k).2.1, rdisk db (jcut d j k).1] := by
  refine rjour_open fun L hL => ?_
  have hrl := hL.len
  have hjn := hj.n
  have hja := hj.at_
  have hdn := hok.n
  have hh := hj.held
  have hf1 := hj.first
  have hf2 := hj.epoch
  have hf3 := hj.low
  have hcap := hL.s.cap
  have hnx2 : j.first + j.held.length < 4294967296 := hnx
  refine Trip.start 84 [.tmp 4] [(0, .pointer (some ⟨b, 0, none⟩)), (1, .int .i64 k)] Tryd.func25 rfl Tryd.ntmps25 rfl ⟨rfl, rfl, trivial⟩ rfl ?_
  refine WPC.seqR ?_
  refine stp ?_
  refine WPL.nil ?_
  refine WPC.seq ?_
  refine WPC.seqR ?_
  iterate 3 refine stp ?_
  apply WPL.joinO (e' := [(0, _), (1, _), (4, _)]) 9 17 8 rfl
  · intro g1_2
    try simp only [decide_eq_true_eq, decide_eq_false_iff_not, beq_iff_eq, bne_iff_ne, beq_eq_false_iff_ne, bne_eq_false_iff_eq, Bool.not_eq_true', Bool.not_eq_false', Bool.not_eq_eq_eq_not, Bool.not_true, Bool.not_false, ne_eq, Decidable.not_not, Int.not_lt, Int.not_le, gt_iff_lt, ge_iff_le] at g1_2
    refine L_no rfl rfl rfl rfl ?_
    refine L_no rfl rfl rfl rfl ?_
    refine L_no rfl rfl rfl rfl ?_
    refine L_no rfl rfl rfl rfl ?_
    refine L_no rfl rfl rfl rfl ?_
    refine L_no rfl rfl rfl rfl ?_
    refine L_no rfl rfl rfl rfl ?_
    refine stp ?_
    first | exact WPL.jn rfl rfl sbb | exact WPL.jnI rfl rfl sbb Imp.pk
  · intro g1_2
    try simp only [decide_eq_true_eq, decide_eq_false_iff_not, beq_iff_eq, bne_iff_ne, beq_eq_false_iff_ne, bne_eq_false_iff_eq, Bool.not_eq_true', Bool.not_eq_false', Bool.not_eq_eq_eq_not, Bool.not_true, Bool.not_false, ne_eq, Decidable.not_not, Int.not_lt, Int.not_le, gt_iff_lt, ge_iff_le] at g1_2
    iterate 7 refine stpY rfl rfl ?_
    refine stp ?_
    first | exact WPL.jn rfl rfl sbb | exact WPL.jnI rfl rfl sbb Imp.pk
  refine WPL.nil ?_
  refine WPC.cond rfl (fun h0 => ?_) (fun h0 => ?_)
  · have hk : k < 0 ∨ (j.held.length : Int) < k := by simp only [Bool.or_eq_true, decide_eq_true_eq] at h0; omega
    have hap : jcut d j k = (d, j, 1) := by unfold jcut; rw [if_pos hk]
    rw [hap]
    refine WPC.seqR ?_
    refine stp ?_
    refine WPL.nil ?_
    refine WPC.ret ?_
    refine thenQ_r ?_
    exact endR_r rfl (.tmp rfl .nil) ((Imp.pk (Δ := [cells true b 0 (rjC db j L), sl false L.a (L.rs.flatMap encRJ), bytes (L.rs.map (·.x)), rdisk db d])).trans (rjour_close L hL)) ⟨rfl, rfl⟩
  · have hk : ¬ (k < 0 ∨ (j.held.length : Int) < k) := by simp only [Bool.or_eq_false_iff, decide_eq_false_iff_not] at h0; omega
    obtain ⟨m, rfl⟩ : ∃ m : Nat, k = (m : Int) := ⟨k.toNat, by omega⟩
    have hml : m ≤ L.rs.length := by omega
    refine WPC.skip ?_
    refine thenQ_n ?_
    refine WPC.seq ?_
    refine WPC.seqR ?_
    iterate 5 refine stp ?_
    refine WPL.nil ?_
    refine WPC.cond rfl (fun h1 => ?_) (fun h1 => ?_)
    · have he : j.epoch = 4294967295 := by simp at h1; omega
      have hap : jcut d j (m : Int) = (d, j, 42) := by unfold jcut; rw [if_neg hk, if_pos he]
      rw [hap]
      refine WPC.seqR ?_
      refine stp ?_
      refine WPL.nil ?_
      refine WPC.ret ?_
      refine thenQ_r ?_
      exact endR_r rfl (.tmp rfl .nil) ((Imp.pk (Δ := [cells true b 0 (rjC db j L), sl false L.a (L.rs.flatMap encRJ), bytes (L.rs.map (·.x)), rdisk db d])).trans (rjour_close L hL)) ⟨rfl, rfl⟩
    · have he : ¬ j.epoch = 4294967295 := by simp at h1; omega
      refine WPC.skip ?_
      refine thenQ_n ?_
      refine WPC.seqR ?_
      iterate 4 refine stp ?_
      refine kall rfl (c_RSync hok hpl hup) ?_
      rintro _ _ ⟨rfl, rfl⟩
      refine WPL.nil ?_
      refine WPC.seqR ?_
      iterate 6 refine stp ?_
      refine L_s (q_subI rfl rfl (by omega)) rfl ?_
      rw [show ((L.rs.length : Int) - (m : Int)) = ((L.rs.length - m : Nat) : Int) by omega]
      refine stp ?_
      refine WPL.nil ?_
      refine WPC.seq ?_
      refine WPC.seqR ?_
      iterate 7 refine stp ?_
      refine WPL.nil ?_
      refine WPC.prune [(0, _), (4, _), (5, _), (6, _)] sbb ?_
      refine WPC.block ?_
      refine WPC.loopS (fun m_ e Γ => ∃ (t : Nat) (v : Int), m_ = m - t ∧ t ≤ m ∧ v = (L.rs.length : Int) - 1 - (t : Int) ∧ e = [(0, .pointer (some ⟨b, 0, none⟩)), (5, .int .i64 ((L.rs.length - m : Nat) : Int)), (6, .int .i64 v)] ∧ Γ = [cells true b 0 (rjC db j L), sl false L.a (L.rs.flatMap encRJ), bytes (L.rs.map (·.x)), rdisk db (cutL d.sync j t).1]) (m) ⟨0, (L.rs.length : Int) - 1, rfl, by omega, by omega, rfl, rfl⟩ sbb Imp.pk ?_
      rintro m_ e Γ ⟨t, v, rfl, htm, rfl, rfl, rfl⟩
      obtain ⟨D, hD, hDu, hDok, hDl, hDv, hDp, hDq⟩ := cut_facts (t := t) hj hok hup hvis (by omega)
      have hDs : (cutL d.sync j t).1 = D := by rw [hD]
      rw [hDs]
      refine WPC.seq ?_
      refine WPC.seqR ?_
      iterate 3 refine stp ?_
      refine WPL.nil ?_
      refine WPC.cond rfl (fun h2 => ?_) (fun h2 => ?_)
      · have htm2 : t < m := by simp only [decide_eq_true_eq] at h2; omega
        have hmod := Nat.mod_lt (j.first + (j.held.length - (t + 1))) (show 0 < j.n by omega)
        rw [show ((L.rs.length : Int) - 1 - (t : Int)) = ((j.held.length - (t + 1) : Nat) : Int) by omega]
        have hpl2 : j.place (j.first + (j.held.length - (t + 1))) < D.seen.length := by unfold JN.place; omega
        have hnx3 := cut_next hD (by omega)
        rw [write_up hDu hpl2 (by simp)] at hnx3
        refine WPC.skip ?_
        refine thenQ_n ?_
        refine WPC.seq ?_
        refine WPC.block ?_
        refine WPC.draw mixed ?_
        refine atP 0 rfl ?_
        refine atP 1 rfl ?_
        refine atP 2 rfl ?_
        refine atL 3 rfl ?_
        refine atP 4 rfl ?_
        refine atP 5 rfl ?_
        refine atP 6 rfl ?_
        refine atP 7 rfl ?_
        refine atL 8 rfl ?_
        refine atP 9 rfl ?_
        refine atP 10 rfl ?_
        refine WPA.takeP 11 rfl (q_addUN (a := j.first) (b := j.held.length - (t + 1)) rfl rfl (by omega)) (by kernel_rfl) (by kernel_rfl) (by kernel_rfl) rfl rfl (.cons (Ent.mem mm) (.cons (Ent.mem mm) (.nil _))) ?_
        refine WPA.putS ?_
        refine WPA.oneE 12 [(3, [_])] (by kernel_rfl) rfl rfl (by repeat (first | exact .nil | refine .anc rfl ?_ | refine .keep mm ?_)) (C1.call (c_call Tryd.func50 rfl rfl rfl) (c_RPlace (L := L) (j := j) (s := j.first + (j.held.length - (t + 1))) (by omega) hjn (by omega)) pkk rfl ?_)
        rintro _ _ ⟨rfl, rfl⟩
        refine ⟨(.cons (Ent.mem mm) (.nil _)), ?_⟩
        refine WPA.putS ?_
        refine WPA.imp (Imp.slEmpty (p := false) (a := none)) ?_
        refine WPA.oneE 13 [] (by kernel_rfl) rfl rfl (by repeat (first | exact .nil | refine .anc rfl ?_ | refine .keep mm ?_)) (C1.call (c_call Tryd.func52 rfl rfl rfl) (c_RWrite (xs := []) (c := 0) (p := false) hDok (by omega) hpl2 ⟨rfl, Nat.le_refl _, .inl rfl⟩ (by simp)) pkk rfl ?_)
        rintro _ _ ⟨rfl, rfl⟩
        rw [← show (cutL d.sync j (t + 1)).1 = D.put (j.place (j.first + (j.held.length - (t + 1)))) (pad []) from hnx3]
        refine ⟨(.nil _), ?_⟩
        refine WPA.putS ?_
        refine WPA.done (by kernel_rfl) ?_
        refine blockQ_n ?_
        refine thenQ_n ?_
        refine WPC.region ?_
        refine stp ?_
        refine L_s (q_subI rfl rfl (by omega)) rfl ?_
        rw [show (((j.held.length - (t + 1) : Nat) : Int) - 1) = ((L.rs.length : Int) - 1 - ((t + 1 : Nat) : Int)) by omega]
        refine stp ?_
        refine WPL.nil ?_
        refine thenQ_n ?_
        exact ⟨rfl, _, _, _, by omega, ⟨t + 1, _, rfl, by omega, rfl, rfl, rfl⟩, sbb, Imp.pk⟩
      · have htm2 : t = m := by simp only [decide_eq_false_iff_not] at h2; omega
        subst htm2
        refine WPC.exit ?_
        refine thenQ_e ?_
        refine thenQ_e ?_
        refine blockQ_here ?_
        refine thenQ_n ?_
        refine WPC.seqR ?_
        iterate 4 refine stp ?_
        refine kall rfl (c_RSync hDok (by omega) hDu) ?_
        rintro _ _ ⟨rfl, rfl⟩
        have hap : jcut d j (t : Int) = ((jsave D.sync ({ j with held := j.held.take (j.held.length - t), epoch := j.epoch + 1 } : JN)).1, ({ j with held := j.held.take (j.held.length - t), epoch := j.epoch + 1 } : JN), (jsave D.sync ({ j with held := j.held.take (j.held.length - t), epoch := j.epoch + 1 } : JN)).2) := by unfold jcut; rw [if_neg hk, if_neg he, Int.toNat_natCast, hD]
        have hse := save_eq (xs := ({ j with held := j.held.take (j.held.length - t), epoch := j.epoch + 1 } : JN).metaB) hDu.sync (show j.at_ + 1 < D.sync.seen.length by rw [sync_len]; omega) (by rw [hDq]; exact hq) (by rw [metaB_len]; omega)
        have hs2 : (jsave D.sync ({ j with held := j.held.take (j.held.length - t), epoch := j.epoch + 1 } : JN)).2 = 0 := by unfold jsave; rw [hse]
        rw [hap, hs2]
        refine WPL.nil ?_
        refine WPC.seqR ?_
        iterate 6 refine stp ?_
        refine L_s (q_sliceHi (j := L.rs.length - t) sl_sl_pursuivantref06_Record rfl rfl (by omega)) rfl ?_
        rw [show (.slice L.a (L.rs.length - t) L.c : Value) = .slice L.a (L.rs.take (L.rs.length - t)).length L.c by rw [List.length_take, Nat.min_eq_left (by omega)]]
        iterate 2 refine stp ?_
        refine sto ?_
        refine WPL.nil ?_
        refine WPC.seqR ?_
        iterate 5 refine stp ?_
        refine L_s (q_addUN (a := j.epoch) (b := 1) rfl rfl (by omega)) rfl ?_
        iterate 2 refine stp ?_
        refine sto ?_
        refine WPL.nil ?_
        refine WPC.prune [(0, _)] sbb ?_
        refine WPC.seqR ?_
        refine stp ?_
        refine kall rfl (c_RJsave (L := (⟨L.rs.take (L.rs.length - t), L.a, L.c⟩ : RJL)) (j := ({ j with held := j.held.take (j.held.length - t), epoch := j.epoch + 1 } : JN)) hDok.sync (by have := sync_pend D; omega) (by rw [sync_up hDu]; exact hDv) hDu.sync (show j.at_ + 1 < _ by rw [sync_len]; omega) hf1 (show j.epoch + 1 < _ by omega) hf3 (by show (last D.sync (j.at_ : Int)).seq < _; rw [hDq]; exact hq)) ?_
        rintro _ _ ⟨rfl, rfl⟩
        refine stp ?_
        refine WPL.nil ?_
        refine WPC.ret ?_
        have hcl := rjour_close (b := b) (db := db) (j := ({ j with held := j.held.take (j.held.length - t), epoch := j.epoch + 1 } : JN)) (⟨L.rs.take (L.rs.length - t), L.a, L.c⟩ : RJL) ⟨by rw [List.map_take, hL.held, hrl], fun r hr => hL.ok r (List.mem_of_mem_take hr), by have := hL.s.take (m := L.rs.length - t) (by omega); rw [flat_takeN encRJ_len] at this; simpa [Nat.min_eq_left (Nat.sub_le _ _)] using this⟩ (Γ := [rdisk db (jsave D.sync ({ j with held := j.held.take (j.held.length - t), epoch := j.epoch + 1 } : JN)).1])
        have hcut := Imp.slTake (p := false) (a := L.a) (cs := L.rs.flatMap encRJ) ((L.rs.length - t) * 2) (Γ := [bytes (L.rs.map (·.x)), cells true b 0 (rjC db ({ j with held := j.held.take (j.held.length - t), epoch := j.epoch + 1 } : JN) (⟨L.rs.take (L.rs.length - t), L.a, L.c⟩ : RJL)), rdisk db (jsave D.sync ({ j with held := j.held.take (j.held.length - t), epoch := j.epoch + 1 } : JN)).1])
        rw [flat_takeN encRJ_len] at hcut
        exact endR_r rfl (.tmp rfl .nil) ((((Imp.pk (Δ := [sl false L.a (L.rs.flatMap encRJ), bytes (L.rs.map (·.x)), cells true b 0 (rjC db ({ j with held := j.held.take (j.held.length - t), epoch := j.epoch + 1 } : JN) (⟨L.rs.take (L.rs.length - t), L.a, L.c⟩ : RJL)), rdisk db (jsave D.sync ({ j with held := j.held.take (j.held.length - t), epoch := j.epoch + 1 } : JN)).1])).trans hcut).trans ((Imp.pk (Δ := [bytes (L.rs.map (·.x)), sl false L.a ((L.rs.take (L.rs.length - t)).flatMap encRJ), cells true b 0 (rjC db ({ j with held := j.held.take (j.held.length - t), epoch := j.epoch + 1 } : JN) (⟨L.rs.take (L.rs.length - t), L.a, L.c⟩ : RJL)), rdisk db (jsave D.sync ({ j with held := j.held.take (j.held.length - t), epoch := j.epoch + 1 } : JN)).1])).trans (bytes_cong (ys := (L.rs.take (L.rs.length - t)).map (·.x)) (fun y hy => by
          rw [List.map_take] at hy; exact List.mem_of_mem_take hy)))).trans ((Imp.pk).trans hcl)) ⟨rfl, rfl⟩

theorem c_RAll {b db : Nat} {j : JN} (hn : j.held.length ≤ 1000) : Trip Tryd.prog 29 #[.pointer (some ⟨b, 0, none⟩)] [rjour b db j] fun r Δ => ∃ (a : Option Addr) (c : Nat) (ys : List BS), r = .slice a ys.length c ∧ Sok 1 a ys.length c (ys.map bsV) ∧ ys.map BS.bs = j.held.map (·.2) ∧ (∀ y ∈ ys, y.ok) ∧ Δ = [rjour b db j, sl false a (ys.map bsV), bytes ys] := by
  refine rjour_open fun L hL => ?_
  have hrl := hL.len
  refine Trip.start 26 [.tmp 2] [(0, .pointer (some ⟨b, 0, none⟩))] Tryd.func29 rfl Tryd.ntmps29 rfl ⟨rfl, trivial⟩ rfl ?_
  refine WPC.seqR ?_
  refine stp ?_
  refine WPL.nil ?_
  refine WPC.seqR ?_
  refine stp ?_
  refine WPL.nil ?_
  refine WPC.seq ?_
  refine WPC.seqR ?_
  refine stp ?_
  refine WPL.nil ?_
  refine WPC.imp (Imp.bufNil (sz := 1)) ?_
  refine WPC.block ?_
  refine WPC.loopS (fun m e Γ => ∃ (k : Nat) (a2 : Option Addr) (c2 : Nat), m = L.rs.length - k ∧ k ≤ L.rs.length ∧ e = [(0, .pointer (some ⟨b, 0, none⟩)), (3, .slice a2 k c2), (4, .int .i64 (k : Int))] ∧ Γ = [buf 1 a2 k c2 (((L.rs.take k).map (·.x)).map bsV), cells true b 0 (rjC db j L), sl false L.a (L.rs.flatMap encRJ), bytes (L.rs.map (·.x))]) (L.rs.length) ⟨0, none, 0, rfl, by omega, rfl, rfl⟩ sbb Imp.pk ?_
  rintro m e Γ ⟨k, a2, c2, rfl, hk, rfl, rfl⟩
  refine WPC.seq ?_
  refine WPC.seqR ?_
  iterate 7 refine stp ?_
  refine WPL.nil ?_
  refine WPC.cond rfl (fun h0 => ?_) (fun h0 => ?_)
  · simp only [decide_eq_true_eq, Int.ofNat_lt] at h0
    obtain ⟨r, hr⟩ : ∃ r, L.rs[k]? = some r := ⟨L.rs[k]'(by omega), by simp⟩
    have hp : Pl L.a := hL.s.at (by omega) (by omega)
    refine WPC.skip ?_
    refine thenQ_n ?_
    refine WPC.seq ?_
    refine WPC.block ?_
    refine WPC.region ?_
    iterate 6 refine stp ?_
    refine L_s (q_idxN (i := k) sl_sl_pursuivantref06_Record rfl rfl h0 hp) rfl ?_
    refine stp ?_
    refine L_s (q_ldFlat1 (k := 2) (i := k) (j := 1) (enc := encRJ) ld_sl_uint8 rfl mm encRJ_len hr (by omega) rfl) rfl ?_
    refine nwb [_] fun b1 => ?_
    refine WPL.cons rfl (E1.wpo (e_ap1 rfl rfl) rfl ?_)
    rintro _ _ ⟨a3, c3, rfl, rfl⟩
    rw [show ((L.rs.take k).map (·.x)).map bsV ++ [Value.slice r.x.a r.x.n r.x.c] = ((L.rs.take (k + 1)).map (·.x)).map bsV by rw [take_succ hr, List.map_append, List.map_append]; rfl]
    refine WPL.putS ?_
    refine stp ?_
    refine WPL.nil ?_
    refine blockQ_n ?_
    refine thenQ_n ?_
    refine WPC.region ?_
    iterate 3 refine stp ?_
    refine WPL.nil ?_
    refine thenQ_n ?_
    exact ⟨rfl, _, _, _, by omega, ⟨k + 1, a3, c3, rfl, by omega, rfl, rfl⟩, sbb, Imp.pk⟩
  · simp only [decide_eq_false_iff_not, Int.ofNat_lt] at h0
    have hkk : k = L.rs.length := by omega
    refine WPC.exit ?_
    refine thenQ_e ?_
    refine thenQ_e ?_
    refine blockQ_here ?_
    refine thenQ_n ?_
    refine WPC.seqR ?_
    iterate 2 refine stp ?_
    refine WPL.nil ?_
    rw [hkk, List.take_length]
    refine WPC.bufRo fun hS => ?_
    refine WPC.ret ?_
    rw [← List.length_map (f := fun r : RJ => r.x)] at hS ⊢
    exact endR_r rfl (.tmp rfl .nil) ((((Imp.pk (Δ := [bytes (L.rs.map (·.x)), cells true b 0 (rjC db j L), sl false L.a (L.rs.flatMap encRJ), sl false a2 ((L.rs.map (·.x)).map bsV)])).trans (bytes_sub (fun y hy => hy)))).trans ((Imp.pk).trans (rjour_close L hL))) ⟨a2, c2, L.rs.map (·.x), rfl, hS, by rw [← hL.held, List.map_map, List.map_map]; rfl, fun y hy => by
      obtain ⟨r, hr, rfl⟩ := List.mem_map.1 hy; exact hL.ok r hr, rfl⟩

theorem c_JLen {b db : Nat} {j : JN} : Trip Tryd.prog 27 #[.pointer (some ⟨b, 0, none⟩)] [jour b db j] fun r Δ => r = .int .i64 (j.held.length : Int) ∧ Δ = [jour b db j] := by
  refine jour_open fun L hL => ?_
  have hrl := hL.len
  refine Trip.start 8 [.tmp 2] [(0, .pointer (some ⟨b, 0, none⟩))] Tryd.func27 rfl Tryd.ntmps27 rfl ⟨rfl, trivial⟩ rfl ?_
  refine WPC.seqR ?_
  refine stp ?_
  refine WPL.nil ?_
  refine WPC.seqR ?_
  iterate 6 refine stp ?_
  refine WPL.nil ?_
  refine WPC.ret ?_
  exact endR_r rfl (.tmp rfl .nil) ((Imp.pk).trans (jour_close L hL)) ⟨by simp only [packV, hrl], rfl⟩

end Go.Sl
/- Walks: references, opening. -/
namespace Go.Sl
open Go Go.RowKit Go.Proofs
set_option linter.unusedSimpArgs false
set_option linter.unusedVariables false
attribute [local irreducible] faB szB ldB zB zL slB mkB arB plB intB cells objc star stars buf slv grp whole Sat WPC WPL WPA WPO WPQ Trip Q1 E1 S1 C1

theorem c_RLenD {b : Nat} {d : DK} (hok : d.ok) : Trip Tryd.prog 46 #[.pointer (some ⟨b, 0, none⟩)] [rdisk b d] fun r Δ => r = .int .i64 (d.seen.length : Int) ∧ Δ = [rdisk b d] := by
  refine rdisk_open fun L hL => ?_
  have hsm := hok.same
  have hdn := hok.n
  refine Trip.start 9 [.tmp 2] [(0, .pointer (some ⟨b, 0, none⟩))] Tryd.func46 rfl Tryd.ntmps46 rfl ⟨rfl, trivial⟩ rfl ?_
  refine WPC.seqR ?_
  refine stp ?_
  refine WPL.nil ?_
  refine WPC.seqR ?_
  iterate 6 refine stp ?_
  rw [show (((64 * d.sure.length : Nat) : Int) / 64) = (d.seen.length : Int) by omega]
  refine stp ?_
  refine WPL.nil ?_
  refine WPC.ret ?_
  exact endR_r rfl (.tmp rfl .nil) ((Imp.pk).trans (rdisk_close L hL)) ⟨rfl, rfl⟩

theorem c_ROpen {db : Nat} {d : DK} {at_ n : Nat} {j0 : JN} (hn : 1 ≤ n ∧ n ≤ 100) (hat : at_ + 2 + n ≤ d.seen.length) (hpl9 : d.pend.length < 900000) (hok : d.ok) (hpl : d.pend.length < 1000000) (hvis : d.seen = flush d.sure d.pend) (hup : Up d) (hbg : JN.begun d at_ n = some j0) (he : j0.epoch ≠ 4294967295) (hq : (last d (at_ : Int)).seq < 4294967295) : Trip Tryd.prog 21 #[.pointer (some ⟨db, 0, none⟩), .int .i64 (at_ : Int), .int .i64 (n : Int)] [rdisk db d] fun r Δ => ∃ b, r = .tuple #[.pointer (some ⟨b, 0, none⟩), .int .i64 0] ∧ Δ = [rjour b db (openJ (j0.scanned d)), rdisk db (jsave (openD d (j0.scanned d) n) (openJ (j0.scanned d))).1] := by
  have hdn := hok.n
  obtain ⟨F, E, Lw, rfl, hF1, hF, hE, hLE, hcase⟩ := begun_facts hbg
  have he : E ≠ 4294967295 := he
  refine Trip.start 205 [.tmp 6, .tmp 7] [(0, .pointer (some ⟨db, 0, none⟩)), (1, .int .i64 (at_ : Int)), (2, .int .i64 (n : Int))] Tryd.func21 rfl Tryd.ntmps21 rfl ⟨rfl, rfl, rfl, trivial⟩ rfl ?_
  refine WPC.seqR ?_
  iterate 2 refine stp ?_
  refine WPL.nil ?_
  refine WPC.seq ?_
  refine WPC.seqR ?_
  iterate 3 refine stp ?_
  apply WPL.joinO (e' := [(0, _), (1, _), (2, _), (6, _), (7, _)]) 20 23 3 rfl
  · intro g1_2
    try simp only [decide_eq_true_eq, decide_eq_false_iff_not, beq_iff_eq, bne_iff_ne, beq_eq_false_iff_ne, bne_eq_false_iff_eq, Bool.not_eq_true', Bool.not_eq_false', Bool.not_eq_eq_eq_not, Bool.not_true, Bool.not_false, ne_eq, Decidable.not_not, Int.not_lt, Int.not_le, gt_iff_lt, ge_iff_le] at g1_2
    refine L_no rfl rfl rfl rfl ?_
    refine L_no rfl rfl rfl rfl ?_
    refine stp ?_
    first | exact WPL.jn rfl rfl sbb | exact WPL.jnI rfl rfl sbb Imp.pk
  · intro g1_2
    try simp only [decide_eq_true_eq, decide_eq_false_iff_not, beq_iff_eq, bne_iff_ne, beq_eq_false_iff_ne, bne_eq_false_iff_eq, Bool.not_eq_true', Bool.not_eq_false', Bool.not_eq_eq_eq_not, Bool.not_true, Bool.not_false, ne_eq, Decidable.not_not, Int.not_lt, Int.not_le, gt_iff_lt, ge_iff_le] at g1_2
    iterate 2 refine stpY rfl rfl ?_
    refine stp ?_
    first | exact WPL.jn rfl rfl sbb | exact WPL.jnI rfl rfl sbb Imp.pk
  refine WPL.nil ?_
  refine WPC.cond rfl (fun h0 => ?_) (fun h0 => ?_)
  · try simp only [decide_eq_true_eq, decide_eq_false_iff_not, beq_iff_eq, bne_iff_ne, beq_eq_false_iff_ne, bne_eq_false_iff_eq, Bool.not_eq_true', Bool.not_eq_false', Bool.not_eq_eq_eq_not, Bool.not_true, Bool.not_false, ne_eq, Decidable.not_not, Int.not_lt, Int.not_le, gt_iff_lt, ge_iff_le] at h0
    simp only [Bool.or_eq_true, decide_eq_true_eq] at h0
    omega
  · skip
    refine WPC.skip ?_
    refine thenQ_n ?_
    refine WPC.seq ?_
    refine WPC.seqR ?_
    iterate 3 refine stp ?_
    apply WPL.joinO (e' := [(0, _), (1, _), (2, _), (6, _), (7, _)]) 26 31 5 rfl
    · intro g3_2
      try simp only [decide_eq_true_eq, decide_eq_false_iff_not, beq_iff_eq, bne_iff_ne, beq_eq_false_iff_ne, bne_eq_false_iff_eq, Bool.not_eq_true', Bool.not_eq_false', Bool.not_eq_eq_eq_not, Bool.not_true, Bool.not_false, ne_eq, Decidable.not_not, Int.not_lt, Int.not_le, gt_iff_lt, ge_iff_le] at g3_2
      refine L_no rfl rfl rfl rfl ?_
      refine L_no rfl rfl rfl rfl ?_
      refine L_no rfl rfl rfl rfl ?_
      refine L_no rfl rfl rfl rfl ?_
      refine stp ?_
      first | exact WPL.jn rfl rfl sbb | exact WPL.jnI rfl rfl sbb Imp.pk
    · intro g3_2
      try simp only [decide_eq_true_eq, decide_eq_false_iff_not, beq_iff_eq, bne_iff_ne, beq_eq_false_iff_ne, bne_eq_false_iff_eq, Bool.not_eq_true', Bool.not_eq_false', Bool.not_eq_eq_eq_not, Bool.not_true, Bool.not_false, ne_eq, Decidable.not_not, Int.not_lt, Int.not_le, gt_iff_lt, ge_iff_le] at g3_2
      iterate 2 refine stpY rfl rfl ?_
      refine L_eyes rfl rfl rfl (C1.call (c_call Tryd.func46 rfl rfl rfl) (c_RLenD hok) pkk rfl ?_)
      rintro _ _ ⟨rfl, rfl⟩
      refine WPL.putS ?_
      refine stpY rfl rfl ?_
      refine stp ?_
      first | exact WPL.jn rfl rfl sbb | exact WPL.jnI rfl rfl sbb Imp.pk
    refine stp ?_
    apply WPL.joinO (e' := [(0, _), (1, _), (2, _), (6, _), (7, _)]) 32 40 8 rfl
    · intro g3_8
      try simp only [decide_eq_true_eq, decide_eq_false_iff_not, beq_iff_eq, bne_iff_ne, beq_eq_false_iff_ne, bne_eq_false_iff_eq, Bool.not_eq_true', Bool.not_eq_false', Bool.not_eq_eq_eq_not, Bool.not_true, Bool.not_false, ne_eq, Decidable.not_not, Int.not_lt, Int.not_le, gt_iff_lt, ge_iff_le] at g3_8
      refine L_no rfl rfl rfl rfl ?_
      refine L_no rfl rfl rfl rfl ?_
      refine L_no rfl rfl rfl rfl ?_
      refine L_no rfl rfl rfl rfl ?_
      refine L_no rfl rfl rfl rfl ?_
      refine L_no rfl rfl rfl rfl ?_
      refine L_no rfl rfl rfl rfl ?_
      refine stp ?_
      first | exact WPL.jn rfl rfl sbb | exact WPL.jnI rfl rfl sbb Imp.pk
    · intro g3_8
      try simp only [decide_eq_true_eq, decide_eq_false_iff_not, beq_iff_eq, bne_iff_ne, beq_eq_false_iff_ne, bne_eq_false_iff_eq, Bool.not_eq_true', Bool.not_eq_false', Bool.not_eq_eq_eq_not, Bool.not_true, Bool.not_false, ne_eq, Decidable.not_not, Int.not_lt, Int.not_le, gt_iff_lt, ge_iff_le] at g3_8
      iterate 5 refine stpY rfl rfl ?_
      refine L_eyes rfl rfl rfl (C1.call (c_call Tryd.func46 rfl rfl rfl) (c_RLenD hok) pkk rfl ?_)
      rintro _ _ ⟨rfl, rfl⟩
      refine WPL.putS ?_
      refine stpY rfl rfl ?_
      refine stp ?_
      first | exact WPL.jn rfl rfl sbb | exact WPL.jnI rfl rfl sbb Imp.pk
    refine WPL.nil ?_
    refine WPC.cond rfl (fun h1 => ?_) (fun h1 => ?_)
    · try simp only [decide_eq_true_eq, decide_eq_false_iff_not, beq_iff_eq, bne_iff_ne, beq_eq_false_iff_ne, bne_eq_false_iff_eq, Bool.not_eq_true', Bool.not_eq_false', Bool.not_eq_eq_eq_not, Bool.not_true, Bool.not_false, ne_eq, Decidable.not_not, Int.not_lt, Int.not_le, gt_iff_lt, ge_iff_le] at h1
      simp only [Bool.or_eq_true, decide_eq_true_eq] at h1
      omega
    · skip
      refine WPC.skip ?_
      refine thenQ_n ?_
      refine WPC.seqR ?_
      iterate 3 refine stp ?_
      refine L_s (q_build (cs := [_, _, _, _, _, _, _]) pl_pursuivantref06_Journal rfl rfl) rfl ?_
      refine nw fun bj => ?_
      refine stp ?_
      refine WPL.nil ?_
      refine WPC.seqR ?_
      iterate 2 refine stp ?_
      refine kall rfl (c_RLast hok hpl hvis (by omega)) ?_
      rintro _ _ ⟨a1, c1, w, rfl, -, hs1, rfl⟩
      iterate 3 refine stp ?_
      refine nw fun bR => ?_
      refine sto ?_
      refine stp ?_
      refine WPL.nil ?_
      refine WPC.seq ?_
      refine WPC.seqR ?_
      iterate 3 refine stp ?_
      refine WPL.nil ?_
      refine WPC.midS (fun e Γ => e = [(0, .pointer (some ⟨db, 0, none⟩)), (2, .int .i64 (n : Int)), (8, .pointer (some ⟨bj, 0, none⟩))] ∧ Γ = [cells true bj 0 [.pointer (some ⟨db, 0, none⟩), .int .i64 (at_ : Int), .int .i64 (n : Int), .int .u64 (F : Int), .int .u64 (E : Int), .int .u64 (Lw : Int), .slice none 0 0], rdisk db d]) ?_ ?_
      · refine WPC.cond rfl (fun h2 => ?_) (fun h2 => ?_)
        · have hsq : (last d (at_ : Int)).seq ≠ 0 := by simp at h2; omega
          obtain ⟨-, hb12, hFn, hEn, hLn⟩ := hcase.resolve_left (fun h => hsq h.1)
          have hc1 := hs1.cap
          refine WPC.seq ?_
          refine WPC.seqR ?_
          iterate 4 refine stp ?_
          refine WPL.nil ?_
          refine WPC.cond rfl (fun h3 => ?_) (fun h3 => ?_)
          · try simp only [decide_eq_true_eq, decide_eq_false_iff_not, beq_iff_eq, bne_iff_ne, beq_eq_false_iff_ne, bne_eq_false_iff_eq, Bool.not_eq_true', Bool.not_eq_false', Bool.not_eq_eq_eq_not, Bool.not_true, Bool.not_false, ne_eq, Decidable.not_not, Int.not_lt, Int.not_le, gt_iff_lt, ge_iff_le] at h3
            omega
          · skip
            refine WPC.skip ?_
            refine thenQ_n ?_
            refine WPC.seqR ?_
            iterate 3 refine stp ?_
            refine L_s (q_sliceLH (l := 0) (j := 4) sl_sl_uint8 rfl rfl rfl (by omega) (by omega)) rfl ?_
            refine WPL.imp ((Imp.pk (Δ := [sl false a1 ((last d (at_ : Int)).b.map u8), cells true bR 0 [.int .u32 ((last d (at_ : Int)).seq : Int), .int .u32 0, .slice a1 (last d (at_ : Int)).b.length c1], cells true bj 0 [.pointer (some ⟨db, 0, none⟩), .int .i64 (at_ : Int), .int .i64 (n : Int), .int .u64 1, .int .u64 0, .int .u64 0, .slice none 0 0], rdisk db d])).trans (Imp.cutRo hs1 (l := 0) (k := 4) (m := c1) (by omega) (by omega) (by omega))) ?_
            refine kall rfl (c_Of01 (p := false) (hs1.cutB (l := 0) (k := 4) (m := c1) (by omega) (by omega) (by omega)) (by omega)) ?_
            rintro _ _ ⟨rfl, rfl⟩
            rw [show ofLE (((last d (at_ : Int)).b.drop 0).take (4 - 0)) = F from hFn.symm]
            iterate 2 refine stp ?_
            refine sto ?_
            refine WPL.nil ?_
            refine WPC.seqR ?_
            iterate 3 refine stp ?_
            refine L_s (q_sliceLH (l := 4) (j := 8) sl_sl_uint8 rfl rfl rfl (by omega) (by omega)) rfl ?_
            refine WPL.imp ((Imp.pk (Δ := [sl false a1 ((last d (at_ : Int)).b.map u8), cells true bR 0 [.int .u32 ((last d (at_ : Int)).seq : Int), .int .u32 0, .slice a1 (last d (at_ : Int)).b.length c1], cells true bj 0 [.pointer (some ⟨db, 0, none⟩), .int .i64 (at_ : Int), .int .i64 (n : Int), .int .u64 (F : Int), .int .u64 0, .int .u64 0, .slice none 0 0], rdisk db d])).trans (Imp.cutRo hs1 (l := 4) (k := 8) (m := c1) (by omega) (by omega) (by omega))) ?_
            refine kall rfl (c_Of01 (p := false) (hs1.cutB (l := 4) (k := 8) (m := c1) (by omega) (by omega) (by omega)) (by omega)) ?_
            rintro _ _ ⟨rfl, rfl⟩
            rw [show ofLE (((last d (at_ : Int)).b.drop 4).take (8 - 4)) = E from hEn.symm]
            iterate 2 refine stp ?_
            refine sto ?_
            refine WPL.nil ?_
            refine WPC.seqR ?_
            iterate 3 refine stp ?_
            refine L_s (q_sliceLH (l := 8) (j := 12) sl_sl_uint8 rfl rfl rfl (by omega) (by omega)) rfl ?_
            refine WPL.imp ((Imp.pk (Δ := [sl false a1 ((last d (at_ : Int)).b.map u8), cells true bR 0 [.int .u32 ((last d (at_ : Int)).seq : Int), .int .u32 0, .slice a1 (last d (at_ : Int)).b.length c1], cells true bj 0 [.pointer (some ⟨db, 0, none⟩), .int .i64 (at_ : Int), .int .i64 (n : Int), .int .u64 (F : Int), .int .u64 (E : Int), .int .u64 0, .slice none 0 0], rdisk db d])).trans (Imp.cutRo hs1 (l := 8) (k := 12) (m := c1) (by omega) (by omega) (by omega))) ?_
            refine kall rfl (c_Of01 (p := false) (hs1.cutB (l := 8) (k := 12) (m := c1) (by omega) (by omega) (by omega)) (by omega)) ?_
            rintro _ _ ⟨rfl, rfl⟩
            rw [show ofLE (((last d (at_ : Int)).b.drop 8).take (12 - 8)) = Lw from hLn.symm]
            iterate 2 refine stp ?_
            refine sto ?_
            refine WPL.nil ?_
            refine WPC.seqQ mixed (by kernel_rfl) ?_
            iterate 6 refine stq ?_
            apply WPQ.joinO (e' := [(0, _), (1, _), (2, _), (6, _), (7, _), (8, _), (9, _), (10, _), (40, _), (41, _), (42, _), (43, _), (44, _), (45, _), (46, _), (47, _), (48, _), (49, _), (50, _), (51, _), (52, _), (53, _), (54, _), (55, _), (56, _), (57, _), (58, _), (59, _), (60, _), (61, _), (62, _), (63, _), (64, _), (65, _), (66, _), (67, _), (68, _), (69, _), (70, _), (71, _), (72, _), (73, _), (74, _), (75, _), (76, _), (77, _), (78, _), (79, _), (80, _), (81, _), (82, _), (83, _), (84, _)]) 85 95 10 rfl
            · intro g13_5
              try simp only [decide_eq_true_eq, decide_eq_false_iff_not, beq_iff_eq, bne_iff_ne, beq_eq_false_iff_ne, bne_eq_false_iff_eq, Bool.not_eq_true', Bool.not_eq_false', Bool.not_eq_eq_eq_not, Bool.not_true, Bool.not_false, ne_eq, Decidable.not_not, Int.not_lt, Int.not_le, gt_iff_lt, ge_iff_le] at g13_5
              refine WPQ.no rfl rfl rfl rfl ?_
              refine WPQ.no rfl rfl rfl rfl ?_
              refine WPQ.no rfl rfl rfl rfl ?_
              refine WPQ.no rfl rfl rfl rfl ?_
              refine WPQ.no rfl rfl rfl rfl ?_
              refine WPQ.no rfl rfl rfl rfl ?_
              refine WPQ.no rfl rfl rfl rfl ?_
              refine WPQ.no rfl rfl rfl rfl ?_
              refine WPQ.no rfl rfl rfl rfl ?_
              refine stq ?_
              exact WPQ.jn rfl rfl sbb
            · intro g13_5
              try simp only [decide_eq_true_eq, decide_eq_false_iff_not, beq_iff_eq, bne_iff_ne, beq_eq_false_iff_ne, bne_eq_false_iff_eq, Bool.not_eq_true', Bool.not_eq_false', Bool.not_eq_eq_eq_not, Bool.not_true, Bool.not_false, ne_eq, Decidable.not_not, Int.not_lt, Int.not_le, gt_iff_lt, ge_iff_le] at g13_5
              iterate 9 refine stqY rfl rfl ?_
              refine stq ?_
              exact WPQ.jn rfl rfl sbb
            refine WPQ.nil ?_
            refine WPC.cond rfl (fun h4 => ?_) (fun h4 => ?_)
            · try simp only [decide_eq_true_eq, decide_eq_false_iff_not, beq_iff_eq, bne_iff_ne, beq_eq_false_iff_ne, bne_eq_false_iff_eq, Bool.not_eq_true', Bool.not_eq_false', Bool.not_eq_eq_eq_not, Bool.not_true, Bool.not_false, ne_eq, Decidable.not_not, Int.not_lt, Int.not_le, gt_iff_lt, ge_iff_le] at h4
              simp only [Bool.or_eq_true, decide_eq_true_eq, beq_iff_eq] at h4
              omega
            · skip
              refine WPC.skip ?_
              refine thenQ_n ?_
              exact ⟨rfl, _, _, ⟨rfl, rfl⟩, sbb, Imp.pk⟩
        · have hsq : (last d (at_ : Int)).seq = 0 := by simp at h2; omega
          obtain ⟨-, hF0, hE0, hL0⟩ := hcase.resolve_right (fun h => h.1 hsq)
          refine WPC.skip ?_
          refine thenQ_n ?_
          exact ⟨rfl, _, _, ⟨rfl, by rw [hF0, hE0, hL0]⟩, sbb, Imp.pk⟩
      · rintro e Γ ⟨rfl, rfl⟩
        refine WPC.seq ?_
        refine WPC.seqR ?_
        iterate 5 refine stp ?_
        refine WPL.nil ?_
        refine WPC.cond rfl (fun h5 => ?_) (fun h5 => ?_)
        · try simp only [decide_eq_true_eq, decide_eq_false_iff_not, beq_iff_eq, bne_iff_ne, beq_eq_false_iff_ne, bne_eq_false_iff_eq, Bool.not_eq_true', Bool.not_eq_false', Bool.not_eq_eq_eq_not, Bool.not_true, Bool.not_false, ne_eq, Decidable.not_not, Int.not_lt, Int.not_le, gt_iff_lt, ge_iff_le] at h5
          omega
        · skip
          refine WPC.skip ?_
          refine thenQ_n ?_
          refine WPC.seqR ?_
          iterate 5 refine stp ?_
          refine WPL.nil ?_
          refine WPC.seq ?_
          refine WPC.seqR ?_
          refine stp ?_
          refine WPL.nil ?_
          refine WPC.imp ((Imp.bufNil (sz := 2)).trans bytes_nil) ?_
          refine WPC.midS (fun e Γ => ∃ (rs : List RJ) (a : Option Addr) (c : Nat), rs.map rjP = (JN.scanned d (⟨at_, n, F, E, Lw, []⟩ : JN)).held ∧ (∀ r ∈ rs, r.x.ok) ∧ rs.length ≤ n ∧ e = [(0, .pointer (some ⟨db, 0, none⟩)), (2, .int .i64 (n : Int)), (8, .pointer (some ⟨bj, 0, none⟩))] ∧ Γ = [cells true bj 0 [.pointer (some ⟨db, 0, none⟩), .int .i64 (at_ : Int), .int .i64 (n : Int), .int .u64 (F : Int), .int .u64 (E : Int), .int .u64 (Lw : Int), .slice a (rs).length c], buf 2 a (rs).length c ((rs).flatMap encRJ), bytes ((rs).map (·.x)), rdisk db d]) ?_ ?_
          · refine WPC.block ?_
            refine WPC.loopS (fun m e Γ => ∃ (i lw : Nat) (rs : List RJ) (a : Option Addr) (c : Nat), m = n - i ∧ i ≤ n ∧ lw < 4294967296 ∧ rs.length = i ∧ scanL d at_ n E n Lw F = rs.map rjP ++ scanL d at_ n E (n - i) lw (F + i) ∧ (∀ r ∈ rs, r.x.ok) ∧ e = [(0, .pointer (some ⟨db, 0, none⟩)), (2, .int .i64 (n : Int)), (8, .pointer (some ⟨bj, 0, none⟩)), (11, .int .u64 (lw : Int)), (12, .int .i64 (i : Int))] ∧ Γ = [cells true bj 0 [.pointer (some ⟨db, 0, none⟩), .int .i64 (at_ : Int), .int .i64 (n : Int), .int .u64 (F : Int), .int .u64 (E : Int), .int .u64 (Lw : Int), .slice a (rs).length c], buf 2 a (rs).length c ((rs).flatMap encRJ), bytes ((rs).map (·.x)), rdisk db d]) (n) ⟨0, Lw, [], none, 0, rfl, by omega, by omega, rfl, rfl, by simp, rfl, rfl⟩ sbb Imp.pk ?_
            rintro m e Γ ⟨i, lw, rs, a, c, rfl, hi, hlw, hri, hsc, hrok, rfl, rfl⟩
            refine WPC.seq ?_
            refine WPC.seqR ?_
            iterate 3 refine stp ?_
            refine WPL.nil ?_
            refine WPC.cond rfl (fun h6 => ?_) (fun h6 => ?_)
            · have hin : i < n := by simp only [decide_eq_true_eq] at h6; omega
              have hmod := Nat.mod_lt (F + i) (show 0 < n by omega)
              obtain ⟨PP, hPP⟩ : ∃ PP, at_ + 2 + (F + i) % n = PP := ⟨_, rfl⟩
              have hPl : PP < d.seen.length := by omega
              have hrd : d.read ((at_ + 2 + (F + i) % n : Nat) : Int) = some (ring d.seen PP) := by rw [hPP]; exact read_ring hPl
              have hSE := pS_lt (ring d.seen PP).1
              refine WPC.skip ?_
              refine thenQ_n ?_
              refine WPC.seq ?_
              refine WPC.block ?_
              refine WPC.seqR ?_
              iterate 6 refine stp ?_
              refine L_s (q_addUN (a := F) (b := i) rfl rfl (by omega)) rfl ?_
              refine stp ?_
              refine WPL.nil ?_
              refine WPC.seqR ?_
              iterate 3 refine stp ?_
              refine kall rfl (c_RPlace (L := ⟨rs, a, c⟩) (j := (⟨at_, n, F, E, Lw, []⟩ : JN)) (s := F + i) (by omega) hn (show at_ ≤ 1000 by omega)) ?_
              rintro _ _ ⟨rfl, rfl⟩
              rw [show JN.place (⟨at_, n, F, E, Lw, []⟩ : JN) (F + i) = PP from hPP]
              refine kall rfl (c_RRead hok hpl hPl hvis) ?_
              rintro _ _ ⟨a2, c2, rfl, hs2, rfl⟩
              iterate 5 refine stp ?_
              refine WPL.nil ?_
              refine WPC.seqR ?_
              refine stp ?_
              refine kall rfl (c_RParse (ring d.seen PP) hs2) ?_
              rintro _ _ ⟨a3, c3, rfl, hs3, rfl⟩
              refine nw fun bQ => ?_
              refine sto ?_
              refine WPL.nil ?_
              refine WPC.seq ?_
              refine WPC.seqQ mixed (by kernel_rfl) ?_
              iterate 3 refine stq ?_
              apply WPQ.joinO (e' := [(0, _), (2, _), (8, _), (11, _), (12, _), (13, _), (14, _), (15, _), (16, _), (105, _), (106, _), (107, _), (110, _), (111, _), (112, _), (113, _), (114, _), (115, _), (116, _), (117, _), (118, _), (119, _), (120, _), (121, _), (122, _), (123, _), (124, _), (125, _), (126, _), (127, _), (128, _)]) 129 135 6 rfl
              · intro g24_2
                try simp only [decide_eq_true_eq, decide_eq_false_iff_not, beq_iff_eq, bne_iff_ne, beq_eq_false_iff_ne, bne_eq_false_iff_eq, Bool.not_eq_true', Bool.not_eq_false', Bool.not_eq_eq_eq_not, Bool.not_true, Bool.not_false, ne_eq, Decidable.not_not, Int.not_lt, Int.not_le, gt_iff_lt, ge_iff_le] at g24_2
                refine WPQ.no rfl rfl rfl rfl ?_
                refine WPQ.no rfl rfl rfl rfl ?_
                refine WPQ.no rfl rfl rfl rfl ?_
                refine WPQ.no rfl rfl rfl rfl ?_
                refine WPQ.no rfl rfl rfl rfl ?_
                refine stq ?_
                exact WPQ.jn rfl rfl sbb
              · intro g24_2
                try simp only [decide_eq_true_eq, decide_eq_false_iff_not, beq_iff_eq, bne_iff_ne, beq_eq_false_iff_ne, bne_eq_false_iff_eq, Bool.not_eq_true', Bool.not_eq_false', Bool.not_eq_eq_eq_not, Bool.not_true, Bool.not_false, ne_eq, Decidable.not_not, Int.not_lt, Int.not_le, gt_iff_lt, ge_iff_le] at g24_2
                iterate 5 refine stqY rfl rfl ?_
                refine stq ?_
                exact WPQ.jn rfl rfl sbb
              refine stq ?_
              apply WPQ.joinO (e' := [(0, _), (2, _), (8, _), (11, _), (12, _), (13, _), (14, _), (15, _), (16, _), (105, _), (106, _), (107, _), (110, _), (111, _), (112, _), (113, _), (114, _), (115, _), (116, _), (117, _), (118, _), (119, _), (120, _), (121, _), (122, _), (123, _), (124, _), (125, _), (126, _), (127, _), (128, _), (135, _)]) 136 142 6 rfl
              · intro g24_9
                try simp only [decide_eq_true_eq, decide_eq_false_iff_not, beq_iff_eq, bne_iff_ne, beq_eq_false_iff_ne, bne_eq_false_iff_eq, Bool.not_eq_true', Bool.not_eq_false', Bool.not_eq_eq_eq_not, Bool.not_true, Bool.not_false, ne_eq, Decidable.not_not, Int.not_lt, Int.not_le, gt_iff_lt, ge_iff_le] at g24_9
                refine WPQ.no rfl rfl rfl rfl ?_
                refine WPQ.no rfl rfl rfl rfl ?_
                refine WPQ.no rfl rfl rfl rfl ?_
                refine WPQ.no rfl rfl rfl rfl ?_
                refine WPQ.no rfl rfl rfl rfl ?_
                refine stq ?_
                exact WPQ.jn rfl rfl sbb
              · intro g24_9
                try simp only [decide_eq_true_eq, decide_eq_false_iff_not, beq_iff_eq, bne_iff_ne, beq_eq_false_iff_ne, bne_eq_false_iff_eq, Bool.not_eq_true', Bool.not_eq_false', Bool.not_eq_eq_eq_not, Bool.not_true, Bool.not_false, ne_eq, Decidable.not_not, Int.not_lt, Int.not_le, gt_iff_lt, ge_iff_le] at g24_9
                iterate 5 refine stqY rfl rfl ?_
                refine stq ?_
                exact WPQ.jn rfl rfl sbb
              refine stq ?_
              apply WPQ.joinO (e' := [(0, _), (2, _), (8, _), (11, _), (12, _), (13, _), (14, _), (15, _), (16, _), (105, _), (106, _), (107, _), (110, _), (111, _), (112, _), (113, _), (114, _), (115, _), (116, _), (117, _), (118, _), (119, _), (120, _), (121, _), (122, _), (123, _), (124, _), (125, _), (126, _), (127, _), (128, _), (135, _), (142, _)]) 143 152 9 rfl
              · intro g24_16
                try simp only [decide_eq_true_eq, decide_eq_false_iff_not, beq_iff_eq, bne_iff_ne, beq_eq_false_iff_ne, bne_eq_false_iff_eq, Bool.not_eq_true', Bool.not_eq_false', Bool.not_eq_eq_eq_not, Bool.not_true, Bool.not_false, ne_eq, Decidable.not_not, Int.not_lt, Int.not_le, gt_iff_lt, ge_iff_le] at g24_16
                refine WPQ.no rfl rfl rfl rfl ?_
                refine WPQ.no rfl rfl rfl rfl ?_
                refine WPQ.no rfl rfl rfl rfl ?_
                refine WPQ.no rfl rfl rfl rfl ?_
                refine WPQ.no rfl rfl rfl rfl ?_
                refine WPQ.no rfl rfl rfl rfl ?_
                refine WPQ.no rfl rfl rfl rfl ?_
                refine WPQ.no rfl rfl rfl rfl ?_
                refine stq ?_
                exact WPQ.jn rfl rfl sbb
              · intro g24_16
                try simp only [decide_eq_true_eq, decide_eq_false_iff_not, beq_iff_eq, bne_iff_ne, beq_eq_false_iff_ne, bne_eq_false_iff_eq, Bool.not_eq_true', Bool.not_eq_false', Bool.not_eq_eq_eq_not, Bool.not_true, Bool.not_false, ne_eq, Decidable.not_not, Int.not_lt, Int.not_le, gt_iff_lt, ge_iff_le] at g24_16
                iterate 8 refine stqY rfl rfl ?_
                refine stq ?_
                exact WPQ.jn rfl rfl sbb
              refine WPQ.nil ?_
              refine WPC.cond rfl (fun h7 => ?_) (fun h7 => ?_)
              · skip
                refine WPC.exit ?_
                refine thenQ_e ?_
                refine blockQ_there (by decide) ?_
                refine thenQ_e ?_
                refine thenQ_e ?_
                refine blockQ_here ?_
                refine thenQ_n ?_
                exact ⟨rfl, _, _, ⟨rs, a, c, by
                  show rs.map rjP = scanL d at_ n E n Lw F
                  rw [hsc, scan_stop hrd (by simp only [Bool.or_eq_true, decide_eq_true_eq, bne_iff_ne, ne_eq, gt_iff_lt] at h7; omega), List.append_nil], hrok, by omega, rfl, rfl⟩, sbb, Imp.pk⟩
              · simp only [Bool.or_eq_false_iff, decide_eq_false_iff_not, bne_eq_false_iff_eq, gt_iff_lt, Int.not_lt] at h7
                have hyes := scanL_yes (f := n - i - 1) (low := lw) (epoch := E) hrd (by omega) ⟨pOk_pos.2 (by omega), by omega, by omega, by omega⟩
                rw [show n - i - 1 + 1 = n - i by omega] at hyes
                rw [hyes] at hsc
                refine WPC.skip ?_
                refine thenQ_n ?_
                refine WPC.seqR ?_
                iterate 4 refine stp ?_
                refine WPL.nil ?_
                refine WPC.draw mixed ?_
                refine atP 0 rfl ?_
                refine atP 1 rfl ?_
                refine atP 2 rfl ?_
                refine atP 3 rfl ?_
                refine atL 4 rfl ?_
                refine atP 5 rfl ?_
                refine atP 6 rfl ?_
                refine atL 7 rfl ?_
                refine WPA.takeP 8 rfl (q_build (cs := [_, _]) pl_pursuivantref06_Record rfl rfl) (by kernel_rfl) (by kernel_rfl) (by kernel_rfl) rfl rfl (.cons (Ent.mem mm) (.cons (Ent.mem mm) (.nil _))) ?_
                refine WPA.putS ?_
                refine WPA.oneE 9 [(4, [_])] (by kernel_rfl) rfl rfl (by repeat (first | exact .nil | refine .anc rfl ?_ | refine .keep mm ?_)) (E1.wpo (e_buildSlice (cs := [_, _]) mk_sl_pursuivantref06_Record (by decide) rfl rfl rfl) rfl ?_)
                rintro _ _ ⟨bE, rfl, rfl⟩
                refine ⟨(.cons (Ent.mem mm) (.nil _)), ?_⟩
                refine WPA.putS ?_
                refine WPA.oneE 10 [] (by kernel_rfl) rfl rfl (by repeat (first | exact .nil | refine .anc rfl ?_ | refine .keep mm ?_)) (E1.wpo (e_ap1 (n := rs.length) (cs := rs.flatMap encRJ) rfl rfl) rfl ?_)
                rintro _ _ ⟨a4, c4, rfl, rfl⟩
                rw [show rs.flatMap encRJ ++ [.int .u64 (pE (ring d.seen PP).1 : Int), .slice a3 (pB (ring d.seen PP).1).length c3] = (rs ++ [(⟨pE (ring d.seen PP).1, ⟨pB (ring d.seen PP).1, a3, (pB (ring d.seen PP).1).length, c3⟩⟩ : RJ)]).flatMap encRJ by rw [flat_snoc], show rs.length + 1 = (rs ++ [(⟨pE (ring d.seen PP).1, ⟨pB (ring d.seen PP).1, a3, (pB (ring d.seen PP).1).length, c3⟩⟩ : RJ)]).length by simp]
                refine ⟨(.nil _), ?_⟩
                refine WPA.putS ?_
                refine atP 11 rfl ?_
                refine atP 12 rfl ?_
                refine WPA.oneE 13 [] (by kernel_rfl) rfl rfl (by repeat (first | exact .nil | refine .anc rfl ?_ | refine .keep mm ?_)) (S1.wpo (s_store1k sz_sl_pursuivantref06_Record rfl rfl rfl rfl uu (by repeat constructor)) rfl ?_)
                refine ⟨(.nil _), ?_⟩
                refine WPA.putN ?_
                refine WPA.done (by kernel_rfl) ?_
                refine blockQ_n ?_
                refine thenQ_n ?_
                refine WPC.region ?_
                refine WPL.imp ((Imp.pk (Δ := [BS.at_ (⟨pE (ring d.seen PP).1, ⟨pB (ring d.seen PP).1, a3, (pB (ring d.seen PP).1).length, c3⟩⟩ : RJ).x, bytes ((rs).map (·.x)), cells true bj 0 [.pointer (some ⟨db, 0, none⟩), .int .i64 (at_ : Int), .int .i64 (n : Int), .int .u64 (F : Int), .int .u64 (E : Int), .int .u64 (Lw : Int), .slice a4 ((rs ++ [(⟨pE (ring d.seen PP).1, ⟨pB (ring d.seen PP).1, a3, (pB (ring d.seen PP).1).length, c3⟩⟩ : RJ)])).length c4], buf 2 a4 ((rs ++ [(⟨pE (ring d.seen PP).1, ⟨pB (ring d.seen PP).1, a3, (pB (ring d.seen PP).1).length, c3⟩⟩ : RJ)])).length c4 (((rs ++ [(⟨pE (ring d.seen PP).1, ⟨pB (ring d.seen PP).1, a3, (pB (ring d.seen PP).1).length, c3⟩⟩ : RJ)])).flatMap encRJ), rdisk db d])).trans bytes_snoc) ?_
                iterate 3 refine stp ?_
                refine WPL.nil ?_
                refine thenQ_n ?_
                exact ⟨rfl, _, _, _, by omega, ⟨i + 1, pE (ring d.seen PP).1, (rs ++ [(⟨pE (ring d.seen PP).1, ⟨pB (ring d.seen PP).1, a3, (pB (ring d.seen PP).1).length, c3⟩⟩ : RJ)]), a4, c4, rfl, by omega, by omega, by simp [hri], by rw [hsc, List.map_append, List.append_assoc, show n - i - 1 = n - (i + 1) by omega]; rfl, fun r hr => by
                    rcases List.mem_append.1 hr with hr | hr
                    · exact hrok r hr
                    · rw [List.mem_singleton.1 hr]; exact hs3, rfl, by rw [List.map_append]⟩, sbb, Imp.pk⟩
            · have hin : i = n := by simp only [decide_eq_false_iff_not] at h6; omega
              refine WPC.exit ?_
              refine thenQ_e ?_
              refine thenQ_e ?_
              refine blockQ_here ?_
              refine thenQ_n ?_
              exact ⟨rfl, _, _, ⟨rs, a, c, by
                show rs.map rjP = scanL d at_ n E n Lw F
                rw [hsc, show n - i = 0 by omega]; simp [scanL], hrok, by omega, rfl, rfl⟩, sbb, Imp.pk⟩
          · rintro e Γ ⟨rs, a, c, hsc, hrok, hrn, rfl, rfl⟩
            obtain ⟨D, hDe, hDu, hDok, hDl, hDv, hDp, hDq, hDy, hDn⟩ := open_facts (j1 := (JN.scanned d (⟨at_, n, F, E, Lw, []⟩ : JN))) hok hup hvis hn.1 rfl hat
            have hrl : rs.length = (JN.scanned d (⟨at_, n, F, E, Lw, []⟩ : JN)).held.length := by rw [← hsc, List.length_map]
            refine WPC.seq ?_
            refine WPC.seqR ?_
            iterate 7 refine stp ?_
            refine WPL.nil ?_
            refine WPC.midS (fun e Γ => e = [(8, .pointer (some ⟨bj, 0, none⟩))] ∧ Γ = [cells true bj 0 [.pointer (some ⟨db, 0, none⟩), .int .i64 (at_ : Int), .int .i64 (n : Int), .int .u64 (F : Int), .int .u64 (E : Int), .int .u64 (Lw : Int), .slice a (rs).length c], buf 2 a (rs).length c ((rs).flatMap encRJ), bytes ((rs).map (·.x)), rdisk db D]) ?_ ?_
            · refine WPC.cond rfl (fun h8 => ?_) (fun h8 => ?_)
              · have hlt : (JN.scanned d (⟨at_, n, F, E, Lw, []⟩ : JN)).held.length < n := by simp at h8; omega
                have hmod := Nat.mod_lt (JN.next (JN.scanned d (⟨at_, n, F, E, Lw, []⟩ : JN))) (show 0 < n by omega)
                have hnx : F + rs.length = JN.next (JN.scanned d (⟨at_, n, F, E, Lw, []⟩ : JN)) := by rw [hrl]; rfl
                have hDy2 := hDy hlt
                have hpl2 : JN.place (JN.scanned d (⟨at_, n, F, E, Lw, []⟩ : JN)) (JN.next (JN.scanned d (⟨at_, n, F, E, Lw, []⟩ : JN))) < d.seen.length := by show at_ + 2 + _ % n < _; omega
                refine WPC.draw mixed ?_
                refine atP 0 rfl ?_
                refine atP 1 rfl ?_
                refine atP 2 rfl ?_
                refine atP 3 rfl ?_
                refine atP 4 rfl ?_
                refine atL 5 rfl ?_
                refine atP 6 rfl ?_
                refine atP 7 rfl ?_
                refine atP 8 rfl ?_
                refine atL 9 rfl ?_
                refine atP 10 rfl ?_
                refine atP 11 rfl ?_
                refine WPA.takeP 12 rfl (q_addUN (a := F) (b := rs.length) rfl rfl (by omega)) (by kernel_rfl) (by kernel_rfl) (by kernel_rfl) rfl rfl (.cons (Ent.mem mm) (.cons (Ent.mem mm) (.nil _))) ?_
                refine WPA.putS ?_
                rw [hnx]
                refine WPA.oneE 13 [] (by kernel_rfl) rfl rfl (by repeat (first | exact .nil | refine .anc rfl ?_ | refine .keep mm ?_)) (C1.call (c_call Tryd.func50 rfl rfl rfl) (c_RPlace (L := ⟨rs, a, c⟩) (j := (⟨at_, n, F, E, Lw, []⟩ : JN)) (s := JN.next (JN.scanned d (⟨at_, n, F, E, Lw, []⟩ : JN))) (by omega) hn (show at_ ≤ 1000 by omega)) pkk rfl ?_)
                rintro _ _ ⟨rfl, rfl⟩
                rw [show JN.place (⟨at_, n, F, E, Lw, []⟩ : JN) (JN.next (JN.scanned d (⟨at_, n, F, E, Lw, []⟩ : JN))) = JN.place (JN.scanned d (⟨at_, n, F, E, Lw, []⟩ : JN)) (JN.next (JN.scanned d (⟨at_, n, F, E, Lw, []⟩ : JN))) from rfl]
                refine ⟨(.nil _), ?_⟩
                refine WPA.putS ?_
                refine WPA.imp (Imp.slEmpty (p := false) (a := none)) ?_
                refine WPA.oneE 14 [] (by kernel_rfl) rfl rfl (by repeat (first | exact .nil | refine .anc rfl ?_ | refine .keep mm ?_)) (C1.call (c_call Tryd.func52 rfl rfl rfl) (c_RWrite (xs := []) (c := 0) (p := false) hok hpl hpl2 ⟨rfl, Nat.le_refl _, .inl rfl⟩ (by simp)) pkk rfl ?_)
                rintro _ _ ⟨rfl, rfl⟩
                rw [← hDy2]
                refine ⟨(.nil _), ?_⟩
                refine WPA.putS ?_
                refine WPA.done (by kernel_rfl) ?_
                refine thenQ_n ?_
                exact ⟨rfl, _, _, ⟨rfl, rfl⟩, sbb, Imp.pk⟩
              · have hlt : ¬ (JN.scanned d (⟨at_, n, F, E, Lw, []⟩ : JN)).held.length < n := by simp at h8; omega
                refine WPC.skip ?_
                refine thenQ_n ?_
                exact ⟨rfl, _, _, ⟨rfl, by rw [hDn hlt]⟩, sbb, Imp.pk⟩
            · rintro e Γ ⟨rfl, rfl⟩
              refine WPC.seqR ?_
              iterate 5 refine stp ?_
              refine L_s (q_addUN (a := E) (b := 1) rfl rfl (by omega)) rfl ?_
              iterate 2 refine stp ?_
              refine sto ?_
              refine WPL.nil ?_
              refine WPC.seqR ?_
              refine stp ?_
              refine kall rfl (c_RJsave (L := ⟨rs, a, c⟩) (j := openJ (JN.scanned d (⟨at_, n, F, E, Lw, []⟩ : JN))) hDok (by omega) hDv hDu (show at_ + 1 < _ by omega) (show F < _ from hF) (show E + 1 < _ by omega) (show Lw < _ by omega) (show (last D (at_ : Int)).seq < _ from by rw [show last D (at_ : Int) = last d (at_ : Int) from hDq]; exact hq)) ?_
              rintro _ _ ⟨rfl, rfl⟩
              refine stp ?_
              refine WPL.nil ?_
              refine WPC.seq ?_
              refine WPC.seqR ?_
              iterate 2 refine stp ?_
              refine WPL.nil ?_
              refine WPC.cond rfl (fun h9 => ?_) (fun h9 => ?_)
              · try simp only [decide_eq_true_eq, decide_eq_false_iff_not, beq_iff_eq, bne_iff_ne, beq_eq_false_iff_ne, bne_eq_false_iff_eq, Bool.not_eq_true', Bool.not_eq_false', Bool.not_eq_eq_eq_not, Bool.not_true, Bool.not_false, ne_eq, Decidable.not_not, Int.not_lt, Int.not_le, gt_iff_lt, ge_iff_le] at h9
                simp at h9
              · skip
                refine WPC.skip ?_
                refine thenQ_n ?_
                refine WPC.seqR ?_
                refine WPL.imp (Imp.pk (Δ := [buf 2 a (rs).length c ((rs).flatMap encRJ), cells true bj 0 (rjC db (openJ (JN.scanned d (⟨at_, n, F, E, Lw, []⟩ : JN))) ⟨rs, a, c⟩), bytes ((rs).map (·.x)), rdisk db (jsave D (openJ (JN.scanned d (⟨at_, n, F, E, Lw, []⟩ : JN)))).1])) ?_
                refine WPL.bufRo fun hS => ?_
                iterate 3 refine stp ?_
                refine WPL.nil ?_
                refine WPC.ret ?_
                rw [hDe]
                exact endR_r rfl (.tmp rfl (.tmp rfl .nil)) ((Imp.pk).trans (rjour_close (j := openJ (JN.scanned d (⟨at_, n, F, E, Lw, []⟩ : JN))) ⟨rs, a, c⟩ ⟨hsc, hrok, hS⟩)) ⟨bj, rfl, rfl⟩

end Go.Sl
/- Walks: bytes, pack. -/
namespace Go.Sl
open Go Go.RowKit Go.Proofs
set_option linter.unusedSimpArgs false
set_option linter.unusedVariables false
attribute [local irreducible] faB szB ldB zB zL slB mkB arB plB intB cells objc star stars buf slv grp whole Sat WPC WPL WPA WPO WPQ Trip Q1 E1 S1 C1

theorem c_CloneB {p : Bool} {a : Option Addr} {n c : Nat} {xs : List By} (hs : Sok 1 a n c (xs.map u8)) (hn : n < 1000000) : Trip Tryd.prog 33 #[.slice a n c] [sl p a (xs.map u8)] fun r Δ => ∃ a' c', r = .slice a' n c' ∧ Δ = [buf 1 a' n c' (xs.map u8), sl p a (xs.map u8)] := by
  refine Trip.start 8 [.tmp 2] [(0, .slice a n c)] Tryd.func33 rfl Tryd.ntmps33 rfl ⟨rfl, trivial⟩ rfl ?_
  refine WPC.seqR ?_
  refine stp ?_
  refine WPL.nil ?_
  refine WPC.seq ?_
  refine WPC.seqR ?_
  iterate 2 refine stp ?_
  refine WPL.nil ?_
  refine WPC.cond rfl (fun h0 => ?_) (fun h0 => ?_)
  · simp only [Option.isNone_iff_eq_none] at h0
    have h1 := hs.none0 (by omega) h0
    subst h0 h1
    have h2 : xs = [] := by have := hs.len; simpa using this
    subst h2
    refine WPC.seqR ?_
    refine stp ?_
    refine WPL.nil ?_
    refine WPC.ret ?_
    refine thenQ_r ?_
    exact endR_r rfl (.tmp rfl .nil) (Imp.bufNil.trans Imp.pk) ⟨none, 0, rfl, rfl⟩
  · skip
    refine WPC.skip ?_
    refine thenQ_n ?_
    refine WPC.seqR ?_
    refine nwb [] fun b1 => ?_
    refine stp ?_
    refine WPL.imp (Imp.bufNew (sz := 1) (n := 0) (cs := []) rfl) ?_
    refine WPL.cons rfl (E1.wpo (e_append (n := 0) (cs := []) mk_sl_uint8 (by decide) rfl rfl (Pick1.here (c := buf 1 (some ⟨b1, 0, none⟩) 0 0 [])) (Rd.mem hs (hs.none0 (by omega)) (p := p) mm) (u8_one xs) (by omega) (by omega)) rfl ?_)
    rintro _ _ ⟨a', c', rfl, -, rfl⟩
    simp only [Nat.zero_add, List.nil_append]
    refine WPL.putS ?_
    refine stp ?_
    refine WPL.nil ?_
    refine WPC.ret ?_
    exact endR_r rfl (.tmp rfl .nil) Imp.pk ⟨a', c', rfl, rfl⟩

theorem c_WNumber {b o v k : Nat} {xs : List By} (hk : 1 ≤ k ∧ k ≤ 8) (hx : xs.length ≤ 1000) : Trip Tryd.prog 58 #[.pointer (some ⟨b, o, none⟩), .int .u64 (v : Int), .int .i64 (k : Int)] [wr b o xs] fun r Δ => r = .tuple #[] ∧ Δ = [wr b o (xs ++ le v k)] := by
  refine wr_open fun a c hs => ?_
  refine Trip.start 32 [] [(0, .pointer (some ⟨b, o, none⟩)), (1, .int .u64 (v : Int)), (2, .int .i64 (k : Int))] Tryd.func58 rfl Tryd.ntmps58 rfl ⟨rfl, rfl, rfl, trivial⟩ rfl ?_
  refine WPC.seq ?_
  refine WPC.seqR ?_
  iterate 3 refine stp ?_
  apply WPL.joinO (e' := [(0, _), (1, _), (2, _)]) 9 12 3 rfl
  · intro g0_2
    try simp only [decide_eq_true_eq, decide_eq_false_iff_not, beq_iff_eq, bne_iff_ne, beq_eq_false_iff_ne, bne_eq_false_iff_eq, Bool.not_eq_true', Bool.not_eq_false', Bool.not_eq_eq_eq_not, Bool.not_true, Bool.not_false, ne_eq, Decidable.not_not, Int.not_lt, Int.not_le, gt_iff_lt, ge_iff_le] at g0_2
    refine L_no rfl rfl rfl rfl ?_
    refine L_no rfl rfl rfl rfl ?_
    refine stp ?_
    first | exact WPL.jn rfl rfl sbb | exact WPL.jnI rfl rfl sbb Imp.pk
  · intro g0_2
    try simp only [decide_eq_true_eq, decide_eq_false_iff_not, beq_iff_eq, bne_iff_ne, beq_eq_false_iff_ne, bne_eq_false_iff_eq, Bool.not_eq_true', Bool.not_eq_false', Bool.not_eq_eq_eq_not, Bool.not_true, Bool.not_false, ne_eq, Decidable.not_not, Int.not_lt, Int.not_le, gt_iff_lt, ge_iff_le] at g0_2
    iterate 2 refine stpY rfl rfl ?_
    refine stp ?_
    first | exact WPL.jn rfl rfl sbb | exact WPL.jnI rfl rfl sbb Imp.pk
  refine WPL.nil ?_
  refine WPC.cond rfl (fun h0 => ?_) (fun h0 => ?_)
  · try simp only [decide_eq_true_eq, decide_eq_false_iff_not, beq_iff_eq, bne_iff_ne, beq_eq_false_iff_ne, bne_eq_false_iff_eq, Bool.not_eq_true', Bool.not_eq_false', Bool.not_eq_eq_eq_not, Bool.not_true, Bool.not_false, ne_eq, Decidable.not_not, Int.not_lt, Int.not_le, gt_iff_lt, ge_iff_le] at h0
    simp only [Bool.or_eq_true, decide_eq_true_eq] at h0
    omega
  · skip
    refine WPC.skip ?_
    refine thenQ_n ?_
    refine WPC.seqR ?_
    iterate 2 refine stp ?_
    refine WPL.nil ?_
    rw [show xs.map u8 = (xs ++ le v 0).map u8 by simp [le]]
    refine WPC.block ?_
    refine WPC.loopS (fun m e Γ => ∃ (i : Nat) (a2 : Option Addr) (c2 : Nat), m = k - i ∧ i ≤ k ∧ e = [(0, .pointer (some ⟨b, o, none⟩)), (1, .int .u64 (v : Int)), (13, .int .i64 (k : Int)), (14, .int .i64 (i : Int))] ∧ Γ = [cells true b o [.slice a2 (xs.length + i) c2], buf 1 a2 (xs.length + i) c2 ((xs ++ le v i).map u8)]) (k) ⟨0, a, c, rfl, by omega, rfl, rfl⟩ sbb Imp.pk ?_
    rintro m e Γ ⟨i, a2, c2, rfl, hi, rfl, rfl⟩
    refine WPC.seqR ?_
    refine stp ?_
    refine WPL.nil ?_
    refine WPC.seq ?_
    refine WPC.cond rfl (fun h1 => ?_) (fun h1 => ?_)
    · simp only [decide_eq_true_eq, Int.ofNat_lt] at h1
      have hi' : i < k := by omega
      refine WPC.skip ?_
      refine thenQ_n ?_
      refine WPC.seq ?_
      refine WPC.block ?_
      refine WPC.seqR ?_
      iterate 2 refine stp ?_
      refine WPL.nil ?_
      refine WPC.draw mixed ?_
      refine atP 0 rfl ?_
      refine atP 1 rfl ?_
      refine atP 2 rfl ?_
      refine atP 3 rfl ?_
      refine atL 4 rfl ?_
      refine atP 5 rfl ?_
      refine atP 6 rfl ?_
      refine WPA.takeP 7 rfl (q_mulN (a := 8) (b := i) rfl rfl (by omega)) (by kernel_rfl) (by kernel_rfl) (by kernel_rfl) rfl rfl (.cons (Ent.mem mm) (.nil _)) ?_
      refine WPA.putS ?_
      refine WPA.takeP 8 rfl (q_shrN (a := v) (b := 8 * i) rfl rfl (show 8 * i < 64 by omega)) (by kernel_rfl) (by kernel_rfl) (by kernel_rfl) rfl rfl (.cons (Ent.mem mm) (.nil _)) ?_
      refine WPA.putS ?_
      refine WPA.takeP 9 rfl (q_conv8 in_uint64 in_uint8 rfl) (by kernel_rfl) (by kernel_rfl) (by kernel_rfl) rfl rfl (.cons (Ent.mem mm) (.nil _)) ?_
      refine WPA.putS ?_
      refine WPA.oneE 10 [(4, [_])] (by kernel_rfl) rfl rfl (by repeat (first | exact .nil | refine .anc rfl ?_ | refine .keep mm ?_)) (E1.wpo (e_buildSlice (cs := [_]) mk_sl_uint8 (by decide) rfl rfl rfl) rfl ?_)
      rintro _ _ ⟨bE, rfl, rfl⟩
      refine ⟨(.cons (Ent.mem mm) (.nil _)), ?_⟩
      refine WPA.putS ?_
      refine WPA.oneE 11 [] (by kernel_rfl) rfl rfl (by repeat (first | exact .nil | refine .anc rfl ?_ | refine .keep mm ?_)) (E1.wpo (e_append (m := 1) (news := [by_ (v / 2 ^ (8 * i))].map u8) mk_sl_uint8 (by decide) rfl rfl pk1 (Rd.part (i := 0) (b := bE) (o := 0) (vs := [by_ (v / 2 ^ (8 * i))].map u8) mm rfl rfl rfl) (u8_one _) (by omega) (by omega)) rfl ?_)
      rintro _ _ ⟨a3, c3, rfl, -, rfl⟩
      refine ⟨(.nil _), ?_⟩
      refine WPA.putS ?_
      refine atP 12 rfl ?_
      refine atP 13 rfl ?_
      refine WPA.oneE 14 [] (by kernel_rfl) rfl rfl (by repeat (first | exact .nil | refine .anc rfl ?_ | refine .keep mm ?_)) (S1.wpo (s_store1z sz_sl_uint8 rfl rfl rfl rfl uu (by repeat constructor)) rfl ?_)
      refine ⟨(.nil _), ?_⟩
      refine WPA.putN ?_
      refine WPA.done (by kernel_rfl) ?_
      refine blockQ_n ?_
      refine thenQ_n ?_
      refine WPC.region ?_
      iterate 2 refine stp ?_
      refine WPL.nil ?_
      refine thenQ_n ?_
      exact ⟨rfl, _, _, _, by omega, ⟨i + 1, a3, c3, rfl, by omega, rfl, by rw [le_succ, ← List.append_assoc, List.map_append (l₁ := xs ++ le v i)]⟩, sbb, Imp.pk⟩
    · simp only [decide_eq_false_iff_not] at h1
      have hi' : i = k := by omega
      subst hi'
      refine WPC.exit ?_
      refine thenQ_e ?_
      refine thenQ_e ?_
      refine blockQ_here ?_
      exact endR_n rfl .nil ((Imp.pk).trans (wr_close a2 (xs.length + i) c2 (Γ := []))) ⟨rfl, rfl⟩

theorem c_WOut {b o : Nat} {xs : List By} (hx : xs.length ≤ 1000) : Trip Tryd.prog 60 #[.pointer (some ⟨b, o, none⟩)] [wr b o xs] fun r Δ => ∃ a c, r = .slice a xs.length c ∧ Sok 1 a xs.length c (xs.map u8) ∧ Δ = [sl false a (xs.map u8), wr b o xs] := by
  refine wr_open fun a c hs => ?_
  refine Trip.start 8 [.tmp 2] [(0, .pointer (some ⟨b, o, none⟩))] Tryd.func60 rfl Tryd.ntmps60 rfl ⟨rfl, trivial⟩ rfl ?_
  refine WPC.seqR ?_
  refine stp ?_
  refine WPL.nil ?_
  refine WPC.seqR ?_
  iterate 4 refine stp ?_
  refine WPL.imp (Imp.perm (.swap _ _ _)) ?_
  refine WPL.bufOpen fun sp hs hsp => ?_
  refine kall rfl (c_CloneB (p := true) hs (by omega)) ?_
  rintro _ _ ⟨a', c', rfl, rfl⟩
  refine WPL.bufRo fun hs' => ?_
  refine stp ?_
  refine WPL.nil ?_
  refine WPC.ret ?_
  exact endR_r rfl (.tmp rfl .nil) ((Imp.pk (Δ := [sl true a (xs.map u8), cells true (blk a) (off a + (xs.map u8).length) sp, cells true b o [.slice a xs.length c], sl false a' (xs.map u8)])).trans ((Imp.bufClose hs hsp).trans ((Imp.perm (.swap _ _ _)).trans ((wr_close a xs.length c).trans (Imp.perm (.swap _ _ _)))))) ⟨a', c', rfl, hs', rfl⟩

theorem c_Read {a : Option Addr} {n c : Nat} {xs : List By} (hs : Sok 1 a n c (xs.map u8)) : Trip Tryd.prog 65 #[.slice a n c] [sl false a (xs.map u8)] fun r Δ => ∃ b, r = .pointer (some ⟨b, 0, none⟩) ∧ Δ = [rd b 0 xs false] := by
  refine Trip.start 6 [.tmp 2] [(0, .slice a n c)] Tryd.func65 rfl Tryd.ntmps65 rfl ⟨rfl, trivial⟩ rfl ?_
  refine WPC.seqR ?_
  refine stp ?_
  refine WPL.nil ?_
  refine WPC.seqR ?_
  refine stp ?_
  refine L_s (q_build (cs := [_, _]) pl_pack_Reader rfl rfl) rfl ?_
  refine nw fun b1 => ?_
  refine stp ?_
  refine WPL.nil ?_
  refine WPC.ret ?_
  exact endR_r rfl (.tmp rfl .nil) ((Imp.pk).trans (rd_close (b := b1) (o := 0) (sh := false) a n c hs (Γ := []))) ⟨b1, rfl, rfl⟩

theorem c_take {b o k : Nat} {xs : List By} {sh : Bool} (hk : k < 1000000) (hx : xs.length < 1000000) : Trip Tryd.prog 76 #[.pointer (some ⟨b, o, none⟩), .int .i64 (k : Int)] [rd b o xs sh] fun r Δ => ∃ a c, r = .slice a (rtake xs sh k).1.length c ∧ Sok 1 a (rtake xs sh k).1.length c ((rtake xs sh k).1.map u8) ∧ Δ = [rd b o (rtake xs sh k).2.1 (rtake xs sh k).2.2, sl false a ((rtake xs sh k).1.map u8)] := by
  refine rd_open fun a c hs => ?_
  have hcap := hs.cap
  refine Trip.start 45 [.tmp 4] [(0, .pointer (some ⟨b, o, none⟩)), (1, .int .i64 (k : Int))] Tryd.func76 rfl Tryd.ntmps76 rfl ⟨rfl, rfl, trivial⟩ rfl ?_
  refine WPC.seqR ?_
  refine stp ?_
  refine WPL.nil ?_
  refine WPC.seqR ?_
  iterate 6 refine stp ?_
  apply WPL.joinO (e' := [(0, _), (1, _), (4, _), (6, _)]) 11 19 8 rfl
  · intro g1_5
    try simp only [decide_eq_true_eq, decide_eq_false_iff_not, beq_iff_eq, bne_iff_ne, beq_eq_false_iff_ne, bne_eq_false_iff_eq, Bool.not_eq_true', Bool.not_eq_false', Bool.not_eq_eq_eq_not, Bool.not_true, Bool.not_false, ne_eq, Decidable.not_not, Int.not_lt, Int.not_le, gt_iff_lt, ge_iff_le] at g1_5
    refine L_no rfl rfl rfl rfl ?_
    refine L_no rfl rfl rfl rfl ?_
    refine L_no rfl rfl rfl rfl ?_
    refine L_no rfl rfl rfl rfl ?_
    refine L_no rfl rfl rfl rfl ?_
    refine L_no rfl rfl rfl rfl ?_
    refine L_no rfl rfl rfl rfl ?_
    refine stp ?_
    first | exact WPL.jn rfl rfl sbb | exact WPL.jnI rfl rfl sbb Imp.pk
  · intro g1_5
    try simp only [decide_eq_true_eq, decide_eq_false_iff_not, beq_iff_eq, bne_iff_ne, beq_eq_false_iff_ne, bne_eq_false_iff_eq, Bool.not_eq_true', Bool.not_eq_false', Bool.not_eq_eq_eq_not, Bool.not_true, Bool.not_false, ne_eq, Decidable.not_not, Int.not_lt, Int.not_le, gt_iff_lt, ge_iff_le] at g1_5
    iterate 7 refine stpY rfl rfl ?_
    refine stp ?_
    first | exact WPL.jn rfl rfl sbb | exact WPL.jnI rfl rfl sbb Imp.pk
  iterate 2 refine stp ?_
  refine sto ?_
  refine WPL.nil ?_
  refine WPC.seq ?_
  refine WPC.seqR ?_
  iterate 4 refine stp ?_
  refine WPL.nil ?_
  refine WPC.cond rfl (fun h0 => ?_) (fun h0 => ?_)
  · rw [h0]
    have e1 : rtake xs sh k = ([], [], true) := by unfold rtake; rw [if_pos (by simpa using h0)]
    rw [e1]
    refine WPC.seqR ?_
    iterate 3 refine stp ?_
    refine sto ?_
    refine WPL.nil ?_
    refine WPC.seqR ?_
    refine stp ?_
    refine WPL.nil ?_
    refine WPC.ret ?_
    refine thenQ_r ?_
    exact endR_r rfl (.tmp rfl .nil) ((Imp.slEmpty (p := false) (a := none)).trans ((Imp.slEmpty (p := false) (a := none)).trans ((Imp.pk).trans (rd_close (xs := []) (b := b) (o := o) (sh := true) none 0 0 ⟨rfl, Nat.le_refl _, .inl rfl⟩ (Γ := [sl false none []]))))) ⟨none, 0, rfl, ⟨rfl, Nat.le_refl _, .inl rfl⟩, rfl⟩
  · rw [h0]
    have e1 : rtake xs sh k = (xs.take k, xs.drop k, false) := by unfold rtake; rw [if_neg (by simp at h0 ⊢; exact h0)]
    have e2 : sh = false ∧ k ≤ xs.length := by simp at h0; exact ⟨h0.1, by omega⟩
    obtain ⟨rfl, hkl⟩ := e2
    rw [e1]
    refine WPC.skip ?_
    refine thenQ_n ?_
    refine WPC.seqR ?_
    iterate 5 refine stp ?_
    refine L_s (q_sliceHi sl_sl_uint8 rfl rfl (by omega)) rfl ?_
    refine stp ?_
    refine WPL.nil ?_
    refine WPC.seqR ?_
    iterate 6 refine stp ?_
    refine L_s (q_sliceLoC sl_sl_uint8 rfl rfl (by omega) (by omega)) rfl ?_
    iterate 2 refine stp ?_
    refine sto ?_
    refine WPL.nil ?_
    refine WPC.prune [(4, _), (5, _)] sbb ?_
    refine WPC.seqR ?_
    iterate 2 refine stp ?_
    refine WPL.nil ?_
    refine WPC.ret ?_
    have s1 := hs.cutB (l := 0) (k := k) (m := c) (by omega) hkl (by omega)
    have s2 := hs.cutB (l := k) (k := xs.length) (m := c) hkl (by omega) (by omega)
    simp only [List.drop_zero, Nat.sub_zero, Nat.zero_mul, cut_zero] at s1
    rw [List.take_of_length_le (i := xs.length - k) (by simp)] at s2
    have i1 := Imp.cutRo hs (l := 0) (k := k) (m := c) (Γ := [cells true b o [.slice (cut a c k (k * 1)) (xs.length - k) (c - k), .bool false]]) (by omega) hkl (by omega)
    simp only [List.drop_zero, Nat.sub_zero, Nat.zero_mul, cut_zero] at i1
    have i2 := Imp.cutRo hs (l := k) (k := xs.length) (m := c) (Γ := [cells true b o [.slice (cut a c k (k * 1)) (xs.length - k) (c - k), .bool false], sl false a ((xs.take k).map u8)]) hkl (by omega) (by omega)
    rw [List.take_of_length_le (i := xs.length - k) (by simp)] at i2
    exact endR_r rfl (.tmp rfl .nil) ((Imp.pk).trans (i1.trans ((Imp.pk).trans (i2.trans ((Imp.pk).trans (rd_close (xs := xs.drop k) (b := b) (o := o) (sh := false) (cut a c k (k * 1)) (xs.length - k) (c - k) s2 (Γ := [sl false a ((xs.take k).map u8)]))))))) ⟨a, c, by simp only [packV]; rw [show (xs.take k).length = k by simp; omega], by rw [show (xs.take k).length = k by simp; omega]; exact s1, rfl⟩

end Go.Sl
