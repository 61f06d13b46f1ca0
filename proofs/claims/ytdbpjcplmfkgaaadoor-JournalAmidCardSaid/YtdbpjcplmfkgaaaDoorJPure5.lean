/- The journal's invariant: trims, cuts, the first opening. -/
import Derived.Test.YtdbpjcplmfkgaaaDoorJPure4
namespace Go.Sl
open Go
theorem metaB_len (j : JN) : j.metaB.length = 12 := by simp [JN.metaB, le_length]
theorem lastE_held : ∀ (l : List (Nat × List By)) (k low : Nat), 0 < k → k ≤ l.length → ((l[k - 1]?).getD (0, [])).1 = lastE low (l.take k)
  | [], k, _, h, h2 => by simp at h2; omega
  | x :: l, k + 1, low, _, h2 => by
    cases k with
    | zero => rfl
    | succ k =>
      rw [List.take_succ_cons]
      show (((x :: l)[k + 1]?).getD (0, [])).1 = lastE x.1 (l.take (k + 1))
      rw [List.getElem?_cons_succ]
      exact lastE_held l (k + 1) x.1 (by omega) (by simpa using h2)
section
variable {n T : Nat} {d : DK} {j : JN} {old : List (Nat × List By)} {fr : List (List By)}
theorem JInv.heldE (h : JInv n T d j old fr) : j.held = old ++ frE j.epoch fr := by rw [h.held]; rfl
theorem JInv.hlen (h : JInv n T d j old fr) : j.held.length = old.length + fr.length := by rw [h.heldE, List.length_append, frE_len]
/-- All that is held is sure, once everything is. -/
theorem JInv.sure (h : JInv n T d j old fr) (hf : fr = []) : d.pend = [] ∧ d.sure = d.seen ∧ j.held = old := by
  subst hf
  have hp : d.pend = [] := by rw [h.pend]; rfl
  exact ⟨hp, by rw [h.vis, hp]; rfl, by rw [h.held]; simp⟩
theorem trim_inv (h : JInv n T d j old fr) (hT : T + 1 ≤ 1000) (k : Int) : ∃ d' j' e, jtrim d j k = (d', j', e) ∧ ((e ≠ 0 ∧ d' = d ∧ j' = j ∧ (k < 0 ∨ (j.held.length : Int) < k)) ∨ (e = 0 ∧ 0 ≤ k ∧ k ≤ j.held.length ∧ j'.held = j.held.drop k.toNat ∧ JInv n (T + 1) d' j' j'.held [])) := by
  by_cases hk : k < 0 ∨ (j.held.length : Int) < k
  · exact ⟨d, j, 1, by unfold jtrim; rw [if_pos hk], .inl ⟨by omega, rfl, rfl, hk⟩⟩
  · obtain ⟨m, rfl⟩ : ∃ m : Nat, k = (m : Int) := ⟨k.toNat, by omega⟩
    have hm : m ≤ j.held.length := by omega
    have hS := sync_inv h
    rw [← h.heldE] at hS
    have hn := h.n1
    have hb := h.bnd
    have hT1 := h.T1
    have hlen := h.len
    have hhl := h.hlen
    obtain ⟨j1, hj1⟩ : ∃ j1 : JN, j1 = { j with low := lastE j.low (j.held.take m), first := j.first + m, held := j.held.drop m } := ⟨_, rfl⟩
    have hlo : (if 0 < (m : Int) then ((j.held[(m : Int).toNat - 1]?).getD (0, [])).1 else j.low) = lastE j.low (j.held.take m) := by
      rw [Int.toNat_natCast]
      by_cases h0 : 0 < m
      · rw [if_pos (by omega), lastE_held _ _ j.low h0 hm]
      · rw [if_neg (by omega), show m = 0 by omega]; rfl
    obtain ⟨d', s1, s2, s3, s4, s5, s6, s7, s8, s9, s10⟩ := save_up (a := 1) (xs := j1.metaB) h.up h.ok (by omega) h.vis (by omega) (by rw [metaB_len]; omega)
    have hst : jtrim d j (m : Int) = (d', j1, 0) := by
      unfold jtrim
      rw [if_neg hk, hlo, Int.toNat_natCast, ← hj1]
      unfold jsave
      simp only
      rw [show ((j1.at_ : Nat) : Int) = ((1 : Nat) : Int) by rw [hj1]; exact congrArg _ h.at1, s1]
    have hring : ∀ p, 3 ≤ p → ring d'.sure p = ring d.sync.sure p := fun p hp => by
      rw [s5, s7 p (by omega) (by omega), (hS.sure rfl).2.1]
      rw [sync_up h.up]
    have hd1 : j1.first + j1.held.length = j.first + j.held.length := by rw [hj1]; simp only [List.length_drop]; omega
    have hla : lastE j1.low j1.held = lastE j.low j.held := by
      rw [hj1]; simp only
      rw [← lastE_append, List.take_append_drop]
    have hch := (chain_append (j.held.take m) (j.held.drop m) j.low j.first).1 (by rw [List.take_append_drop]; exact hS.ch)
    refine ⟨d', j1, 0, hst, .inr ⟨rfl, by omega, by omega, by rw [hj1, Int.toNat_natCast], ?_⟩⟩
    exact {
      up := s2, ok := s3, len := by rw [s6]; exact hlen, at1 := by rw [hj1]; exact h.at1, jn := by rw [hj1]; exact h.jn, n1 := hn
      held := by simp
      hl := by rw [hj1]; simp only [List.length_drop, List.length_nil]; have := h.hl; omega
      pend := by rw [s4]; rfl
      vis := by rw [s4, s5]; rfl
      f1 := by rw [hj1]; show 1 ≤ j.first + m; have := h.f1; omega
      bnd := ⟨by rw [List.length_nil]; omega, by rw [hj1]; show j.epoch ≤ _; omega, by rw [s8]; omega⟩
      T1 := hT
      lowE := by rw [hj1]; exact (chain_lastE _ _ _ h.lowE hch.1).2
      frl := by simp
      ch := by
        have e : j1.held = j.held.drop m ∧ j1.first = j.first + m ∧ j1.low = lastE j.low (j.held.take m) ∧ j1.epoch = j.epoch := by rw [hj1]; exact ⟨rfl, rfl, rfl, rfl⟩
        rw [e.1, e.2.1, e.2.2.1, e.2.2.2]
        have h2 := hch.2
        rw [List.length_take, Nat.min_eq_left hm] at h2
        exact chain_cong _ _ _ (fun i _ => hring _ (by omega)) h2
      slot := by rw [s8, s9]; exact ⟨by omega, rfl⟩
      so := s10 rfl (fun h0 => by have := h.slot.1; omega)
      g1 := fun p hp1 hp2 => by rw [hring p hp1, show j1.epoch = j.epoch by rw [hj1]]; exact hS.g1 p hp1 hp2
      g3 := fun p hp1 hp2 he => by
        rw [hring p hp1] at he ⊢
        rw [hd1]
        exact hS.g3 p hp1 hp2 (by rw [he, hj1])
      g2 := by
        rw [hd1, hring _ (by omega), hla]
        exact hS.g2 }
/-- The places that a cut clears. -/
theorem cutL_up : ∀ (k : Nat) (d : DK) (j : JN), Up d → d.ok → d.seen.length = 20 → j.at_ = 1 → j.n = n → 1 ≤ n → n ≤ 17 → k ≤ j.held.length → d.seen = flush d.sure d.pend →
    ∃ d', cutL d j k = (d', { j with held := j.held.take (j.held.length - k) }) ∧ Up d' ∧ d'.ok ∧ d'.seen.length = 20 ∧ d'.seen = flush d'.sure d'.pend ∧
      (∀ p, (∀ i, j.held.length - k ≤ i → i < j.held.length → p ≠ 1 + 2 + (j.first + i) % n) → ring d'.seen p = ring d.seen p) ∧
      (j.held.length ≤ n → ∀ i, j.held.length - k ≤ i → i < j.held.length → ring d'.seen (1 + 2 + (j.first + i) % n) = .zero)
  | 0, d, j, h1, h2, h3, _, _, _, _, _, h6 => ⟨d, by simp only [cutL, Nat.sub_zero, List.take_length], h1, h2, h3, h6, fun _ _ => rfl, fun _ i _ _ => by omega⟩
  | k + 1, d, j, h1, h2, h3, h4, h5, hn1, hn2, hk, h6 => by
    obtain ⟨j1, hj1⟩ : ∃ j1 : JN, j1 = { j with held := j.held.dropLast } := ⟨_, rfl⟩
    have hl1 : j1.held.length = j.held.length - 1 := by rw [hj1]; simp
    have hp : j1.place j1.next = 1 + 2 + (j.first + (j.held.length - 1)) % n := by unfold JN.place JN.next; rw [hl1, hj1]; simp only [h4, h5]
    have hm := Nat.mod_lt (j.first + (j.held.length - 1)) (show 0 < n by omega)
    have hw := write_up h1 (i := j1.place j1.next) (b := []) (by omega) (by simp)
    have hup2 : Up (d.put (j1.place j1.next) (pad [])) := h1
    have hring : ∀ p, ring (d.put (j1.place j1.next) (pad [])).seen p = if p = 1 + 2 + (j.first + (j.held.length - 1)) % n then .zero else ring d.seen p := fun p => by
      simp only [DK.put]; rw [ring_set (by omega), hp, pad_nil]
    have hok2 : (d.put (j1.place j1.next) (pad [])).ok := by have := h2.write (j1.place j1.next) []; rw [hw] at this; exact this
    obtain ⟨d', c1, c2, c3, c4, c5, c6, c7⟩ := cutL_up k (d.put (j1.place j1.next) (pad [])) j1 hup2 hok2 (by simp only [DK.put, List.length_set]; exact h3) (by rw [hj1]; exact h4) (by rw [hj1]; exact h5) hn1 hn2 (by omega)
      (by simp only [DK.put]; rw [flush_snoc, ← h6])
    have hf : j1.first = j.first := by rw [hj1]
    rw [hl1, hf] at c6 c7
    refine ⟨d', ?_, c2, c3, c4, c5, ?_, ?_⟩
    · simp only [cutL]
      rw [← hj1, hw]
      simp only
      rw [c1, hl1, hj1]
      simp only [JN.mk.injEq, Prod.mk.injEq, true_and]
      rw [List.dropLast_eq_take, List.take_take]
      congr 1
      omega
    · intro p hq
      rw [c6 p (fun i q1 q2 => hq i (by omega) (by omega)), hring, if_neg (hq _ (by omega) (by omega))]
    · intro hn i q1 q2
      by_cases hi : i = j.held.length - 1
      · subst hi
        rw [c6 _ (fun i r1 r2 e => by
          have := mod_ne (a := j.first + (j.held.length - 1)) (b := j.first + i) (n := n) (by omega) (by omega) (by omega)
          omega), hring, if_pos rfl]
      · exact c7 (by omega) i (by omega) (by omega)
theorem cut_inv (h : JInv n T d j old fr) (hT : T + 1 ≤ 1000) (k : Int) : ∃ d' j' e, jcut d j k = (d', j', e) ∧ ((e ≠ 0 ∧ d' = d ∧ j' = j ∧ (k < 0 ∨ (j.held.length : Int) < k)) ∨ (e = 0 ∧ 0 ≤ k ∧ k ≤ j.held.length ∧ j'.held = j.held.take (j.held.length - k.toNat) ∧ JInv n (T + 1) d' j' j'.held [])) := by
  by_cases hk : k < 0 ∨ (j.held.length : Int) < k
  · exact ⟨d, j, 1, by unfold jcut; rw [if_pos hk], .inl ⟨by omega, rfl, rfl, hk⟩⟩
  · obtain ⟨m, rfl⟩ : ∃ m : Nat, k = (m : Int) := ⟨k.toNat, by omega⟩
    have hm : m ≤ j.held.length := by omega
    have hS := sync_inv h
    rw [← h.heldE] at hS
    have hn := h.n1
    have hb := h.bnd
    have hT1 := h.T1
    have hlen := h.len
    have hhl := h.hlen
    have hl := h.hl
    obtain ⟨d1, c1, c2, c3, c4, c5, c6, c7⟩ := cutL_up (n := n) m d.sync j hS.up hS.ok hS.len h.at1 h.jn hn.1 hn.2 hm hS.vis
    obtain ⟨j1, hj1⟩ : ∃ j1 : JN, j1 = { j with held := j.held.take (j.held.length - m), epoch := j.epoch + 1 } := ⟨_, rfl⟩
    have hsy := sync_up c2
    have hvis2 : d1.sync.seen = flush d1.sync.sure d1.sync.pend := by rw [hsy]; exact c5
    have hse : d1.sync.seen = d1.seen := by rw [hsy]
    have hS7 := hS.sure rfl
    have hla : last d1.sync ((1 : Nat) : Int) = last d ((1 : Nat) : Int) := by
      have hx : last d.sync ((1 : Nat) : Int) = last d ((1 : Nat) : Int) := by
        have : d.sync.seen = d.seen := by rw [sync_up h.up]
        exact last_cong (by omega) (by rw [this]) (by rw [this]) (by rw [this])
      rw [← hx]
      exact last_cong (by have := hS.len; omega) (by rw [hse, c4, hS.len]) (by rw [hse]; exact c6 1 (fun i _ _ => by omega)) (by rw [hse]; exact c6 2 (fun i _ _ => by omega))
    obtain ⟨d', s1, s2, s3, s4, s5, s6, s7, s8, s9, s10⟩ := save_up (a := 1) (xs := j1.metaB) c2.sync c3.sync (by rw [hse]; omega) hvis2 (by rw [hla]; omega) (by rw [metaB_len]; omega)
    have hst : jcut d j (m : Int) = (d', j1, 0) := by
      unfold jcut
      rw [if_neg hk, if_neg (by omega), Int.toNat_natCast, c1]
      simp only
      rw [← hj1]
      unfold jsave
      rw [show ((j1.at_ : Nat) : Int) = ((1 : Nat) : Int) by rw [hj1]; exact congrArg _ h.at1, s1]
    have hring : ∀ p, 3 ≤ p → (∀ i, j.held.length - m ≤ i → i < j.held.length → p ≠ 1 + 2 + (j.first + i) % n) → ring d'.sure p = ring d.sync.sure p := fun p hp hq => by
      rw [s5, s7 p (by omega) (by omega), hse, c6 p hq, hS7.2.1]
    have hzero : ∀ i, j.held.length - m ≤ i → i < j.held.length → ring d'.sure (1 + 2 + (j.first + i) % n) = .zero := fun i q1 q2 => by
      rw [s5, s7 _ (by omega) (by omega), hse, c7 (by omega) i q1 q2]
    have hlt : (j.held.take (j.held.length - m)).length = j.held.length - m := by rw [List.length_take]; omega
    have e : j1.held = j.held.take (j.held.length - m) ∧ j1.first = j.first ∧ j1.low = j.low ∧ j1.epoch = j.epoch + 1 := by rw [hj1]; exact ⟨rfl, rfl, rfl, rfl⟩
    have hch := (chain_append (j.held.take (j.held.length - m)) (j.held.drop (j.held.length - m)) j.low j.first).1 (by rw [List.take_append_drop]; exact hS.ch)
    have hg : ∀ p, 3 ≤ p → p < 3 + n → tkE (ring d'.sure p) ≤ j.epoch := fun p hp1 hp2 => by
      by_cases hz : ∃ i, j.held.length - m ≤ i ∧ i < j.held.length ∧ p = 1 + 2 + (j.first + i) % n
      · obtain ⟨i, q1, q2, rfl⟩ := hz
        rw [hzero i q1 q2, tk_zero.2]; omega
      · rw [hring p hp1 (fun i q1 q2 e => hz ⟨i, q1, q2, e⟩)]; exact hS.g1 p hp1 hp2
    refine ⟨d', j1, 0, hst, .inr ⟨rfl, by omega, by omega, by rw [hj1, Int.toNat_natCast], ?_⟩⟩
    exact {
      up := s2, ok := s3, len := by rw [s6, hse, c4], at1 := by rw [hj1]; exact h.at1, jn := by rw [hj1]; exact h.jn, n1 := hn
      held := by simp
      hl := by rw [e.1, hlt, List.length_nil]; omega
      pend := by rw [s4]; rfl
      vis := by rw [s4, s5]; rfl
      f1 := by rw [e.2.1]; exact h.f1
      bnd := ⟨by rw [e.1, e.2.1, hlt, List.length_nil]; omega, by rw [e.2.2.2]; omega, by rw [s8, hla]; omega⟩
      T1 := hT
      lowE := by rw [e.2.2.1, e.2.2.2]; have := h.lowE; omega
      frl := by simp
      ch := by
        rw [e.1, e.2.1, e.2.2.1, e.2.2.2]
        refine chain_E (by omega) _ _ _ (chain_cong _ _ _ (fun i hi => hring _ (by omega) fun i2 q1 q2 e2 => ?_) hch.1)
        rw [hlt] at hi
        have := mod_ne (a := j.first + i) (b := j.first + i2) (n := n) (by omega) (by omega) (by omega)
        omega
      slot := by rw [s8, s9]; exact ⟨by omega, rfl⟩
      so := s10 rfl (fun h0 => by have := h.slot.1; rw [hla] at h0; omega)
      g1 := fun p hp1 hp2 => by rw [e.2.2.2]; exact Nat.le_succ_of_le (hg p hp1 hp2)
      g3 := fun p hp1 hp2 he => by have := hg p hp1 hp2; rw [he, e.2.2.2] at this; omega
      g2 := by
        rw [e.1, e.2.1, e.2.2.1, hlt]
        intro he
        by_cases h0 : m = 0
        · subst h0
          rw [Nat.sub_zero] at he ⊢
          rw [hring _ (by omega) (fun i q1 q2 => by omega)] at he ⊢
          rw [List.take_length]
          exact hS.g2 he
        · rw [hzero (j.held.length - m) (by omega) (by omega), tk_zero.1] at he
          have := h.f1
          omega }
/-- A new disk's journal. -/
theorem new_inv (hn : 1 ≤ n ∧ n ≤ 17) : ∃ d' j', jopen0 (DK.new 20) 1 n = (d', some j', 0) ∧ JInv n 1 d' j' [] [] ∧ j'.held = [] := by
  have hz : ∀ p, ring (DK.new 20).seen p = .zero := fun p => by
    unfold ring DK.new
    simp only
    rw [List.getElem?_replicate]
    split <;> rfl
  have hlast : (last (DK.new 20) ((1 : Nat) : Int)).seq = 0 := by
    rw [last_ring (by show 2 < 20; omega), lastStep_ring (by show 2 < 20; omega), lastStep_ring (by show 1 < 20; omega), hz, hz]
    rfl
  have hok : (DK.new 20).ok := ⟨by simp [DK.new], by simp [DK.new], by simp [DK.new], by simp [DK.new]⟩
  have hst : ∀ E low next, 0 < next → stops (DK.new 20).seen 1 n E low next := fun E low next h e' b' hp => by
    rw [hz] at hp
    have := tk_parse hp
    rw [tk_zero.1] at this
    omega
  obtain ⟨d', j', h1, h2, h3⟩ := open_inv (n := n) (T := 0) (d := DK.new 20) (first := 1) (epoch := 0) (low := 0) (l := []) ⟨rfl, rfl⟩ hok rfl hn rfl (begun_zero hlast) (by omega) (by omega) (by omega) (by simp) (by omega) (by omega) trivial (by simp) (.inr (hst _ _ _ (by simp))) (fun p _ _ => by rw [hz, tk_zero.2]; omega) (fun _ => by rw [hz]; exact tk_zero.1)
  exact ⟨d', j', h1, h2, h3⟩
end
end Go.Sl
