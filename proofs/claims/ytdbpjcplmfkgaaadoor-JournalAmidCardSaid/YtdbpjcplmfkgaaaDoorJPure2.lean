/- Plain facts: what a crash leaves, what a scan finds, what a save leaves. -/
import Derived.Test.YtdbpjcplmfkgaaaDoorJPure1
namespace Go.Sl
open Go
def ring (s : List Sec) (p : Nat) : Sec := s[p]?.getD .zero
theorem ring_set {s : List Sec} {p q : Nat} {x : Sec} (h : p < s.length) : ring (s.set p x) q = if q = p then x else ring s q := by
  unfold ring
  rw [List.getElem?_set]
  by_cases e : p = q
  · subst e; simp [h]
  · rw [if_neg e, if_neg (fun h => e h.symm)]
theorem crashL_other : ∀ (ws : List (Nat × Sec)) (s : List Sec) (ps : List Int) (q : Nat), q ∉ ws.map (·.1) → (∀ w ∈ ws, w.1 < s.length) → ring (crashL s ws ps) q = ring s q
  | [], _, _, _, _, _ => rfl
  | w :: ws, s, ps, q, h, hl => by
    simp only [crashL]
    simp only [List.map_cons, List.mem_cons, not_or] at h
    rw [crashL_other ws _ _ q h.2 (fun x hx => by rw [List.length_set]; exact hl x (List.mem_cons_of_mem _ hx)), ring_set (hl w (List.mem_cons_self ..)), if_neg h.1]
theorem crashL_hit : ∀ (ws : List (Nat × Sec)) (s : List Sec) (ps : List Int), (ws.map (·.1)).Nodup → (∀ w ∈ ws, w.1 < s.length) → ∀ w ∈ ws, ∃ p, p ≤ 64 ∧ ring (crashL s ws ps) w.1 = torn p w.2 (ring s w.1)
  | [], _, _, _, _, _, h => by cases h
  | w :: ws, s, ps, hn, hl, v, hv => by
    simp only [crashL]
    simp only [List.map_cons, List.nodup_cons] at hn
    have hl2 : ∀ x ∈ ws, x.1 < (s.set w.1 (torn (pickOf ps) w.2 (s[w.1]?.getD .zero))).length := fun x hx => by rw [List.length_set]; exact hl x (List.mem_cons_of_mem _ hx)
    rcases List.mem_cons.1 hv with rfl | hv
    · refine ⟨pickOf ps, pickOf_le ps, ?_⟩
      rw [crashL_other ws _ _ _ hn.1 hl2, ring_set (hl _ (List.mem_cons_self ..)), if_pos rfl]
      rfl
    · obtain ⟨p, hp, e⟩ := crashL_hit ws _ ps.tail hn.2 hl2 v hv
      refine ⟨p, hp, ?_⟩
      rw [e, ring_set (hl _ (List.mem_cons_self ..)), if_neg]
      intro h
      exact hn.1 (h ▸ List.mem_map_of_mem hv)
theorem torn_all (new old : Sec) : torn 64 new old = new := by
  apply Subtype.ext
  show new.1.take 64 ++ old.1.drop 64 = new.1
  rw [List.take_of_length_le (by rw [new.2]; omega), List.drop_eq_nil_of_le (by rw [old.2]; omega), List.append_nil]
theorem flush_crash : ∀ (ws : List (Nat × Sec)) (s : List Sec), flush s ws = crashL s ws (List.replicate ws.length 64)
  | [], _ => rfl
  | w :: ws, s => by
    simp only [flush, crashL, List.length_cons, List.replicate_succ, List.tail_cons]
    rw [show pickOf ((64 : Int) :: List.replicate ws.length 64) = 64 from rfl, torn_all, flush_crash ws]
/- A scan. -/
section
variable (seen : List Sec) (at_ n E : Nat)
def chain : Nat → Nat → List (Nat × List By) → Prop
  | _, _, [] => True
  | low, next, x :: r => x.2.length ≤ 43 ∧ ring seen (at_ + 2 + next % n) = stampS next x.1 x.2 ∧ low ≤ x.1 ∧ x.1 ≤ E ∧ chain x.1 (next + 1) r
def stops (low next : Nat) : Prop := ∀ e' b', parse (ring seen (at_ + 2 + next % n)).1 = some (next, e', b') → e' < low ∨ E < e'
end
def lastE : Nat → List (Nat × List By) → Nat
  | low, [] => low
  | _, x :: r => lastE x.1 r
theorem lastE_append : ∀ (l r : List (Nat × List By)) (low : Nat), lastE low (l ++ r) = lastE (lastE low l) r
  | [], _, _ => rfl
  | x :: l, r, _ => lastE_append l r x.1
theorem chain_append {seen : List Sec} {at_ n E : Nat} : ∀ (l r : List (Nat × List By)) (low next : Nat), chain seen at_ n E low next (l ++ r) ↔ chain seen at_ n E low next l ∧ chain seen at_ n E (lastE low l) (next + l.length) r
  | [], r, low, next => by simp [chain, lastE]
  | x :: l, r, low, next => by
    simp only [List.cons_append, chain, lastE, List.length_cons, chain_append l r]
    rw [show next + 1 + l.length = next + (l.length + 1) by omega]
    simp only [and_assoc]
theorem chain_cong {s s' : List Sec} {at_ n E : Nat} : ∀ (l : List (Nat × List By)) (low next : Nat), (∀ k, k < l.length → ring s' (at_ + 2 + (next + k) % n) = ring s (at_ + 2 + (next + k) % n)) → chain s at_ n E low next l → chain s' at_ n E low next l
  | [], _, _, _, _ => trivial
  | x :: l, low, next, h, c => by
    obtain ⟨c1, c2, c3, c4, c5⟩ := c
    refine ⟨c1, ?_, c3, c4, chain_cong l _ _ (fun k hk => ?_) c5⟩
    · have := h 0 (by simp)
      simp only [Nat.add_zero] at this
      rw [this]; exact c2
    · have := h (k + 1) (by simp; omega)
      rw [show next + (k + 1) = next + 1 + k by omega] at this
      exact this
theorem chain_E {s : List Sec} {at_ n E E' : Nat} (h : E ≤ E') : ∀ (l : List (Nat × List By)) (low next : Nat), chain s at_ n E low next l → chain s at_ n E' low next l
  | [], _, _, _ => trivial
  | x :: l, _, _, c => ⟨c.1, c.2.1, c.2.2.1, Nat.le_trans c.2.2.2.1 h, chain_E h l _ _ c.2.2.2.2⟩
theorem chain_lastE {s : List Sec} {at_ n E : Nat} : ∀ (l : List (Nat × List By)) (low next : Nat), low ≤ E → chain s at_ n E low next l → low ≤ lastE low l ∧ lastE low l ≤ E
  | [], low, _, h, _ => ⟨Nat.le_refl _, h⟩
  | x :: l, low, next, _, c => by
    obtain ⟨-, -, c3, c4, c5⟩ := c
    have := chain_lastE l x.1 (next + 1) c4 c5
    exact ⟨Nat.le_trans c3 this.1, this.2⟩
theorem read_ring {d : DK} {p : Nat} (h : p < d.seen.length) : d.read (p : Int) = some (ring d.seen p) := by
  unfold DK.read ring
  rw [if_pos (by omega), Int.toNat_natCast]
  simp [h]
theorem scan_chain {d : DK} {at_ n E : Nat} (hn : 1 ≤ n) (hlen : at_ + 2 + n ≤ d.seen.length) (hE : E < 4294967296) : ∀ (l : List (Nat × List By)) (f low next : Nat), 0 < next → next + l.length ≤ 4294967295 → l.length ≤ f → chain d.seen at_ n E low next l → (l.length = f ∨ stops d.seen at_ n E (lastE low l) (next + l.length)) → scanL d at_ n E f low next = l
  | [], f, low, next, h0, hb, hf, _, hs => by
    cases f with
    | zero => rfl
    | succ f =>
      have hs : stops d.seen at_ n E low next := by rcases hs with h | h; simp at h; exact h
      have hm := Nat.mod_lt next (show 0 < n by omega)
      refine scanL_no (read_ring (by omega)) ?_
      intro ⟨h1, h2, h3, h4⟩
      unfold pOk at h1
      unfold pS at h2
      unfold pE at h3 h4
      cases hp : parse (ring d.seen (at_ + 2 + next % n)).1 with
      | none => rw [hp] at h1; cases h1
      | some t =>
        obtain ⟨a, b, c⟩ := t
        rw [hp] at h2 h3 h4
        simp at h2 h3 h4
        have := hs b c (by rw [hp, h2])
        omega
  | x :: l, f, low, next, h0, hb, hf, hc, hs => by
    obtain ⟨c1, c2, c3, c4, c5⟩ := hc
    simp only [List.length_cons] at hb hf hs
    obtain ⟨f, rfl⟩ : ∃ f', f = f' + 1 := ⟨f - 1, by omega⟩
    have hm := Nat.mod_lt next (show 0 < n by omega)
    have hp := parse_stamp (b := x.2) c1 h0 (show next < 4294967296 by omega) (show x.1 < 4294967296 by omega)
    have hr := read_ring (d := d) (p := at_ + 2 + next % n) (by omega)
    rw [c2] at hr
    have e1 : pE (stampS next x.1 x.2).1 = x.1 := by unfold pE; rw [hp]; rfl
    have e2 : pB (stampS next x.1 x.2).1 = x.2 := by unfold pB; rw [hp]; rfl
    rw [scanL_yes hr (by omega) ⟨by unfold pOk; rw [hp]; rfl, by unfold pS; rw [hp]; rfl, by rw [e1]; exact c3, by rw [e1]; exact c4⟩, e1, e2]
    rw [scan_chain hn hlen hE l f x.1 (next + 1) (by omega) (by omega) (by omega) c5 (by
      rcases hs with h | h
      · left; omega
      · right; rw [show next + 1 + l.length = next + (l.length + 1) by omega]; exact h)]
/- What the records that are not sure become. -/
def freshW (at_ n E : Nat) : Nat → List (List By) → List (Nat × Sec)
  | _, [] => []
  | s, b :: r => (at_ + 2 + s % n, stampS s E b) :: freshW at_ n E (s + 1) r
theorem freshW_len (at_ n E : Nat) : ∀ (bs : List (List By)) (s : Nat), (freshW at_ n E s bs).length = bs.length
  | [], _ => rfl
  | b :: r, s => by simp [freshW, freshW_len at_ n E r]
theorem freshW_append (at_ n E : Nat) : ∀ (bs : List (List By)) (s : Nat) (b : List By), freshW at_ n E s (bs ++ [b]) = freshW at_ n E s bs ++ [(at_ + 2 + (s + bs.length) % n, stampS (s + bs.length) E b)]
  | [], s, b => by simp [freshW]
  | x :: r, s, b => by
    simp only [List.cons_append, freshW, freshW_append at_ n E r, List.length_cons]
    rw [show s + 1 + r.length = s + (r.length + 1) by omega]
theorem freshW_mem {at_ n E : Nat} : ∀ (bs : List (List By)) (s : Nat) (w : Nat × Sec), w ∈ freshW at_ n E s bs → ∃ k b, bs[k]? = some b ∧ w = (at_ + 2 + (s + k) % n, stampS (s + k) E b)
  | [], _, _, h => by cases h
  | b :: r, s, w, h => by
    rcases List.mem_cons.1 h with rfl | h
    · exact ⟨0, b, rfl, rfl⟩
    · obtain ⟨k, b', h1, h2⟩ := freshW_mem r (s + 1) w h
      exact ⟨k + 1, b', h1, by rw [h2, show s + 1 + k = s + (k + 1) by omega]⟩
theorem freshW_get {at_ n E : Nat} : ∀ (bs : List (List By)) (s k : Nat) (b : List By), bs[k]? = some b → (at_ + 2 + (s + k) % n, stampS (s + k) E b) ∈ freshW at_ n E s bs
  | [], _, _, _, h => by cases h
  | x :: r, s, 0, b, h => by
    simp at h; subst h
    exact List.mem_cons_self ..
  | x :: r, s, k + 1, b, h => by
    have := freshW_get (at_ := at_) (n := n) (E := E) r (s + 1) k b (by simpa using h)
    rw [show s + 1 + k = s + (k + 1) by omega] at this
    exact List.mem_cons_of_mem _ this
theorem mod_inj {a b n : Nat} (h : a % n = b % n) (hab : a < b) (hb : b < a + n) : False := by
  have h1 := Nat.div_add_mod a n
  have h2 := Nat.div_add_mod b n
  rw [h] at h1
  have h3 : n * (b / n) = n * (a / n) + (b - a) := by omega
  have h4 : n * (b / n - a / n) = b - a := by rw [Nat.mul_sub]; omega
  rcases Nat.eq_zero_or_pos (b / n - a / n) with h5 | h5
  · rw [h5] at h4; simp at h4; omega
  · have := Nat.le_mul_of_pos_right n h5
    omega
theorem mod_ne {a b n : Nat} (hab : a ≠ b) (h1 : b < a + n) (h2 : a < b + n) : a % n ≠ b % n := fun h => by
  rcases Nat.lt_or_gt_of_ne hab with h3 | h3
  · exact mod_inj h h3 h1
  · exact mod_inj h.symm h3 h2
theorem freshW_nodup {at_ n E : Nat} : ∀ (bs : List (List By)) (s : Nat), bs.length ≤ n → ((freshW at_ n E s bs).map (·.1)).Nodup
  | [], _, _ => by simp [freshW]
  | b :: r, s, h => by
    simp only [List.length_cons] at h
    simp only [freshW, List.map_cons, List.nodup_cons]
    refine ⟨fun hm => ?_, freshW_nodup r (s + 1) (by omega)⟩
    obtain ⟨w, hw, e⟩ := List.mem_map.1 hm
    obtain ⟨k, b', hk, rfl⟩ := freshW_mem r (s + 1) w hw
    have hkl := (List.getElem?_eq_some_iff.1 hk).1
    have := mod_ne (a := s) (b := s + 1 + k) (n := n) (by omega) (by omega) (by omega)
    simp only at e
    omega
/-- Behind a crash the first ones of those that were not sure are there, and no ghost. -/
theorem crash_tail {sure seen : List Sec} {at_ n E : Nat} : ∀ (bs : List (List By)) (s low : Nat), low ≤ E → (∀ b ∈ bs, b.length ≤ 43) →
    (∀ k b, bs[k]? = some b → ∃ p, p ≤ 64 ∧ ring seen (at_ + 2 + (s + k) % n) = torn p (stampS (s + k) E b) (ring sure (at_ + 2 + (s + k) % n))) →
    (∀ k, k < bs.length → tkS (ring sure (at_ + 2 + (s + k) % n)) = s + k → tkE (ring sure (at_ + 2 + (s + k) % n)) < (if k = 0 then low else E)) →
    ∃ i, i ≤ bs.length ∧ chain seen at_ n E low s ((bs.take i).map fun b => (E, b)) ∧ (i = bs.length ∨ stops seen at_ n E (lastE low ((bs.take i).map fun b => (E, b))) (s + i))
  | [], s, low, _, _, _, _ => ⟨0, Nat.le_refl _, trivial, .inl rfl⟩
  | b :: r, s, low, hlow, hb, ht, hg => by
    obtain ⟨p, hp, hpe⟩ := ht 0 b rfl
    rw [Nat.add_zero] at hpe
    by_cases hnew : ring seen (at_ + 2 + s % n) = stampS s E b
    · obtain ⟨i, hi, hc, hs⟩ := crash_tail (sure := sure) (seen := seen) (at_ := at_) (n := n) (E := E) r (s + 1) E (Nat.le_refl _) (fun x hx => hb x (List.mem_cons_of_mem _ hx)) (fun k x hk => by
          have := ht (k + 1) x (by simpa using hk)
          rw [show s + (k + 1) = s + 1 + k by omega] at this
          exact this) (fun k hk h => by
          have := hg (k + 1) (by simp; omega)
          rw [show s + (k + 1) = s + 1 + k by omega] at this
          have := this h
          simp at this
          split <;> exact this)
      refine ⟨i + 1, by simp; omega, ⟨hb b (List.mem_cons_self ..), hnew, hlow, Nat.le_refl _, hc⟩, ?_⟩
      rcases hs with h | h
      · left; simp; exact h
      · right; rw [show s + (i + 1) = s + 1 + i by omega]; exact h
    · refine ⟨0, Nat.zero_le _, trivial, .inr ?_⟩
      intro e' b' hpar
      rw [Nat.add_zero] at hpar
      rw [hpe] at hpar
      rcases torn_taken hp (hb b (List.mem_cons_self ..)) hpar with h | h
      · exact absurd (hpe.trans h) hnew
      · left
        have := hg 0 (by simp) (by rw [Nat.add_zero]; exact h.1)
        rw [Nat.add_zero, h.2] at this
        simpa [lastE] using this
end Go.Sl
