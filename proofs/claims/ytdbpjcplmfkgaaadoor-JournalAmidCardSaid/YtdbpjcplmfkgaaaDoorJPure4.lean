/- The journal's invariant: crashes, syncs, appends, trims, cuts. -/
import Derived.Test.YtdbpjcplmfkgaaaDoorJPure3
namespace Go.Sl
open Go
theorem meta_nums {a b c : Nat} (ha : a < 4294967296) (hb : b < 4294967296) (hc : c < 4294967296) : (le a 4 ++ le b 4 ++ le c 4).length = 12 ∧ num (le a 4 ++ le b 4 ++ le c 4) 0 4 = a ∧ num (le a 4 ++ le b 4 ++ le c 4) 4 4 = b ∧ num (le a 4 ++ le b 4 ++ le c 4) 8 4 = c := by
  have l4 : ∀ v, (le v 4).length = 4 := fun v => le_length v 4
  have o4 : ∀ v, v < 4294967296 → ofLE (le v 4) = v := fun v hv => by rw [ofLE_le]; exact Nat.mod_eq_of_lt hv
  simp only [num, List.append_assoc]
  refine ⟨by simp [l4], ?_, ?_, ?_⟩
  · rw [part_append_left (by rw [l4]; omega), part_all (l4 _), o4 a ha]
  · rw [part_append_right (by rw [l4]; omega), l4, part_append_left (by rw [l4]; omega), part_all (l4 _), o4 b hb]
  · rw [part_append_right (by rw [l4]; omega), l4, part_append_right (by rw [l4]; omega), l4, part_all (l4 _), o4 c hc]
theorem flush_hit : ∀ (ws : List (Nat × Sec)) (s : List Sec), (ws.map (·.1)).Nodup → (∀ w ∈ ws, w.1 < s.length) → ∀ w ∈ ws, ring (flush s ws) w.1 = w.2
  | [], _, _, _, _, h => by cases h
  | w :: ws, s, hn, hl, v, hv => by
    simp only [flush]
    simp only [List.map_cons, List.nodup_cons] at hn
    have hl2 : ∀ x ∈ ws, x.1 < (s.set w.1 w.2).length := fun x hx => by rw [List.length_set]; exact hl x (List.mem_cons_of_mem _ hx)
    rcases List.mem_cons.1 hv with rfl | hv
    · rw [flush_other ws _ _ hn.1 hl2, ring_set (hl _ (List.mem_cons_self ..)), if_pos rfl]
    · exact flush_hit ws _ hn.2 hl2 v hv
def frE (E : Nat) (fr : List (List By)) : List (Nat × List By) := fr.map fun b => (E, b)
theorem frE_len (E : Nat) (fr : List (List By)) : (frE E fr).length = fr.length := by simp [frE]
theorem lastE_fr {E : Nat} : ∀ (fr : List (List By)) (low : Nat), fr ≠ [] → lastE low (frE E fr) = E
  | [b], _, _ => rfl
  | _ :: b :: r, _, _ => lastE_fr (b :: r) E (by simp)
  | [], _, h => absurd rfl h
theorem chain_fr {S : List Sec} {n E : Nat} : ∀ (fr : List (List By)) (s low : Nat), low ≤ E → (∀ b ∈ fr, b.length ≤ 43) → (∀ k b, fr[k]? = some b → ring S (1 + 2 + (s + k) % n) = stampS (s + k) E b) → chain S 1 n E low s (frE E fr)
  | [], _, _, _, _, _ => trivial
  | b :: r, s, low, hl, hb, h => by
    refine ⟨hb b (List.mem_cons_self ..), h 0 b rfl, hl, Nat.le_refl _, chain_fr r (s + 1) E (Nat.le_refl _) (fun x hx => hb x (List.mem_cons_of_mem _ hx)) fun k x hk => ?_⟩
    have := h (k + 1) x (by simpa using hk)
    rw [show s + (k + 1) = s + 1 + k by omega] at this
    exact this
section
variable {n T : Nat} {d : DK} {j : JN} {old : List (Nat × List By)} {fr : List (List By)}
theorem JInv.idx (h : JInv n T d j old fr) : ∀ w ∈ d.pend, 3 ≤ w.1 ∧ w.1 < 3 + n ∧ w.1 < d.sure.length := by
  intro w hw
  have h1 := h.ok.idx w hw
  have h2 := h.ok.same
  rw [h.pend] at hw
  obtain ⟨k, b, -, rfl⟩ := freshW_mem _ _ _ hw
  have := Nat.mod_lt (j.first + old.length + k) (show 0 < n by have := h.n1; omega)
  simp only at h1 ⊢
  omega
theorem JInv.nodup (h : JInv n T d j old fr) : (d.pend.map (·.1)).Nodup := by
  rw [h.pend]
  have := h.hl
  exact freshW_nodup _ _ (by omega)
/-- A place that is not one of those that are not sure yet. -/
theorem JInv.off (h : JInv n T d j old fr) {k : Nat} (hk : k < old.length ∨ (k = old.length + fr.length ∧ old.length + fr.length < n)) : 1 + 2 + (j.first + k) % n ∉ d.pend.map (·.1) := by
  intro hm
  obtain ⟨w, hw, e⟩ := List.mem_map.1 hm
  rw [h.pend] at hw
  obtain ⟨i, b, hi, rfl⟩ := freshW_mem _ _ _ hw
  have hil := (List.getElem?_eq_some_iff.1 hi).1
  have hl := h.hl
  simp only at e
  have := mod_ne (a := j.first + k) (b := j.first + old.length + i) (n := n) (by omega) (by omega) (by omega)
  omega
theorem JInv.low_slot (h : JInv n T d j old fr) {p : Nat} (hp : p < 3) : p ∉ d.pend.map (·.1) := by
  intro hm
  obtain ⟨w, hw, rfl⟩ := List.mem_map.1 hm
  have := (h.idx w hw).1
  omega
theorem JInv.oldc (h : JInv n T d j old fr) {S : List Sec} (hS : ∀ q, q ∉ d.pend.map (·.1) → ring S q = ring d.sure q) : chain S 1 n j.epoch j.low j.first old :=
  chain_cong old _ _ (fun k hk => hS _ (h.off (.inl hk))) h.ch
/-- What is behind the last one can't be taken for the next. -/
theorem JInv.ghost (h : JInv n T d j old fr) (hf : old.length + fr.length < n) : tkS (ring d.sure (1 + 2 + (j.first + (old.length + fr.length)) % n)) = j.first + (old.length + fr.length) → tkE (ring d.sure (1 + 2 + (j.first + (old.length + fr.length)) % n)) < lastE j.low (old ++ frE j.epoch fr) := by
  intro he
  have hm := Nat.mod_lt (j.first + (old.length + fr.length)) (show 0 < n by omega)
  by_cases hfr : fr = []
  · subst hfr
    simp only [List.length_nil, Nat.add_zero, frE, List.map_nil, List.append_nil] at he ⊢
    exact h.g2 he
  · rw [lastE_append, lastE_fr fr _ hfr]
    have hpos : 0 < fr.length := List.length_pos_iff.2 hfr
    have h1 := h.g1 _ (show 3 ≤ 1 + 2 + (j.first + (old.length + fr.length)) % n by omega) (by omega)
    rcases Nat.lt_or_ge (tkE (ring d.sure (1 + 2 + (j.first + (old.length + fr.length)) % n))) j.epoch with h2 | h2
    · exact h2
    · have := h.g3 _ (show 3 ≤ 1 + 2 + (j.first + (old.length + fr.length)) % n by omega) (by omega) (by omega)
      omega
theorem vis_open (h : JInv n T d j old fr) (hT : T + 1 ≤ 1000) {dc : DK} (qs : List Int) (hS : dc.seen = crashL d.sure d.pend qs) (hup : Up dc) (hok : dc.ok) (hvis : dc.seen = flush dc.sure dc.pend) :
    ∃ i d' j', i ≤ fr.length ∧ jopen0 dc 1 n = (d', some j', 0) ∧ JInv n (T + 1) d' j' (old ++ frE j.epoch (fr.take i)) [] ∧ j'.held = old ++ frE j.epoch (fr.take i) := by
  have hn := h.n1
  have hl := h.hl
  have hb := h.bnd
  have hT1 := h.T1
  have hidx : ∀ w ∈ d.pend, w.1 < d.sure.length := fun w hw => (h.idx w hw).2.2
  have hoth : ∀ q, q ∉ d.pend.map (·.1) → ring dc.seen q = ring d.sure q := fun q hq => by rw [hS]; exact crashL_other _ _ _ _ hq hidx
  have hlen : dc.seen.length = 20 := by rw [hS, crashL_len, h.ok.same, h.len]
  have hsl : ∀ p, p < 3 → ring dc.seen p = ring d.seen p := fun p hp => by
    rw [hoth p (h.low_slot hp), h.vis, flush_other _ _ _ (h.low_slot hp) hidx]
  have hlast : last dc ((1 : Nat) : Int) = last d ((1 : Nat) : Int) := last_cong (by rw [h.len]; omega) (by rw [hlen, h.len]) (hsl 1 (by omega)) (hsl 2 (by omega))
  have hlow := h.lowE
  have hf1 := h.f1
  obtain ⟨m1, m2, m3, m4⟩ := meta_nums (a := j.first) (b := j.epoch) (c := j.low) (by omega) (by omega) (by omega)
  have hbg : JN.begun dc 1 n = some ⟨1, n, j.first, j.epoch, j.low, []⟩ := by
    unfold JN.begun
    rw [hlast, if_neg (by have := h.slot.1; omega), h.slot.2]
    unfold JN.metaB
    rw [if_pos ⟨m1, by rw [m2]; omega, by rw [m3, m4]; exact hlow⟩, m2, m3, m4]
  obtain ⟨i, hi, hc, hs⟩ := crash_tail (sure := d.sure) (seen := dc.seen) (at_ := 1) (n := n) (E := j.epoch) fr (j.first + old.length) (lastE j.low old) (chain_lastE old _ _ hlow h.ch).2 h.frl
    (fun k b hk => by
      have hw : (1 + 2 + (j.first + old.length + k) % n, stampS (j.first + old.length + k) j.epoch b) ∈ d.pend := by rw [h.pend]; exact freshW_get _ _ _ _ hk
      obtain ⟨p, hp, e⟩ := crashL_hit d.pend d.sure qs h.nodup hidx _ hw
      exact ⟨p, hp, by rw [hS]; exact e⟩)
    (fun k hk he => by
      have hm := Nat.mod_lt (j.first + old.length + k) (show 0 < n by omega)
      by_cases h0 : k = 0
      · subst h0
        rw [if_pos rfl]
        exact h.g2 he
      · rw [if_neg h0]
        have h1 := h.g1 _ (show 3 ≤ 1 + 2 + (j.first + old.length + k) % n by omega) (by omega)
        rcases Nat.lt_or_ge (tkE (ring d.sure (1 + 2 + (j.first + old.length + k) % n))) j.epoch with h2 | h2
        · exact h2
        · have := h.g3 _ (show 3 ≤ 1 + 2 + (j.first + old.length + k) % n by omega) (by omega) (by omega)
          omega)
  have hlt : (frE j.epoch (fr.take i)).length = i := by rw [frE_len, List.length_take]; omega
  have hcl : chain dc.seen 1 n j.epoch j.low j.first (old ++ frE j.epoch (fr.take i)) := (chain_append _ _ _ _).2 ⟨h.oldc hoth, hc⟩
  obtain ⟨d', j', r1, r2, r3⟩ := open_inv (n := n) (T := T) (d := dc) (first := j.first) (epoch := j.epoch) (low := j.low) (l := old ++ frE j.epoch (fr.take i)) hup hok hlen hn hvis hbg (by rw [hlast]; omega) hT hf1 (by rw [List.length_append, hlt]; omega) hb.2.1 hlow hcl (by rw [List.length_append, hlt]; omega)
    (by
      rw [List.length_append, hlt]
      by_cases hfull : old.length + i = n
      · exact .inl hfull
      · right
        rw [lastE_append]
        rcases hs with h1 | h1
        · subst h1
          rw [List.take_length]
          intro e' b' hp
          obtain ⟨t1, t2, -⟩ := tk_parse hp
          rw [hoth _ (h.off (.inr ⟨rfl, by omega⟩))] at t1 t2
          have := h.ghost (by omega) t1
          rw [t2, lastE_append] at this
          exact .inl this
        · rw [← Nat.add_assoc]; exact h1)
    (fun p hp1 hp2 => by
      by_cases hm : p ∈ d.pend.map (·.1)
      · obtain ⟨w, hw, rfl⟩ := List.mem_map.1 hm
        obtain ⟨q, hq, e⟩ := crashL_hit d.pend d.sure qs h.nodup hidx w hw
        rw [hS, e]
        have hw2 := hw
        rw [h.pend] at hw2
        obtain ⟨k, b, hk, rfl⟩ := freshW_mem _ _ _ hw2
        have hkl := (List.getElem?_eq_some_iff.1 hk).1
        have ht := tk_stamp (seq := j.first + old.length + k) (e := j.epoch) (h.frl b (List.mem_of_getElem? hk)) (by omega) (by omega)
        have := tkE_torn (p := q) (new := stampS (j.first + old.length + k) j.epoch b) (old := ring d.sure (1 + 2 + (j.first + old.length + k) % n)) hq (by rw [ht.2]; exact h.g1 _ hp1 hp2)
        rw [ht.2] at this
        exact this
      · rw [hoth p hm]; exact h.g1 p hp1 hp2)
    (fun h0 => by have := h.slot.1; rw [hlast] at h0; omega)
  exact ⟨i, d', j', hi, r1, r2, r3⟩
theorem crash_open (h : JInv n T d j old fr) (hT : T + 1 ≤ 1000) (ps : List Int) : ∃ i d' j', i ≤ fr.length ∧ jopen0 (d.crash ps) 1 n = (d', some j', 0) ∧ JInv n (T + 1) d' j' (old ++ frE j.epoch (fr.take i)) [] ∧ j'.held = old ++ frE j.epoch (fr.take i) :=
  vis_open h hT ps rfl ⟨rfl, rfl⟩ (h.ok.crash ps) rfl
theorem only_open (h : JInv n T d j old fr) (hT : T + 1 ≤ 1000) : ∃ i d' j', i ≤ fr.length ∧ jopen0 d 1 n = (d', some j', 0) ∧ JInv n (T + 1) d' j' (old ++ frE j.epoch (fr.take i)) [] ∧ j'.held = old ++ frE j.epoch (fr.take i) :=
  vis_open h hT (List.replicate d.pend.length 64) (by rw [h.vis]; exact flush_crash _ _) h.up h.ok h.vis
theorem sync_inv (h : JInv n T d j old fr) : JInv n T d.sync j (old ++ frE j.epoch fr) [] := by
  have hn := h.n1
  have hl := h.hl
  have hb := h.bnd
  have hT1 := h.T1
  have hidx : ∀ w ∈ d.pend, w.1 < d.sure.length := fun w hw => (h.idx w hw).2.2
  have hsy := sync_up h.up
  have hoth : ∀ q, q ∉ d.pend.map (·.1) → ring (flush d.sure d.pend) q = ring d.sure q := fun q hq => flush_other _ _ _ hq hidx
  have hlen : (old ++ frE j.epoch fr).length = old.length + fr.length := by rw [List.length_append, frE_len]
  have hch : chain (flush d.sure d.pend) 1 n j.epoch j.low j.first (old ++ frE j.epoch fr) := (chain_append _ _ _ _).2 ⟨h.oldc hoth, chain_fr fr _ _ (chain_lastE old _ _ h.lowE h.ch).2 h.frl fun k b hk => by
      have hw : (1 + 2 + (j.first + old.length + k) % n, stampS (j.first + old.length + k) j.epoch b) ∈ d.pend := by rw [h.pend]; exact freshW_get _ _ _ _ hk
      exact flush_hit d.pend d.sure h.nodup hidx _ hw⟩
  have hpe : ∀ p, p ∈ d.pend.map (·.1) → tkE (ring (flush d.sure d.pend) p) = j.epoch ∧ tkS (ring (flush d.sure d.pend) p) < j.first + (old.length + fr.length) := by
    intro p hm
    obtain ⟨w, hw, rfl⟩ := List.mem_map.1 hm
    rw [flush_hit d.pend d.sure h.nodup hidx w hw]
    rw [h.pend] at hw
    obtain ⟨k, b, hk, rfl⟩ := freshW_mem _ _ _ hw
    have hkl := (List.getElem?_eq_some_iff.1 hk).1
    have ht := tk_stamp (seq := j.first + old.length + k) (e := j.epoch) (h.frl b (List.mem_of_getElem? hk)) (by omega) (by omega)
    exact ⟨ht.2, by rw [ht.1]; omega⟩
  have hsu : d.sync.sure = flush d.sure d.pend := by rw [hsy]
  have hse : d.sync.seen = d.seen := by rw [hsy]
  have hla : last d.sync ((1 : Nat) : Int) = last d ((1 : Nat) : Int) := last_cong (by rw [h.len]; omega) (by rw [hse]) (by rw [hse]) (by rw [hse])
  exact {
    up := h.up.sync, ok := h.ok.sync, len := by rw [hse]; exact h.len, at1 := h.at1, jn := h.jn, n1 := hn
    held := by rw [h.held]; simp [frE]
    hl := by rw [hlen]; simp; omega
    pend := by rw [hsy]; rfl
    vis := by rw [hsy]; exact h.vis
    f1 := h.f1
    bnd := by rw [hlen, hla]; refine ⟨?_, hb.2.1, hb.2.2⟩; simp only [List.length_nil]; omega
    T1 := hT1, lowE := h.lowE, frl := by simp
    ch := by rw [hsu]; exact hch
    slot := by rw [hla]; exact h.slot
    so := h.so.cong (by rw [h.len]; omega) (by rw [hse]) (by rw [hse]) (by rw [hse])
    g1 := fun p hp1 hp2 => by
      rw [hsu]
      by_cases hm : p ∈ d.pend.map (·.1)
      · exact Nat.le_of_eq (hpe p hm).1
      · rw [hoth p hm]; exact h.g1 p hp1 hp2
    g3 := fun p hp1 hp2 he => by
      rw [hsu] at he ⊢
      rw [hlen]
      by_cases hm : p ∈ d.pend.map (·.1)
      · exact (hpe p hm).2
      · rw [hoth p hm] at he ⊢
        have := h.g3 p hp1 hp2 he
        omega
    g2 := by
      rw [hsu, hlen]
      intro he
      by_cases hf : old.length + fr.length < n
      · rw [hoth _ (h.off (.inr ⟨rfl, hf⟩))] at he ⊢
        exact h.ghost hf he
      · have := full_end (l := old ++ frE j.epoch fr) hn.1 hch (by rw [hlen]; omega) (by omega) (by omega)
        rw [hlen] at this
        exact absurd he this }
theorem append_inv (h : JInv n T d j old fr) (hT : T + 1 ≤ 1000) (b : List By) : ∃ d' j' e, jappend d j b = (d', j', e) ∧ ((e ≠ 0 ∧ d' = d ∧ j' = j ∧ (43 < b.length ∨ j.held.length = n)) ∨ (e = 0 ∧ b.length ≤ 43 ∧ j'.held = j.held ++ [(j.epoch, b)] ∧ j'.epoch = j.epoch ∧ JInv n (T + 1) d' j' old (fr ++ [b]))) := by
  have hn := h.n1
  have hl := h.hl
  have hb := h.bnd
  have hhl : j.held.length = old.length + fr.length := by rw [h.held]; simp
  by_cases h1 : 43 < b.length
  · exact ⟨d, j, 2, by unfold jappend; rw [if_pos h1], .inl ⟨by omega, rfl, rfl, .inl h1⟩⟩
  · by_cases h2 : j.held.length = n
    · exact ⟨d, j, 42, by unfold jappend; rw [if_neg h1, if_pos (.inl (by rw [h.jn]; exact h2))], .inl ⟨by omega, rfl, rfl, .inr h2⟩⟩
    · have hnx : j.next = j.first + old.length + fr.length := by unfold JN.next; rw [hhl]; omega
      have hmod := Nat.mod_lt (j.first + old.length + fr.length) (show 0 < n by omega)
      have hpl : j.place j.next = 1 + 2 + (j.first + old.length + fr.length) % n := by unfold JN.place; rw [hnx, h.at1, h.jn]
      have hlen := h.len
      have hw := write_up h.up (i := j.place j.next) (b := stamp j.next j.epoch b) (by omega) (by rw [stamp_length (by omega)]; omega)
      have hstep : jappend d j b = (d.put (j.place j.next) (pad (stamp j.next j.epoch b)), { j with held := j.held ++ [(j.epoch, b)] }, 0) := by
        unfold jappend
        rw [if_neg h1, if_neg (by rw [h.jn]; omega), hw]
      refine ⟨_, _, _, hstep, .inr ⟨rfl, by omega, rfl, rfl, ?_⟩⟩
      have hla : last (d.put (j.place j.next) (pad (stamp j.next j.epoch b))) ((1 : Nat) : Int) = last d ((1 : Nat) : Int) := last_cong (by omega) (by simp [DK.put]) (by simp only [DK.put]; rw [ring_set (by omega), if_neg (by omega)]) (by simp only [DK.put]; rw [ring_set (by omega), if_neg (by omega)])
      exact {
        up := h.up
        ok := by have := h.ok.write (j.place j.next) (stamp j.next j.epoch b); rw [hw] at this; exact this
        len := by simp only [DK.put, List.length_set]; exact hlen
        at1 := h.at1, jn := h.jn, n1 := hn
        held := by simp [h.held]
        hl := by simp; omega
        pend := by
          show d.pend ++ [(j.place j.next, pad (stamp j.next j.epoch b))] = freshW 1 n j.epoch (j.first + old.length) (fr ++ [b])
          rw [freshW_append, h.pend, hpl, hnx]
          rfl
        vis := by
          show d.seen.set _ _ = flush d.sure (d.pend ++ [_])
          rw [flush_snoc, ← h.vis]
        f1 := h.f1
        bnd := by rw [hla]; simp only [List.length_append, List.length_singleton]; omega
        T1 := hT, lowE := h.lowE
        frl := fun x hx => by
          rcases List.mem_append.1 hx with hx | hx
          · exact h.frl x hx
          · rw [List.mem_singleton.1 hx]; omega
        ch := h.ch
        slot := by rw [hla]; exact h.slot
        so := h.so.cong (by omega) (by simp [DK.put]) (by simp only [DK.put]; rw [ring_set (by omega), if_neg (by omega)]) (by simp only [DK.put]; rw [ring_set (by omega), if_neg (by omega)])
        g1 := h.g1, g3 := h.g3, g2 := h.g2 }
end
end Go.Sl
