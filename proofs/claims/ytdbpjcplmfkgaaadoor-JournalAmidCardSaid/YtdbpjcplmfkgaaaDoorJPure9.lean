/- A disk that goes down amid a call. -/
import Derived.Test.YtdbpjcplmfkgaaaDoorJPure8
namespace Go.Sl
open Go
structure Mid (S : List Sec) (pl : Nat → Nat) (B L o : Nat) (new : Sec) (slot : Bool) (d : DK) : Prop where
  ok : d.ok
  len : d.seen.length = 20
  nd : (d.pend.map (·.1)).Nodup
  pd : ∀ w ∈ d.pend, (∃ i, B ≤ i ∧ i < L ∧ w.1 = pl i ∧ w.2 = .zero) ∨ (slot = true ∧ w.1 = o ∧ w.2 = new)
  su : ∀ p, ring d.sure p = ring S p ∨ (∃ i, B ≤ i ∧ i < L ∧ p = pl i ∧ ring d.sure p = .zero) ∨ (slot = true ∧ p = o ∧ ring d.sure p = new)
  sl : slot = false → ring d.seen 1 = ring S 1 ∧ ring d.seen 2 = ring S 2
section
variable {S : List Sec} {pl : Nat → Nat} {B L o : Nat} {new : Sec} {slot : Bool} {d : DK}
theorem Mid.idx (h : Mid S pl B L o new slot d) : ∀ w ∈ d.pend, w.1 < d.sure.length := fun w hw => by rw [h.ok.same]; exact h.ok.idx w hw
theorem Mid.done (h : Mid S pl B L o new slot d) : Mid S pl B L o new slot d.done := ⟨h.ok.done, h.len, h.nd, h.pd, h.su, h.sl⟩
theorem Mid.sync (h : Mid S pl B L o new slot d) : Mid S pl B L o new slot d.sync := by
  have hs := h.ok.sync
  unfold DK.sync at hs ⊢
  split
  · exact h.done
  · rename_i hd
    rw [if_neg hd] at hs
    refine ⟨hs, h.len, List.nodup_nil, by simp, fun p => ?_, h.sl⟩
    show ring (flush d.sure d.pend) p = _ ∨ _
    by_cases hm : p ∈ d.pend.map (·.1)
    · obtain ⟨w, hw, rfl⟩ := List.mem_map.1 hm
      have e := flush_hit d.pend d.sure h.nd h.idx w hw
      rcases h.pd w hw with ⟨i, h1, h2, h3, h4⟩ | ⟨h1, h2, h3⟩
      · exact .inr (.inl ⟨i, h1, h2, h3, by rw [← h4]; exact e⟩)
      · exact .inr (.inr ⟨h1, h2, by rw [← h3]; exact e⟩)
    · have e := flush_other d.pend d.sure p hm h.idx
      show _ ∨ (∃ i, B ≤ i ∧ i < L ∧ p = pl i ∧ ring (flush d.sure d.pend) p = .zero) ∨ (slot = true ∧ p = o ∧ ring (flush d.sure d.pend) p = new)
      rw [e]
      exact h.su p
theorem write_cases {i : Nat} {b : List By} (hi : i < d.seen.length) (hb : b.length ≤ 64) : d.write (i : Int) b = (d.done, 43) ∨ d.write (i : Int) b = (d.done.put i (pad b), 0) := by
  unfold DK.write
  rw [if_neg (by omega), if_neg (by omega), Int.toNat_natCast]
  split
  · exact .inl rfl
  · exact .inr rfl
theorem put_idx {i : Nat} {c : Sec} {b : List By} (h : d.ok) (hi : i < d.seen.length) (hb : b.length ≤ 64) (hc : pad b = c) (hd : d.write (i : Int) b = (d.done.put i (pad b), 0)) : (d.done.put i c).ok := by
  have := h.write (i : Int) b
  rw [hd] at this
  rw [← hc]
  exact this
/-- A place is cleared, or not. -/
theorem Mid.zero (h : Mid S pl (B + 1) L o new false d) (hB : B < L) (hpl : ∀ i, 3 ≤ pl i ∧ pl i < 20) (hinj : ∀ i i', i < L → i' < L → pl i = pl i' → i = i') : Mid S pl B L o new false (d.write (pl B : Nat) []).1 := by
  have up : ∀ d', Mid S pl (B + 1) L o new false d' → Mid S pl B L o new false d' := fun d' h => ⟨h.ok, h.len, h.nd, fun w hw => (h.pd w hw).imp (fun ⟨i, a, b⟩ => ⟨i, by omega, b⟩) id, fun p => (h.su p).imp id fun q => q.imp (fun ⟨i, a, b⟩ => ⟨i, by omega, b⟩) id, h.sl⟩
  rcases write_cases (d := d) (i := pl B) (b := []) (by have := (hpl B).2; have := h.len; omega) (by simp) with e | e
  · rw [e]; exact up _ h.done
  · have hok := put_idx h.ok (by have := (hpl B).2; have := h.len; omega) (by simp) pad_nil e
    rw [e, pad_nil]
    have h3 := hpl B
    have hlen := h.len
    refine ⟨hok, by simp only [DK.put, DK.done, List.length_set]; exact h.len, ?_, ?_, ?_, ?_⟩
    · show ((d.pend ++ [(pl B, Sec.zero)]).map (·.1)).Nodup
      rw [List.map_append]
      refine List.nodup_append.2 ⟨h.nd, by simp, ?_⟩
      intro a ha b hb
      obtain ⟨w, hw, rfl⟩ := List.mem_map.1 ha
      simp only [List.map_cons, List.map_nil, List.mem_singleton] at hb
      subst hb
      rcases h.pd w hw with ⟨i, h1, h2, h4, -⟩ | ⟨h1, -⟩
      · rw [h4]; intro he; have := hinj _ _ h2 hB he; omega
      · cases h1
    · intro w hw
      rcases List.mem_append.1 hw with hw | hw
      · exact (h.pd w hw).imp (fun ⟨i, a, b⟩ => ⟨i, by omega, b⟩) id
      · rw [List.mem_singleton.1 hw]; exact .inl ⟨B, Nat.le_refl _, hB, rfl, rfl⟩
    · intro p
      exact (h.su p).imp id fun q => q.imp (fun ⟨i, a, b⟩ => ⟨i, by omega, b⟩) id
    · intro _
      have := h.sl rfl
      simp only [DK.put, DK.done]
      rw [ring_set (by omega), ring_set (by omega), if_neg (by omega), if_neg (by omega)]
      exact this
/-- The slot is written, or not. -/
theorem Mid.slotw (h : Mid S pl B L o new false d) (hpl : ∀ i, 3 ≤ pl i) (ho : o = 1 ∨ o = 2) {b : List By} (hb : b.length ≤ 64) (hn : pad b = new) : Mid S pl B L o new true (d.write (o : Nat) b).1 ∧ ((d.write (o : Nat) b).2 = 0 ∨ (d.write (o : Nat) b).2 = 43) := by
  have up : ∀ d', Mid S pl B L o new false d' → Mid S pl B L o new true d' := fun d' h => ⟨h.ok, h.len, h.nd, fun w hw => (h.pd w hw).imp id (fun q => by cases q.1), fun p => (h.su p).imp id fun q => q.imp id (fun q => by cases q.1), fun q => by cases q⟩
  have hlen := h.len
  rcases write_cases (d := d) (i := o) (b := b) (by omega) hb with e | e
  · rw [e]; exact ⟨up _ h.done, .inr rfl⟩
  · have hok := put_idx h.ok (by omega) hb hn e
    rw [e, hn]
    refine ⟨⟨hok, by simp only [DK.put, DK.done, List.length_set]; exact h.len, ?_, ?_, ?_, fun q => by cases q⟩, .inl rfl⟩
    · show ((d.pend ++ [(o, new)]).map (·.1)).Nodup
      rw [List.map_append]
      refine List.nodup_append.2 ⟨h.nd, by simp, ?_⟩
      intro a ha b hb
      obtain ⟨w, hw, rfl⟩ := List.mem_map.1 ha
      simp only [List.map_cons, List.map_nil, List.mem_singleton] at hb
      subst hb
      rcases h.pd w hw with ⟨i, -, -, h4, -⟩ | ⟨h1, -⟩
      · rw [h4]; have := hpl i; omega
      · cases h1
    · intro w hw
      rcases List.mem_append.1 hw with hw | hw
      · exact (h.pd w hw).imp id (fun q => by cases q.1)
      · rw [List.mem_singleton.1 hw]; exact .inr ⟨rfl, rfl, rfl⟩
    · intro p
      exact (h.su p).imp id fun q => q.imp id (fun q => by cases q.1)
theorem Mid.cutL (hpl : ∀ i, 3 ≤ pl i ∧ pl i < 20) (hinj : ∀ i i', i < L → i' < L → pl i = pl i' → i = i') : ∀ (k : Nat) (d : DK) (j : JN) (B : Nat), Mid S pl B L o new false d → j.held.length = B → B ≤ L → (∀ i, j.at_ + 2 + (j.first + i) % j.n = pl i) → k ≤ B →
    Mid S pl (B - k) L o new false (cutL d j k).1 ∧ (Sl.cutL d j k).2 = { j with held := j.held.take (j.held.length - k) }
  | 0, d, j, B, h, hj, hBL, hp, hk => ⟨h, by simp only [Sl.cutL, Nat.sub_zero, List.take_length]⟩
  | k + 1, d, j, B, h, hj, hBL, hp, hk => by
    obtain ⟨C, rfl⟩ : ∃ C, B = C + 1 := ⟨B - 1, by omega⟩
    obtain ⟨j1, hj1⟩ : ∃ j1 : JN, j1 = { j with held := j.held.dropLast } := ⟨_, rfl⟩
    have hl1 : j1.held.length = C := by rw [hj1, List.length_dropLast, hj]; omega
    have hpp : j1.place j1.next = pl C := by unfold JN.place JN.next; rw [hl1, hj1]; exact hp C
    have hz := h.zero (by omega) hpl hinj
    obtain ⟨r1, r2⟩ := Mid.cutL hpl hinj k (d.write ((j1.place j1.next : Nat) : Int) []).1 j1 C (by rw [hpp]; exact hz) hl1 (by omega) (by rw [hj1]; exact hp) (by omega)
    simp only [Sl.cutL]
    rw [← hj1]
    refine ⟨by rw [show C + 1 - (k + 1) = C - k by omega]; exact r1, ?_⟩
    rw [r2, hj1]
    simp only [JN.mk.injEq, true_and]
    rw [List.dropLast_eq_take, List.take_take, List.length_take]
    congr 1
    omega
end
section
variable {n T : Nat} {d : DK} {j : JN}
def plJ (j : JN) (n i : Nat) : Nat := 1 + 2 + (j.first + i) % n
theorem plJ_inj (h : JInv n T d j j.held []) : ∀ i i', i < j.held.length → i' < j.held.length → plJ j n i = plJ j n i' → i = i' := fun i i' h1 h2 he => by
  have hl := h.hl
  simp only [List.length_nil, Nat.add_zero] at hl
  rcases Nat.lt_or_ge i i' with h3 | h3
  · have := mod_ne (a := j.first + i) (b := j.first + i') (n := n) (by omega) (by omega) (by omega)
    unfold plJ at he; omega
  · rcases Nat.lt_or_ge i' i with h4 | h4
    · have := mod_ne (a := j.first + i) (b := j.first + i') (n := n) (by omega) (by omega) (by omega)
      unfold plJ at he; omega
    · omega
theorem plJ_range (h : JInv n T d j j.held []) : ∀ i, 3 ≤ plJ j n i ∧ plJ j n i < 20 := fun i => by
  have hn := h.n1
  have := Nat.mod_lt (j.first + i) (show 0 < n by omega)
  unfold plJ; omega
theorem other_12 (d : DK) : otherI d 1 = 1 ∨ otherI d 1 = 2 := by unfold otherI; split <;> omega
/-- With a fuse, nothing done. -/
theorem Mid.start (h : JInv n T d j j.held []) {F : Int} (hF : -9223372036854775808 ≤ F ∧ F ≤ 9223372036854775807) (o : Nat) (new : Sec) : Mid d.seen (plJ j n) j.held.length j.held.length o new false { d with fuse := F } := by
  obtain ⟨e1, e2, -⟩ := h.sure rfl
  refine ⟨⟨h.ok.n, h.ok.same, h.ok.idx, hF⟩, h.len, by show (d.pend.map _).Nodup; rw [e1]; exact List.nodup_nil, ?_, ?_, fun _ => ⟨rfl, rfl⟩⟩
  · intro w hw
    have hw : w ∈ d.pend := hw
    rw [e1] at hw; cases hw
  · intro p
    left
    show ring d.sure p = _
    rw [e2]
/-- Saving, whatever goes down. -/
theorem Mid.save {B : Nat} {d1 : DK} {xs : List By} (h : JInv n T d j j.held []) (hm : Mid d.seen (plJ j n) B j.held.length (otherI d 1) (stampS ((last d ((1 : Nat) : Int)).seq + 1) 0 xs) false d1) (hx : xs.length ≤ 43) :
    Mid d.seen (plJ j n) B j.held.length (otherI d 1) (stampS ((last d ((1 : Nat) : Int)).seq + 1) 0 xs) true (save d1 ((1 : Nat) : Int) xs).1 ∧ ((Sl.save d1 ((1 : Nat) : Int) xs).2 = 0 ∨ (Sl.save d1 ((1 : Nat) : Int) xs).2 = 43) := by
  have hsl := hm.sl rfl
  have hl : last d1 ((1 : Nat) : Int) = last d ((1 : Nat) : Int) := last_cong (by rw [h.len]; omega) (by rw [h.len, hm.len]) hsl.1 hsl.2
  have hb := h.bnd
  have hT := h.T1
  have hat := last_at d ((1 : Nat) : Int)
  have hidx : 2 * ((1 : Nat) : Int) + 1 - (last d ((1 : Nat) : Int)).at_ = ((otherI d 1 : Nat) : Int) := by
    unfold otherI
    split
    · rename_i e; rw [e]; simp
    · rename_i e
      rcases hat with h1 | h1
      · exact absurd h1 e
      · rw [h1]; simp
  have hput : put d1 ((1 : Nat) : Int) xs = d1.sync.write ((otherI d 1 : Nat) : Int) (stamp ((last d ((1 : Nat) : Int)).seq + 1) 0 xs) := by
    unfold put
    rw [if_neg (by rw [right_in (by rw [hm.len]; omega)]; simp), if_neg (by omega), hl, if_neg (by omega), hidx]
  obtain ⟨w1, w2⟩ := hm.sync.slotw (fun i => (plJ_range h i).1) (other_12 d) (b := stamp ((last d ((1 : Nat) : Int)).seq + 1) 0 xs) (by rw [stamp_length hx]; omega) rfl
  unfold Sl.save
  rw [hput]
  split
  · refine ⟨w1.sync, ?_⟩
    simp only
    split
    · exact .inr rfl
    · exact .inl rfl
  · exact ⟨w1, w2⟩
/-- What a crash leaves then. -/
theorem Mid.crash {B : Nat} {d1 : DK} {xs : List By} (h : JInv n T d j j.held []) (hm : Mid d.seen (plJ j n) B j.held.length (otherI d 1) (stampS ((last d ((1 : Nat) : Int)).seq + 1) 0 xs) true d1) (hx : xs.length ≤ 43) (ps : List Int) :
    (∀ i, i < j.held.length → ring (d1.crash ps).seen (plJ j n i) = ring d.seen (plJ j n i) ∨ (B ≤ i ∧ parse (ring (d1.crash ps).seen (plJ j n i)).1 = none)) ∧
    (j.held.length < n → ring (d1.crash ps).seen (plJ j n j.held.length) = ring d.seen (plJ j n j.held.length)) ∧
    (last (d1.crash ps) ((1 : Nat) : Int) = last d ((1 : Nat) : Int) ∨ ((last (d1.crash ps) ((1 : Nat) : Int)).seq = (last d ((1 : Nat) : Int)).seq + 1 ∧ (last (d1.crash ps) ((1 : Nat) : Int)).b = xs)) ∧
    Up (d1.crash ps) ∧ (d1.crash ps).ok ∧ (d1.crash ps).seen.length = 20 ∧ (d1.crash ps).seen = flush (d1.crash ps).sure (d1.crash ps).pend := by
  have hpl := plJ_range h
  have hinj := plJ_inj h
  have ho := other_12 d
  have hb := h.bnd
  have hT := h.T1
  have hh := h.hl
  simp only [List.length_nil, Nat.add_zero] at hh
  have hS : ∀ p, ring (d1.crash ps).seen p = ring (crashL d1.sure d1.pend ps) p := fun p => rfl
  have hnot : ∀ p, p ∉ d1.pend.map (·.1) → ring (d1.crash ps).seen p = ring d1.sure p := fun p hp => by rw [hS]; exact crashL_other _ _ _ _ hp hm.idx
  have hlen : (d1.crash ps).seen.length = 20 := by
    show (crashL d1.sure d1.pend ps).length = 20
    rw [crashL_len, hm.ok.same, hm.len]
  refine ⟨?_, ?_, ?_, ⟨rfl, rfl⟩, hm.ok.crash ps, hlen, rfl⟩
  · intro i hi
    have hstamp : ∃ s e b, b.length ≤ 43 ∧ s < 4294967296 ∧ e < 4294967296 ∧ ring d.seen (plJ j n i) = stampS s e b := by
      obtain ⟨x, hx1⟩ : ∃ x, j.held[i]? = some x := ⟨j.held[i], by simp [hi]⟩
      have hch := h.ch
      rw [(h.sure rfl).2.1] at hch
      have hcm := (chain_append (j.held.take i) (j.held.drop i) j.low j.first).1 (by rw [List.take_append_drop]; exact hch)
      have hdm : j.held.drop i = x :: j.held.drop (i + 1) := by rw [List.drop_eq_getElem_cons hi]; congr 1; rw [List.getElem?_eq_getElem hi] at hx1; exact Option.some.inj hx1
      rw [hdm, List.length_take, Nat.min_eq_left (by omega)] at hcm
      obtain ⟨c1, c2, -, c4, -⟩ := hcm.2
      exact ⟨_, _, _, c1, by omega, by omega, c2⟩
    obtain ⟨s, e, b, b1, b2, b3, b4⟩ := hstamp
    by_cases hp : plJ j n i ∈ d1.pend.map (·.1)
    · obtain ⟨w, hw, hwe⟩ := List.mem_map.1 hp
      obtain ⟨q, hq, hr⟩ := crashL_hit d1.pend d1.sure ps hm.nd hm.idx w hw
      rcases hm.pd w hw with ⟨i', h1, h2, h3, h4⟩ | ⟨-, h2, -⟩
      · have hii : i' = i := hinj _ _ h2 hi (by rw [← h3, ← hwe])
        subst hii
        rw [hS, ← hwe, hr, h4, hwe]
        rcases hm.su (plJ j n i') with g1 | ⟨i2, -, -, -, g1⟩ | ⟨-, g1, -⟩
        · rw [g1, b4]
          rcases torn_zero (e := e) hq b1 b2 b3 with g2 | g2
          · exact .inr ⟨h1, g2⟩
          · exact .inl g2
        · rw [g1, torn_same]
          exact .inr ⟨h1, parse_zero⟩
        · have := (hpl i').1; omega
      · have := (hpl i).1; omega
    · rw [hnot _ hp]
      rcases hm.su (plJ j n i) with g1 | ⟨i2, g0, g2, g3, g1⟩ | ⟨-, g1, -⟩
      · exact .inl g1
      · have := hinj _ _ hi g2 g3
        subst this
        rw [g1]
        exact .inr ⟨g0, parse_zero⟩
      · have := (hpl i).1; omega
  · intro hlt
    have hno : ∀ i, i < j.held.length → plJ j n j.held.length ≠ plJ j n i := fun i hi he => by
      have := mod_ne (a := j.first + j.held.length) (b := j.first + i) (n := n) (by omega) (by omega) (by omega)
      unfold plJ at he; omega
    have h3 := (hpl j.held.length).1
    have hp : plJ j n j.held.length ∉ d1.pend.map (·.1) := fun hp => by
      obtain ⟨w, hw, hwe⟩ := List.mem_map.1 hp
      rcases hm.pd w hw with ⟨i', -, h2, h4, -⟩ | ⟨-, h2, -⟩
      · exact hno i' h2 (by rw [← hwe, h4])
      · omega
    rw [hnot _ hp]
    rcases hm.su (plJ j n j.held.length) with g1 | ⟨i2, -, g2, g3, -⟩ | ⟨-, g1, -⟩
    · exact g1
    · exact absurd g3 (hno i2 g2)
    · omega
  · have hoq : ∃ q, q ≤ 64 ∧ ring (d1.crash ps).seen (otherI d 1) = torn q (stampS ((last d ((1 : Nat) : Int)).seq + 1) 0 xs) (ring d.seen (otherI d 1)) := by
      by_cases hp : otherI d 1 ∈ d1.pend.map (·.1)
      · obtain ⟨w, hw, hwe⟩ := List.mem_map.1 hp
        obtain ⟨q, hq, hr⟩ := crashL_hit d1.pend d1.sure ps hm.nd hm.idx w hw
        rcases hm.pd w hw with ⟨i', -, -, h3, -⟩ | ⟨-, h2, h4⟩
        · have := (hpl i').1; omega
        · rw [hS, ← hwe, hr, h4, hwe]
          rcases hm.su (otherI d 1) with g1 | ⟨i2, -, -, g3, -⟩ | ⟨-, -, g1⟩
          · exact ⟨q, hq, by rw [g1]⟩
          · have := (hpl i2).1; omega
          · exact ⟨64, by omega, by rw [g1, torn_same, torn_all]⟩
      · rw [hnot _ hp]
        rcases hm.su (otherI d 1) with g1 | ⟨i2, -, -, g3, -⟩ | ⟨-, -, g1⟩
        · exact ⟨0, by omega, by rw [g1]; apply Subtype.ext; simp [torn]⟩
        · have := (hpl i2).1; omega
        · exact ⟨64, by omega, by rw [g1, torn_all]⟩
    have hc : ring (d1.crash ps).seen (3 - otherI d 1) = ring d.seen (3 - otherI d 1) := by
      have hp : 3 - otherI d 1 ∉ d1.pend.map (·.1) := fun hp => by
        obtain ⟨w, hw, hwe⟩ := List.mem_map.1 hp
        rcases hm.pd w hw with ⟨i', -, -, h3, -⟩ | ⟨-, h2, -⟩
        · have := (hpl i').1; omega
        · omega
      rw [hnot _ hp]
      rcases hm.su (3 - otherI d 1) with g1 | ⟨i2, -, -, g3, -⟩ | ⟨-, g1, -⟩
      · exact g1
      · have := (hpl i2).1; omega
      · omega
    obtain ⟨q, hq, hoq⟩ := hoq
    exact slot_torn hq h.so h.len hlen (by omega) hx hoq hc
theorem begun_of {dc : DK} {j1 : JN} (hn : j1.n = n) (hp : 0 < (last dc ((1 : Nat) : Int)).seq) (hb : (last dc ((1 : Nat) : Int)).b = j1.metaB) (h1 : 1 ≤ j1.first ∧ j1.first < 4294967296) (h2 : j1.epoch < 4294967296) (h3 : j1.low ≤ j1.epoch) : JN.begun dc 1 n = some ⟨1, n, j1.first, j1.epoch, j1.low, []⟩ := by
  obtain ⟨m1, m2, m3, m4⟩ := meta_nums (a := j1.first) (b := j1.epoch) (c := j1.low) (by omega) (by omega) (by omega)
  unfold JN.begun
  rw [if_neg (by omega), hb]
  unfold JN.metaB
  rw [if_pos ⟨m1, by rw [m2]; omega, by rw [m3, m4]; exact h3⟩, m2, m3, m4]
/-- A Cut that the disk goes down in. -/
theorem amid_cut (h : JInv n T d j j.held []) {F : Int} (hF : -9223372036854775808 ≤ F ∧ F ≤ 9223372036854775807) (k : Int) (ps : List Int) :
    ∃ m d6 j6, jopen0 ((jcut { d with fuse := F } j k).1.crash ps) 1 n = (d6, some j6, 0) ∧ j6.held = j.held.take m ∧ m ≤ j.held.length ∧
      (0 ≤ k ∧ k ≤ j.held.length → j.held.length - k.toNat ≤ m ∧ ((jcut { d with fuse := F } j k).2.2 = 0 ∨ (jcut { d with fuse := F } j k).2.2 = 43)) ∧ (¬ (0 ≤ k ∧ k ≤ j.held.length) → m = j.held.length ∧ (jcut { d with fuse := F } j k).2.2 = 1) := by
  have hn := h.n1
  have hb := h.bnd
  have hT := h.T1
  have hf1 := h.f1
  have hlow := h.lowE
  have hh := h.hl
  have hpos := h.slot.1
  simp only [List.length_nil, Nat.add_zero] at hh hb
  by_cases hk : k < 0 ∨ (j.held.length : Int) < k
  · have hst : jcut { d with fuse := F } j k = ({ d with fuse := F }, j, 1) := by unfold jcut; rw [if_pos hk]
    rw [hst]
    by_cases hT2 : T + 1 ≤ 1000
    · obtain ⟨d6, j6, r1, -, r3⟩ := crash_sure h hT2 ps
      exact ⟨j.held.length, d6, j6, r1, by rw [r3, List.take_length], Nat.le_refl _, fun h => by omega, fun _ => ⟨rfl, rfl⟩⟩
    · have hm := (Mid.start h hF (otherI d 1) (stampS ((last d ((1 : Nat) : Int)).seq + 1) 0 []))
      have up : Mid d.seen (plJ j n) j.held.length j.held.length (otherI d 1) (stampS ((last d ((1 : Nat) : Int)).seq + 1) 0 []) true { d with fuse := F } := ⟨hm.ok, hm.len, hm.nd, fun w hw => (hm.pd w hw).imp id (fun q => by cases q.1), fun p => (hm.su p).imp id fun q => q.imp id (fun q => by cases q.1), fun q => by cases q⟩
      obtain ⟨q1, q2, -, q4, q5, q6, q7⟩ := Mid.crash h up (by simp) ps
      have hl : last (({ d with fuse := F } : DK).crash ps) ((1 : Nat) : Int) = last d ((1 : Nat) : Int) := by
        obtain ⟨e1, e2, -⟩ := h.sure rfl
        have : (({ d with fuse := F } : DK).crash ps).seen = d.seen := by
          show crashL d.sure d.pend ps = d.seen
          rw [e1, e2]; rfl
        exact last_cong (by rw [h.len]; omega) (by rw [this]) (by rw [this]) (by rw [this])
      have hbg := begun_of (j1 := j) h.jn (by rw [hl]; exact hpos) (by rw [hl]; exact h.slot.2) (by omega) (by omega) hlow
      have hch := h.ch
      rw [(h.sure rfl).2.1] at hch
      obtain ⟨m, d6, j6, r0, r1, r2, r3⟩ := amid_open (E := j.epoch) (m0 := j.held.length) q4 q5 q6 hn q7 hbg (Nat.le_refl _) (by rw [hl]; omega) hf1 (by omega) (by omega) hch hh (fun i hi => q1 i hi) q2 (by have := h.g2; rw [(h.sure rfl).2.1] at this; exact this) (Nat.le_refl _)
      exact ⟨m, d6, j6, r2, r3, r1, fun h => by omega, fun _ => ⟨by omega, rfl⟩⟩
  · obtain ⟨m, rfl⟩ : ∃ m : Nat, k = (m : Int) := ⟨k.toNat, by omega⟩
    have hm : m ≤ j.held.length := by omega
    obtain ⟨j1, hj1⟩ : ∃ j1 : JN, j1 = { j with held := j.held.take (j.held.length - m), epoch := j.epoch + 1 } := ⟨_, rfl⟩
    obtain ⟨c1, c2⟩ := Mid.cutL (plJ_range h) (plJ_inj h) m _ j j.held.length (Mid.start h hF (otherI d 1) (stampS ((last d ((1 : Nat) : Int)).seq + 1) 0 j1.metaB)).sync rfl (Nat.le_refl _) (fun i => by unfold plJ; rw [h.at1, h.jn]) hm
    obtain ⟨s1, s2⟩ := Mid.save h c1.sync (by rw [metaB_len]; omega)
    have hst : jcut { d with fuse := F } j (m : Int) = ((save (cutL (DK.sync { d with fuse := F }) j m).1.sync ((1 : Nat) : Int) j1.metaB).1, j1, (save (cutL (DK.sync { d with fuse := F }) j m).1.sync ((1 : Nat) : Int) j1.metaB).2) := by
      unfold jcut
      rw [if_neg hk, if_neg (by omega), Int.toNat_natCast]
      generalize hcl : cutL (DK.sync { d with fuse := F }) j m = X at c1 c2
      obtain ⟨X1, X2⟩ := X
      simp only at c2
      subst c2
      simp only
      rw [← hj1]
      unfold jsave
      rw [show ((j1.at_ : Nat) : Int) = ((1 : Nat) : Int) by rw [hj1]; exact congrArg _ h.at1]
    rw [hst]
    obtain ⟨q1, q2, q3, q4, q5, q6, q7⟩ := Mid.crash h s1 (by rw [metaB_len]; omega) ps
    have hch := h.ch
    rw [(h.sure rfl).2.1] at hch
    have hg2 := h.g2
    rw [(h.sure rfl).2.1] at hg2
    have fin : ∀ E', JN.begun ((save (cutL (DK.sync { d with fuse := F }) j m).1.sync ((1 : Nat) : Int) j1.metaB).1.crash ps) 1 n = some ⟨1, n, j.first, E', j.low, []⟩ → j.epoch ≤ E' → E' ≤ 5000 → (last ((save (cutL (DK.sync { d with fuse := F }) j m).1.sync ((1 : Nat) : Int) j1.metaB).1.crash ps) ((1 : Nat) : Int)).seq ≤ 5000 →
        ∃ m' d6 j6, jopen0 ((save (cutL (DK.sync { d with fuse := F }) j m).1.sync ((1 : Nat) : Int) j1.metaB).1.crash ps) 1 n = (d6, some j6, 0) ∧ j6.held = j.held.take m' ∧ m' ≤ j.held.length ∧ j.held.length - m ≤ m' := fun E' hbg hE1 hE2 hsq => by
      obtain ⟨m', d6, j6, r0, r1, r2, r3⟩ := amid_open (E := j.epoch) (m0 := j.held.length - m) q4 q5 q6 hn q7 hbg hE1 hsq hf1 (by omega) hE2 hch hh (fun i hi => q1 i hi) q2 hg2 (by omega)
      exact ⟨m', d6, j6, r2, r3, r1, r0⟩
    have : ∃ m' d6 j6, jopen0 ((save (cutL (DK.sync { d with fuse := F }) j m).1.sync ((1 : Nat) : Int) j1.metaB).1.crash ps) 1 n = (d6, some j6, 0) ∧ j6.held = j.held.take m' ∧ m' ≤ j.held.length ∧ j.held.length - m ≤ m' := by
      rcases q3 with hl | ⟨hl1, hl2⟩
      · exact fin j.epoch (begun_of (j1 := j) h.jn (by rw [hl]; exact hpos) (by rw [hl]; exact h.slot.2) (by omega) (by omega) hlow) (Nat.le_refl _) (by omega) (by rw [hl]; omega)
      · have e : j1.first = j.first ∧ j1.low = j.low ∧ j1.epoch = j.epoch + 1 ∧ j1.n = n := by rw [hj1]; exact ⟨rfl, rfl, rfl, h.jn⟩
        have hbg := begun_of (j1 := j1) (dc := (save (cutL (DK.sync { d with fuse := F }) j m).1.sync ((1 : Nat) : Int) j1.metaB).1.crash ps) e.2.2.2 (by rw [hl1]; omega) hl2 (by rw [e.1]; omega) (by rw [e.2.2.1]; omega) (by rw [e.2.1, e.2.2.1]; omega)
        rw [e.1, e.2.1, e.2.2.1] at hbg
        exact fin (j.epoch + 1) hbg (by omega) (by omega) (by rw [hl1]; omega)
    obtain ⟨m', d6, j6, r1, r2, r3, r4⟩ := this
    exact ⟨m', d6, j6, r1, r2, r3, fun _ => ⟨by rw [Int.toNat_natCast]; exact r4, s2⟩, fun h => absurd ⟨by omega, by omega⟩ h⟩
/-- A Trim that the disk goes down in. -/
theorem amid_trim (h : JInv n T d j j.held []) {F : Int} (hF : -9223372036854775808 ≤ F ∧ F ≤ 9223372036854775807) (k : Int) (ps : List Int) :
    ∃ d6 j6, jopen0 ((jtrim { d with fuse := F } j k).1.crash ps) 1 n = (d6, some j6, 0) ∧
      (j6.held = j.held ∨ (0 ≤ k ∧ k ≤ j.held.length ∧ j6.held = j.held.drop k.toNat)) ∧ (0 ≤ k ∧ k ≤ j.held.length → (jtrim { d with fuse := F } j k).2.2 = 0 ∨ (jtrim { d with fuse := F } j k).2.2 = 43) := by
  have hn := h.n1
  have hb := h.bnd
  have hT := h.T1
  have hf1 := h.f1
  have hlow := h.lowE
  have hh := h.hl
  have hpos := h.slot.1
  simp only [List.length_nil, Nat.add_zero] at hh hb
  by_cases hk : k < 0 ∨ (j.held.length : Int) < k
  · have hst : jtrim { d with fuse := F } j k = ({ d with fuse := F }, j, 1) := by unfold jtrim; rw [if_pos hk]
    have hst2 : jcut { d with fuse := F } j k = ({ d with fuse := F }, j, 1) := by unfold jcut; rw [if_pos hk]
    obtain ⟨m, d6, j6, r1, r2, -, -, r5⟩ := amid_cut h hF k ps
    rw [hst2] at r1
    rw [hst]
    refine ⟨d6, j6, r1, .inl ?_, fun h => by omega⟩
    rw [r2, (r5 (by omega)).1, List.take_length]
  · obtain ⟨m, rfl⟩ : ∃ m : Nat, k = (m : Int) := ⟨k.toNat, by omega⟩
    have hm : m ≤ j.held.length := by omega
    obtain ⟨j1, hj1⟩ : ∃ j1 : JN, j1 = { j with low := lastE j.low (j.held.take m), first := j.first + m, held := j.held.drop m } := ⟨_, rfl⟩
    have hlo : (if 0 < (m : Int) then ((j.held[(m : Int).toNat - 1]?).getD (0, [])).1 else j.low) = lastE j.low (j.held.take m) := by
      rw [Int.toNat_natCast]
      by_cases h0 : 0 < m
      · rw [if_pos (by omega), lastE_held _ _ j.low h0 hm]
      · rw [if_neg (by omega), show m = 0 by omega]; rfl
    obtain ⟨s1, s2⟩ := Mid.save h (Mid.start h hF (otherI d 1) (stampS ((last d ((1 : Nat) : Int)).seq + 1) 0 j1.metaB)) (by rw [metaB_len]; omega)
    have hst : jtrim { d with fuse := F } j (m : Int) = ((save { d with fuse := F } ((1 : Nat) : Int) j1.metaB).1, j1, (save { d with fuse := F } ((1 : Nat) : Int) j1.metaB).2) := by
      unfold jtrim
      rw [if_neg hk, hlo, Int.toNat_natCast, ← hj1]
      unfold jsave
      simp only
      rw [show ((j1.at_ : Nat) : Int) = ((1 : Nat) : Int) by rw [hj1]; exact congrArg _ h.at1]
    rw [hst]
    obtain ⟨q1, q2, q3, q4, q5, q6, q7⟩ := Mid.crash h s1 (by rw [metaB_len]; omega) ps
    have hch := h.ch
    rw [(h.sure rfl).2.1] at hch
    have hg2 := h.g2
    rw [(h.sure rfl).2.1] at hg2
    have hsame : ∀ i, i < j.held.length → ring ((save { d with fuse := F } ((1 : Nat) : Int) j1.metaB).1.crash ps).seen (plJ j n i) = ring d.seen (plJ j n i) := fun i hi => by
      rcases q1 i hi with r | r
      · exact r
      · omega
    have hcm := (chain_append (j.held.take m) (j.held.drop m) j.low j.first).1 (by rw [List.take_append_drop]; exact hch)
    rw [List.length_take, Nat.min_eq_left hm] at hcm
    rcases q3 with hl | ⟨hl1, hl2⟩
    · have hbg := begun_of (j1 := j) (dc := (save { d with fuse := F } ((1 : Nat) : Int) j1.metaB).1.crash ps) h.jn (by rw [hl]; exact hpos) (by rw [hl]; exact h.slot.2) (by omega) (by omega) hlow
      obtain ⟨m', d6, j6, r0, r1, r2, r3⟩ := amid_open (E := j.epoch) (m0 := j.held.length) q4 q5 q6 hn q7 hbg (Nat.le_refl _) (by rw [hl]; omega) hf1 (by omega) (by omega) hch hh (fun i hi => .inl (hsame i hi)) q2 hg2 (Nat.le_refl _)
      refine ⟨d6, j6, r2, .inl ?_, fun _ => s2⟩
      rw [r3, show m' = j.held.length by omega, List.take_length]
    · have e : j1.first = j.first + m ∧ j1.low = lastE j.low (j.held.take m) ∧ j1.epoch = j.epoch ∧ j1.n = n := by rw [hj1]; exact ⟨rfl, rfl, rfl, h.jn⟩
      have hle := (chain_lastE _ _ _ hlow hcm.1).2
      have hbg := begun_of (j1 := j1) (dc := (save { d with fuse := F } ((1 : Nat) : Int) j1.metaB).1.crash ps) e.2.2.2 (by rw [hl1]; omega) hl2 (by rw [e.1]; omega) (by rw [e.2.2.1]; omega) (by rw [e.2.1, e.2.2.1]; exact hle)
      rw [e.1, e.2.1, e.2.2.1] at hbg
      have hdl : (j.held.drop m).length = j.held.length - m := by rw [List.length_drop]
      have hsum : j.first + m + (j.held.drop m).length = j.first + j.held.length := by rw [hdl]; omega
      obtain ⟨m', d6, j6, r0, r1, r2, r3⟩ := amid_open (E := j.epoch) (m0 := (j.held.drop m).length) (l := j.held.drop m) q4 q5 q6 hn q7 hbg (Nat.le_refl _) (by rw [hl1]; omega) (by omega) (by omega) (by omega) hcm.2 (by omega)
        (fun i hi => .inl (by have := hsame (m + i) (by omega); unfold plJ at this; rw [Nat.add_assoc j.first m i]; exact this))
        (fun hlt => by
          rw [hsum]
          rcases Nat.lt_or_ge j.held.length n with h4 | h4
          · exact q2 h4
          · have h5 := hsame 0 (by omega)
            unfold plJ at h5
            rw [show j.held.length = n by omega, Nat.add_mod_right]
            exact h5)
        (by rw [hsum, ← lastE_append, List.take_append_drop]; exact hg2) (Nat.le_refl _)
      refine ⟨d6, j6, r2, .inr ⟨by omega, by omega, ?_⟩, fun _ => s2⟩
      rw [r3, show m' = (j.held.drop m).length by omega, List.take_length, Int.toNat_natCast]
/-- An Append that the disk goes down in. -/
theorem amid_append (h : JInv n T d j j.held []) (hT2 : T + 2 ≤ 1000) (F : Int) (b : List By) (ps : List Int) :
    ∃ d6 j6, jopen0 ((jappend { d with fuse := F } j b).1.crash ps) 1 n = (d6, some j6, 0) ∧
      (j6.held.map (·.2) = j.held.map (·.2) ∨ (((jappend { d with fuse := F } j b).2.2 = 0 ∨ (jappend { d with fuse := F } j b).2.2 = 43) ∧ j6.held.map (·.2) = j.held.map (·.2) ++ [b])) := by
  have hn := h.n1
  have hb := h.bnd
  have hh := h.hl
  simp only [List.length_nil, Nat.add_zero] at hh hb
  obtain ⟨d6, j6, r1, -, r3⟩ := crash_sure h (by omega) ps
  by_cases h1 : 43 < b.length
  · have hst : jappend { d with fuse := F } j b = ({ d with fuse := F }, j, 2) := by unfold jappend; rw [if_pos h1]
    rw [hst]
    exact ⟨d6, j6, r1, .inl (by rw [r3])⟩
  · by_cases h2 : j.held.length = j.n ∨ 4294967295 < j.next
    · have hst : jappend { d with fuse := F } j b = ({ d with fuse := F }, j, 42) := by unfold jappend; rw [if_neg h1, if_pos h2]
      rw [hst]
      exact ⟨d6, j6, r1, .inl (by rw [r3])⟩
    · have hnx : j.next = j.first + j.held.length := rfl
      have hmod := Nat.mod_lt (j.first + j.held.length) (show 0 < n by omega)
      have hpl : j.place j.next = 1 + 2 + (j.first + j.held.length) % n := by unfold JN.place; rw [hnx, h.at1, h.jn]
      have hlen := h.len
      have hst : jappend { d with fuse := F } j b = ((DK.write { d with fuse := F } (j.place j.next : Nat) (stamp j.next j.epoch b)).1, { j with held := j.held ++ [(j.epoch, b)] }, (DK.write { d with fuse := F } (j.place j.next : Nat) (stamp j.next j.epoch b)).2) := by
        unfold jappend; rw [if_neg h1, if_neg h2]
      rw [hst]
      rcases write_cases (d := { d with fuse := F }) (i := j.place j.next) (b := stamp j.next j.epoch b) (by show _ < d.seen.length; omega) (by rw [stamp_length (by omega)]; omega) with e | e
      · rw [e]
        exact ⟨d6, j6, r1, .inl (by rw [r3])⟩
      · rw [e]
        have hstep : jappend d j b = (d.put (j.place j.next) (pad (stamp j.next j.epoch b)), { j with held := j.held ++ [(j.epoch, b)] }, 0) := by
          unfold jappend
          rw [if_neg h1, if_neg h2, write_up h.up (by omega) (by rw [stamp_length (by omega)]; omega)]
        obtain ⟨d', j', e', a1, a2⟩ := append_inv h (by omega) b
        rw [hstep] at a1
        obtain ⟨rfl, rfl, rfl⟩ : d.put (j.place j.next) (pad (stamp j.next j.epoch b)) = d' ∧ ({ j with held := j.held ++ [(j.epoch, b)] } : JN) = j' ∧ (0 : Int) = e' := by simpa using a1
        rcases a2 with a2 | ⟨-, -, -, -, a2⟩
        · exact absurd rfl a2.1
        · obtain ⟨i, d7, j7, hi, q1, -, q3⟩ := crash_open a2 (by omega) ps
          refine ⟨d7, j7, q1, ?_⟩
          have hi2 : i ≤ 1 := hi
          rcases Nat.lt_or_ge i 1 with h5 | h5
          · left; rw [q3, show i = 0 by omega]; simp [frE]
          · right
            refine ⟨.inl rfl, ?_⟩
            rw [q3, show i = 1 by omega]; simp [frE]
/-- A disk that can go on. -/
structure Fine (d : DK) (p : Nat) : Prop where
  ok : d.ok
  len : d.seen.length = 20
  pend : d.pend.length ≤ p
theorem Fine.write {p : Nat} (h : Fine d p) (i : Int) (b : List By) : Fine (d.write i b).1 (p + 1) := ⟨h.ok.write i b, by rw [write_len]; exact h.len, by have := write_pend d i b; have := h.pend; omega⟩
theorem Fine.sync {p : Nat} (h : Fine d p) : Fine d.sync p := ⟨h.ok.sync, by rw [sync_len]; exact h.len, by have := sync_pend d; have := h.pend; omega⟩
theorem Fine.save {p : Nat} (h : Fine d p) (i : Int) (b : List By) : Fine (save d i b).1 (p + 1) := ⟨save_ok h.ok i b, by rw [save_len]; exact h.len, by have := save_pend d i b; have := h.pend; omega⟩
theorem Fine.up {p q : Nat} (h : Fine d p) (hq : p ≤ q) : Fine d q := ⟨h.ok, h.len, by have := h.pend; omega⟩
theorem Fine.append {p : Nat} (h : Fine d p) (b : List By) : Fine (jappend d j b).1 (p + 1) := by
  unfold jappend
  split
  · exact h.up (by omega)
  · split
    · exact h.up (by omega)
    · exact h.write _ _
theorem Fine.trim {p : Nat} (h : Fine d p) (k : Int) : Fine (jtrim d j k).1 (p + 1) := by
  unfold jtrim
  split
  · exact h.up (by omega)
  · exact h.save _ _
theorem Fine.cutL : ∀ (k : Nat) (d : DK) (j : JN) (p : Nat), Fine d p → Fine (Sl.cutL d j k).1 (p + k)
  | 0, _, _, _, h => h
  | k + 1, d, j, p, h => by
    simp only [Sl.cutL]
    have := Fine.cutL k _ { j with held := j.held.dropLast } (p + 1) (h.write (({ j with held := j.held.dropLast } : JN).place (({ j with held := j.held.dropLast } : JN).next) : Nat) [])
    exact this.up (by omega)
theorem Fine.cut {p : Nat} (h : Fine d p) (k : Int) (hj : j.held.length ≤ 17) : Fine (jcut d j k).1 (p + 18) := by
  unfold jcut
  split
  · exact h.up (by omega)
  · split
    · exact h.up (by omega)
    · exact ((Fine.cutL k.toNat d.sync j p h.sync).sync.save _ _).up (by omega)
theorem jopen0_held {d d' : DK} {n : Nat} {j' : JN} (h : jopen0 d 1 n = (d', some j', 0)) : (∀ x ∈ j'.held, x.2.length ≤ 43) ∧ j'.held.length ≤ n := by
  cases hb : JN.begun d 1 n with
  | none => rw [jopen0_none hb] at h; simp at h
  | some j0 =>
    have hn : j0.n = n := by
      unfold JN.begun at hb
      split at hb
      · simp at hb; rw [← hb]
      · split at hb
        · simp at hb; rw [← hb]
        · cases hb
    by_cases he : j0.epoch = 4294967295
    · rw [jopen0_full hb he] at h; simp at h
    · by_cases hs : (jsave (openD d (j0.scanned d) n) (openJ (j0.scanned d))).2 = 0
      · rw [jopen0_ok hb he hs] at h
        have h2 : openJ (j0.scanned d) = j' := by simp at h; exact h.2
        rw [← h2]
        have := scanL_all (d := d) (at_ := j0.at_) (n := j0.n) (epoch := j0.epoch) j0.n j0.low j0.first
        exact ⟨fun x hx => (this.2 x hx).2, by rw [← hn]; exact this.1⟩
      · rw [jopen0_err hb he hs] at h; simp at h
/-- What may be held behind a crash amid a call. -/
def AmidP (was is_ now : List (List By)) (g od : Int) : Prop := now = was ∨ ((g = 0 ∨ g = 43) ∧ now = is_) ∨ ((g = 0 ∨ g = 43) ∧ od ≠ 1 ∧ od ≠ 3 ∧ ∃ m, is_.length ≤ m ∧ m ≤ was.length ∧ now = was.take m)
end
end Go.Sl
