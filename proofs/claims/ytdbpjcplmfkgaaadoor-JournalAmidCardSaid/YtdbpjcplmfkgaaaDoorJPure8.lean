/- Crashes amid a call. -/
import Derived.Test.YtdbpjcplmfkgaaaDoorJPure6
namespace Go.Sl
open Go
/-- Zeros that are torn over a stamp. -/
theorem torn_zero {q seq e : Nat} {b : List By} (hq : q ≤ 64) (hb : b.length ≤ 43) (h2 : seq < 4294967296) (h3 : e < 4294967296) : parse (torn q .zero (stampS seq e b)).1 = none ∨ torn q .zero (stampS seq e b) = stampS seq e b := by
  cases hp : parse (torn q .zero (stampS seq e b)).1 with
  | none => exact .inl rfl
  | some t =>
    obtain ⟨s', e', b'⟩ := t
    right
    obtain ⟨t1, -, t3, -, t5⟩ := tk_parse hp
    have hz : num Sec.zero.1 0 4 = 0 := rfl
    rcases Nat.lt_or_ge q 4 with h4 | h4
    · have hst := stamp_parts (seq := seq) (e := e) hb
      have e1 : tkS (torn q .zero (stampS seq e b)) = seq := by
        unfold tkS num
        rw [part_torn' hq (by omega)]
        exact (tk_stamp hb h2 h3).1
      have hh : num (stampS seq e b).1 0 4 = seq := by
        unfold num
        rw [stampS_val hb, hst.1, ofLE_le]
        exact Nat.mod_eq_of_lt h2
      have hl1 : (part (torn q .zero (stampS seq e b)).1 0 4).length = 4 := by have := (torn q .zero (stampS seq e b)).2; simp [part]; omega
      have hl2 : (part (stampS seq e b).1 0 4).length = 4 := by have := (stampS seq e b).2; simp [part]; omega
      have hpart : part (torn q .zero (stampS seq e b)).1 0 4 = part (stampS seq e b).1 0 4 := ofLE_inj (by rw [hl1, hl2]) (by
        show num _ 0 4 = num _ 0 4
        rw [t3, hh, ← t1, e1])
      have hdrop : (torn q .zero (stampS seq e b)).1.drop 4 = (stampS seq e b).1.drop 4 := by
        show (Sec.zero.1.take q ++ (stampS seq e b).1.drop q).drop 4 = _
        have hzl : (Sec.zero.1.take q).length = q := by have := Sec.zero.2; rw [List.length_take]; omega
        rw [List.drop_append, List.drop_eq_nil_of_le (by omega), hzl, List.nil_append, List.drop_drop]
        congr 1
        omega
      apply Subtype.ext
      rw [← List.take_append_drop 4 (torn q .zero (stampS seq e b)).1, ← List.take_append_drop 4 (stampS seq e b).1, hdrop]
      congr 1
    · exfalso
      have : num (torn q .zero (stampS seq e b)).1 0 4 = 0 := by
        unfold num
        rw [part_torn hq (by omega)]
        exact hz
      omega
theorem torn_same (q : Nat) (c : Sec) : torn q c c = c := by
  apply Subtype.ext
  exact List.take_append_drop q c.1
theorem parse_zero : parse Sec.zero.1 = none := by
  cases hp : parse Sec.zero.1 with
  | none => rfl
  | some t =>
    obtain ⟨s, e, b⟩ := t
    have := tk_parse hp
    rw [tk_zero.1] at this
    omega
/-- Opening, where one knows what the scan finds. -/
theorem held_open {n : Nat} {d : DK} {first epoch low : Nat} {l : List (Nat × List By)} (hup : Up d) (hok : d.ok) (hlen : d.seen.length = 20) (hn : 1 ≤ n ∧ n ≤ 17) (hvis : d.seen = flush d.sure d.pend)
    (hb : JN.begun d 1 n = some ⟨1, n, first, epoch, low, []⟩) (hseq : (last d ((1 : Nat) : Int)).seq ≤ 5000) (h1 : 1 ≤ first) (h2 : first + l.length ≤ 5000) (h3 : epoch ≤ 5000)
    (hc : chain d.seen 1 n epoch low first l) (hl : l.length ≤ n) (hs : l.length = n ∨ stops d.seen 1 n epoch (lastE low l) (first + l.length)) : ∃ d' j', jopen0 d 1 n = (d', some j', 0) ∧ j'.held = l := by
  have hscan : scanL d 1 n epoch n low first = l := scan_chain (by omega) (by omega) (by omega) l n low first (by omega) (by omega) hl hc hs
  obtain ⟨j1, hj1⟩ : ∃ j1 : JN, j1 = ⟨1, n, first, epoch, low, l⟩ := ⟨_, rfl⟩
  have hsc : (⟨1, n, first, epoch, low, []⟩ : JN).scanned d = j1 := by rw [hj1]; unfold JN.scanned; simp only; rw [hscan]
  have hnx : j1.next = first + l.length := by rw [hj1]; rfl
  have hpl : j1.place j1.next = 1 + 2 + (first + l.length) % n := by rw [hnx, hj1]; rfl
  have hmod := Nat.mod_lt (first + l.length) (show 0 < n by omega)
  have hD : ∃ d1, openD d j1 n = d1 ∧ Up d1 ∧ d1.ok ∧ d1.seen.length = 20 ∧ d1.seen = flush d1.sure d1.pend ∧ ring d1.seen 1 = ring d.seen 1 ∧ ring d1.seen 2 = ring d.seen 2 := by
    obtain ⟨o1, o2, -⟩ := openD_ok hok j1 n
    refine ⟨openD d j1 n, rfl, ?_, o1, by rw [o2, hlen], ?_, ?_, ?_⟩
    all_goals (unfold openD; rw [show j1.held = l by rw [hj1], hpl])
    · split
      · rw [write_up hup (by omega) (by simp)]; exact hup
      · exact hup
    · split
      · rw [write_up hup (by omega) (by simp)]
        simp only [DK.put]
        rw [flush_snoc, ← hvis]
      · exact hvis
    · split
      · rw [write_up hup (by omega) (by simp)]
        simp only [DK.put]
        rw [ring_set (by omega), if_neg (by omega)]
      · rfl
    · split
      · rw [write_up hup (by omega) (by simp)]
        simp only [DK.put]
        rw [ring_set (by omega), if_neg (by omega)]
      · rfl
  obtain ⟨d1, hd1, u1, ok1, len1, vis1, r1, r2⟩ := hD
  have hlast : last d1 ((1 : Nat) : Int) = last d ((1 : Nat) : Int) := last_cong (by omega) (by omega) r1 r2
  obtain ⟨d', hs', -⟩ := save_up (a := 1) (xs := (openJ j1).metaB) u1 ok1 (by omega) vis1 (by rw [hlast]; omega) (by rw [metaB_len]; omega)
  have hjs : jsave (openD d j1 n) (openJ j1) = (d', 0) := by
    rw [hd1]; unfold jsave
    rw [show (openJ j1).at_ = 1 by rw [hj1]; rfl]
    exact hs'
  have hep : (⟨1, n, first, epoch, low, []⟩ : JN).epoch ≠ 4294967295 := by show epoch ≠ _; omega
  have hJ := jopen0_ok hb hep (by rw [hsc, hjs])
  rw [hsc, hjs] at hJ
  exact ⟨d', openJ j1, hJ, by rw [hj1]; rfl⟩
/-- The first one that is no more. -/
theorem first_bad (P : Nat → Prop) [DecidablePred P] : ∀ L : Nat, ∃ m, m ≤ L ∧ (∀ i, i < m → ¬ P i) ∧ (m < L → P m)
  | 0 => ⟨0, by omega, by omega, by omega⟩
  | L + 1 => by
    obtain ⟨m, h1, h2, h3⟩ := first_bad P L
    by_cases hm : m < L
    · exact ⟨m, by omega, h2, fun _ => h3 hm⟩
    · have : m = L := by omega
      subst this
      by_cases hp : P m
      · exact ⟨m, by omega, h2, fun _ => hp⟩
      · exact ⟨m + 1, by omega, fun i hi => by
          rcases Nat.lt_or_ge i m with h | h
          · exact h2 i h
          · rw [show i = m by omega]; exact hp, by omega⟩
/-- Opening behind a crash amid a call: a beginning is held. -/
theorem amid_open {n : Nat} {dc : DK} {S : List Sec} {first E E' low m0 : Nat} {l : List (Nat × List By)} (hup : Up dc) (hok : dc.ok) (hlen : dc.seen.length = 20) (hn : 1 ≤ n ∧ n ≤ 17) (hvis : dc.seen = flush dc.sure dc.pend)
    (hb : JN.begun dc 1 n = some ⟨1, n, first, E', low, []⟩) (hE : E ≤ E') (hseq : (last dc ((1 : Nat) : Int)).seq ≤ 5000) (h1 : 1 ≤ first) (h2 : first + l.length ≤ 5000) (h3 : E' ≤ 5000)
    (hc : chain S 1 n E low first l) (hl : l.length ≤ n)
    (hr : ∀ i, i < l.length → ring dc.seen (1 + 2 + (first + i) % n) = ring S (1 + 2 + (first + i) % n) ∨ (m0 ≤ i ∧ parse (ring dc.seen (1 + 2 + (first + i) % n)).1 = none))
    (ht : l.length < n → ring dc.seen (1 + 2 + (first + l.length) % n) = ring S (1 + 2 + (first + l.length) % n))
    (hg : tkS (ring S (1 + 2 + (first + l.length) % n)) = first + l.length → tkE (ring S (1 + 2 + (first + l.length) % n)) < lastE low l) (hm0 : m0 ≤ l.length) :
    ∃ m d' j', m0 ≤ m ∧ m ≤ l.length ∧ jopen0 dc 1 n = (d', some j', 0) ∧ j'.held = l.take m := by
  obtain ⟨m, m1, m2, m3⟩ := first_bad (fun i => parse (ring dc.seen (1 + 2 + (first + i) % n)).1 = none) l.length
  have hm : m0 ≤ m := by
    rcases Nat.lt_or_ge m l.length with h | h
    · rcases Nat.lt_or_ge m m0 with h4 | h4
      · rcases hr m h with h5 | h5
        · exfalso
          have := m3 h
          obtain ⟨x, hx⟩ : ∃ x, l[m]? = some x := ⟨l[m], by simp [h]⟩
          have hcm := (chain_append (l.take m) (l.drop m) low first).1 (by rw [List.take_append_drop]; exact hc)
          have hdm : l.drop m = x :: l.drop (m + 1) := by rw [List.drop_eq_getElem_cons h]; congr 1; rw [List.getElem?_eq_getElem h] at hx; exact Option.some.inj hx
          rw [hdm, List.length_take, Nat.min_eq_left (by omega)] at hcm
          obtain ⟨c1, c2, -, c4, -⟩ := hcm.2
          rw [h5, c2, parse_stamp c1 (by omega) (by omega) (by omega)] at this
          cases this
        · omega
      · exact h4
    · omega
  have htl : (l.take m).length = m := by rw [List.length_take]; omega
  have hcm := (chain_append (l.take m) (l.drop m) low first).1 (by rw [List.take_append_drop]; exact hc)
  have hce : chain dc.seen 1 n E' low first (l.take m) := chain_E hE _ _ _ (chain_cong _ _ _ (fun k hk => by
    rw [htl] at hk
    rcases hr k (by omega) with h | h
    · exact h
    · exact absurd h.2 (m2 k hk)) hcm.1)
  obtain ⟨d', j', r1, r2⟩ := held_open (l := l.take m) hup hok hlen hn hvis hb hseq h1 (by rw [htl]; omega) h3 hce (by rw [htl]; omega) (by
    rw [htl]
    rcases Nat.lt_or_ge m l.length with h | h
    · right
      intro e' b' hp
      rw [m3 h] at hp
      cases hp
    · have hme : m = l.length := by omega
      subst hme
      rcases Nat.lt_or_ge l.length n with h4 | h4
      · right
        intro e' b' hp
        obtain ⟨t1, t2, -⟩ := tk_parse hp
        rw [ht h4] at t1 t2
        rw [List.take_length]
        have := hg t1
        rw [t2] at this
        exact .inl this
      · left; omega)
  exact ⟨m, d', j', hm, m1, r1, r2⟩
/-- A slot that a crash has torn: as it was, or anew. -/
theorem slot_torn {d dc : DK} {q : Nat} {xs : List By} (hq : q ≤ 64) (hso : SInv d) (hl : d.seen.length = 20) (hl2 : dc.seen.length = 20) (hs : (last d ((1 : Nat) : Int)).seq < 4294967295) (hx : xs.length ≤ 43)
    (ho : ring dc.seen (otherI d 1) = torn q (stampS ((last d ((1 : Nat) : Int)).seq + 1) 0 xs) (ring d.seen (otherI d 1))) (hc : ring dc.seen (3 - otherI d 1) = ring d.seen (3 - otherI d 1)) :
    last dc ((1 : Nat) : Int) = last d ((1 : Nat) : Int) ∨ ((last dc ((1 : Nat) : Int)).seq = (last d ((1 : Nat) : Int)).seq + 1 ∧ (last dc ((1 : Nat) : Int)).b = xs) := by
  by_cases hnew : torn q (stampS ((last d ((1 : Nat) : Int)).seq + 1) 0 xs) (ring d.seen (otherI d 1)) = stampS ((last d ((1 : Nat) : Int)).seq + 1) 0 xs
  · right
    obtain ⟨dn, hdn⟩ : ∃ dn : DK, dn = { d with seen := d.seen.set (otherI d 1) (stampS ((last d ((1 : Nat) : Int)).seq + 1) 0 xs) } := ⟨_, rfl⟩
    have hsn : dn.seen = d.seen.set (otherI d 1) (stampS ((last d ((1 : Nat) : Int)).seq + 1) 0 xs) := by rw [hdn]
    obtain ⟨e1, e2, -⟩ := last_next (a := 1) (by omega) hs hx hsn
    have hoth : otherI d 1 = 1 ∨ otherI d 1 = 2 := by unfold otherI; split <;> omega
    have hrn : ∀ p, ring dn.seen p = if p = otherI d 1 then stampS ((last d ((1 : Nat) : Int)).seq + 1) 0 xs else ring d.seen p := fun p => by rw [hsn, ring_set (by omega)]
    have hr : ∀ p, p = 1 ∨ p = 2 → ring dc.seen p = ring dn.seen p := by
      intro p hp
      rw [hrn]
      split
      · rename_i he; rw [he, ho, hnew]
      · rename_i he
        have : p = 3 - otherI d 1 := by omega
        rw [this, hc]
    have hle : dn.seen.length = 20 := by rw [hsn, List.length_set]; exact hl
    have : last dc ((1 : Nat) : Int) = last dn ((1 : Nat) : Int) := last_cong (by omega) (by omega) (hr 1 (.inl rfl)) (hr 2 (.inr rfl))
    rw [this]
    exact ⟨e1, e2⟩
  · left
    -- what is torn is none, or has a number below
    have hlow : pOk (ring dc.seen (otherI d 1)).1 = true → pS (ring dc.seen (otherI d 1)).1 < (last d ((1 : Nat) : Int)).seq := by
      intro hp
      rw [← pOk_tk hp]
      unfold pOk at hp
      cases hpp : parse (ring dc.seen (otherI d 1)).1 with
      | none => rw [hpp] at hp; cases hp
      | some t =>
        obtain ⟨s', e', b'⟩ := t
        rw [ho] at hpp
        rcases torn_taken hq hx hpp with h | h
        · exact absurd h hnew
        · have h5 := (tk_parse hpp).1
          rw [ho, h5, ← h.1]
          exact hso
    have hcur := last_cur (d := d) (a := 1) (by omega)
    obtain ⟨r, hr⟩ : ∃ r, last d ((1 : Nat) : Int) = r := ⟨_, rfl⟩
    have hpos : 0 < r.seq := by unfold SInv at hso; rw [hr] at hso; omega
    rw [hr] at hlow hcur ⊢
    have hr2 := hr
    rw [last_ring (by omega), lastStep_ring (by omega)] at hr2
    obtain ⟨o1, ho1⟩ : ∃ o, lastStep d ((1 : Nat) : Int) ⟨((1 + 1 : Nat) : Int), 0, []⟩ = o := ⟨_, rfl⟩
    rw [ho1] at hr2
    rw [lastStep_ring (by omega)] at ho1
    rw [last_ring (by omega), lastStep_ring (d := dc) (by omega), lastStep_ring (d := dc) (by omega)]
    by_cases hat : r.at_ = ((1 : Nat) : Int)
    · have hoI : otherI d 1 = 2 := by unfold otherI; rw [hr, if_pos hat]
      rw [hoI] at hlow hc
      have hro : r = o1 := by
        split at hr2
        · rw [← hr2] at hat; simp at hat
        · exact hr2.symm
      rw [show ring dc.seen 1 = ring d.seen 1 from hc, ho1, ← hro, if_neg]
      intro ⟨q1, q2, q3⟩
      have := hlow q1
      simp only [Nat.reduceAdd] at q3
      omega
    · have hoI : otherI d 1 = 1 := by unfold otherI; rw [hr, if_neg hat]
      rw [hoI] at hlow hc
      have hc2 : ring dc.seen 2 = ring d.seen 2 := hc
      have hr3 : pOk (ring d.seen 2).1 = true ∧ pE (ring d.seen 2).1 = 0 ∧ r = ⟨((1 + 1 : Nat) : Int), pS (ring d.seen 2).1, pB (ring d.seen 2).1⟩ := by
        split at hr2
        · rename_i hc3; exact ⟨hc3.1, hc3.2.1, hr2.symm⟩
        · exfalso
          rw [hr2] at ho1
          split at ho1
          · rw [← ho1] at hat; exact hat rfl
          · rw [← ho1] at hpos; exact Nat.lt_irrefl _ hpos
      have hrs : r.seq = pS (ring d.seen 2).1 := by rw [hr3.2.2]
      rw [hc2, if_pos (c := pOk (ring d.seen 2).1 = true ∧ pE (ring d.seen 2).1 = 0 ∧ _) ⟨hr3.1, hr3.2.1, ?_⟩]
      · exact hr3.2.2.symm
      · split
        · rename_i hc3
          have := hlow hc3.1
          simp only
          omega
        · show 0 < _
          omega
end Go.Sl
