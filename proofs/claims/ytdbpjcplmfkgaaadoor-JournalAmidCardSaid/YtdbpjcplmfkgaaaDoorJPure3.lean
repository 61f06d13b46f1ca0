/- The journal's invariant: saving, opening. -/
import Derived.Test.YtdbpjcplmfkgaaaDoorJPure2
namespace Go.Sl
open Go
def Up (d : DK) : Prop := d.fuse = -1 ∧ d.down = false
theorem done_up {d : DK} (h : Up d) : d.done = d := by
  obtain ⟨a, b, c, f, g⟩ := d
  obtain ⟨h1, h2⟩ := h
  simp only at h1 h2
  subst h1 h2
  rfl
theorem sync_up {d : DK} (h : Up d) : d.sync = { d with sure := flush d.sure d.pend, pend := [] } := by
  unfold DK.sync
  rw [done_up h, if_neg (by rw [h.2]; simp)]
theorem Up.sync {d : DK} (h : Up d) : Up d.sync := by rw [sync_up h]; exact h
theorem write_up {d : DK} (h : Up d) {i : Nat} {b : List By} (hi : i < d.seen.length) (hb : b.length ≤ 64) : d.write (i : Int) b = (d.put i (pad b), 0) := by
  unfold DK.write
  rw [if_neg (by omega), if_neg (by omega), done_up h, if_neg (by rw [h.2]; simp), Int.toNat_natCast]
theorem flush_snoc : ∀ (ws : List (Nat × Sec)) (s : List Sec) (w : Nat × Sec), flush s (ws ++ [w]) = (flush s ws).set w.1 w.2
  | [], _, _ => rfl
  | x :: ws, s, w => by simp only [List.cons_append, flush]; exact flush_snoc ws _ w
theorem flush_other (ws : List (Nat × Sec)) (s : List Sec) (q : Nat) (h : q ∉ ws.map (·.1)) (hl : ∀ w ∈ ws, w.1 < s.length) : ring (flush s ws) q = ring s q := by rw [flush_crash]; exact crashL_other ws s _ q h hl
/- The slot. -/
theorem lastStep_ring {d : DK} {i : Nat} {out : SR} (h : i < d.seen.length) : lastStep d (i : Int) out = if pOk (ring d.seen i).1 = true ∧ pE (ring d.seen i).1 = 0 ∧ out.seq < pS (ring d.seen i).1 then ⟨i, pS (ring d.seen i).1, pB (ring d.seen i).1⟩ else out := lastStep_of (read_ring h)
theorem last_ring {d : DK} {a : Nat} (h : a + 1 < d.seen.length) : last d (a : Int) = lastStep d ((a + 1 : Nat) : Int) (lastStep d (a : Int) ⟨((a + 1 : Nat) : Int), 0, []⟩) := by
  unfold last
  rw [show ((a + 1 : Nat) : Int) = (a : Int) + 1 by simp]
theorem last_cong {d d' : DK} {a : Nat} (h : a + 1 < d.seen.length) (hl : d'.seen.length = d.seen.length) (h1 : ring d'.seen a = ring d.seen a) (h2 : ring d'.seen (a + 1) = ring d.seen (a + 1)) : last d' (a : Int) = last d (a : Int) := by
  rw [last_ring h, last_ring (by omega), lastStep_ring (by omega), lastStep_ring (by omega), lastStep_ring (by omega), lastStep_ring (by omega), h1, h2]
def otherI (d : DK) (a : Nat) : Nat := if (last d (a : Int)).at_ = a then a + 1 else a
theorem last_next {d d' : DK} {a : Nat} {xs : List By} (h : a + 1 < d.seen.length) (hs : (last d (a : Int)).seq < 4294967295) (hx : xs.length ≤ 43)
    (hd : d'.seen = d.seen.set (otherI d a) (stampS ((last d (a : Int)).seq + 1) 0 xs)) : (last d' (a : Int)).seq = (last d (a : Int)).seq + 1 ∧ (last d' (a : Int)).b = xs ∧ (last d' (a : Int)).at_ = ((otherI d a : Nat) : Int) := by
  have hl : d'.seen.length = d.seen.length := by rw [hd, List.length_set]
  have hp := parse_stamp (b := xs) hx (show 0 < (last d (a : Int)).seq + 1 by omega) (by omega) (show (0 : Nat) < 4294967296 by omega)
  have eO : pOk (stampS ((last d (a : Int)).seq + 1) 0 xs).1 = true := by unfold pOk; rw [hp]; rfl
  have eE : pE (stampS ((last d (a : Int)).seq + 1) 0 xs).1 = 0 := by unfold pE; rw [hp]; rfl
  have eS : pS (stampS ((last d (a : Int)).seq + 1) 0 xs).1 = (last d (a : Int)).seq + 1 := by unfold pS; rw [hp]; rfl
  have eB : pB (stampS ((last d (a : Int)).seq + 1) 0 xs).1 = xs := by unfold pB; rw [hp]; rfl
  obtain ⟨r, hr⟩ : ∃ r, last d (a : Int) = r := ⟨_, rfl⟩
  have hr2 := hr
  rw [last_ring h, lastStep_ring (by omega)] at hr2
  obtain ⟨o1, ho1⟩ : ∃ o, lastStep d (a : Int) ⟨((a + 1 : Nat) : Int), 0, []⟩ = o := ⟨_, rfl⟩
  rw [ho1] at hr2
  rw [lastStep_ring (by omega)] at ho1
  rw [hr] at eO eE eS eB hs hd ⊢
  rw [last_ring (by omega), lastStep_ring (d := d') (by omega), lastStep_ring (d := d') (by omega)]
  unfold otherI at hd ⊢
  rw [hr] at hd ⊢
  by_cases hat : r.at_ = a
  · rw [if_pos hat] at hd ⊢
    have r1 : ring d'.seen a = ring d.seen a := by rw [hd, ring_set (by omega), if_neg (by omega)]
    have r2 : ring d'.seen (a + 1) = stampS (r.seq + 1) 0 xs := by rw [hd, ring_set (by omega), if_pos rfl]
    have hro : r = o1 := by
      split at hr2
      · rw [← hr2] at hat; simp at hat; omega
      · exact hr2.symm
    rw [r1, r2, ho1, eO, eE, eS, eB, if_pos ⟨rfl, rfl, by rw [← hro]; omega⟩]
    exact ⟨rfl, rfl, rfl⟩
  · rw [if_neg hat] at hd ⊢
    have r1 : ring d'.seen a = stampS (r.seq + 1) 0 xs := by rw [hd, ring_set (by omega), if_pos rfl]
    have r2 : ring d'.seen (a + 1) = ring d.seen (a + 1) := by rw [hd, ring_set (by omega), if_neg (by omega)]
    rw [r1, r2, eO, eE, eS, eB, if_pos (c := (true = true ∧ (0 : Nat) = 0 ∧ (0 : Nat) < r.seq + 1)) ⟨rfl, rfl, by omega⟩]
    rw [if_neg (c := pOk (ring d.seen (a + 1)).1 = true ∧ _)]
    · exact ⟨rfl, rfl, rfl⟩
    · intro ⟨q1, q2, q3⟩
      simp only at q3
      split at hr2
      · rw [← hr2] at q3; simp only at q3; omega
      · rename_i hnot
        have : o1.seq ≤ r.seq := by rw [hr2]; exact Nat.le_refl _
        exact hnot ⟨q1, q2, by omega⟩
theorem pOk_tk {c : Sec} (h : pOk c.1 = true) : tkS c = pS c.1 := by
  unfold pOk at h
  unfold pS
  cases hp : parse c.1 with
  | none => rw [hp] at h; cases h
  | some t => obtain ⟨s, e, b⟩ := t; exact (tk_parse hp).1
theorem last_cur {d : DK} {a : Nat} (h : a + 1 < d.seen.length) : ((last d (a : Int)).at_ = (a : Int) ∧ tkS (ring d.seen a) = (last d (a : Int)).seq) ∨ ((last d (a : Int)).at_ = ((a + 1 : Nat) : Int) ∧ (tkS (ring d.seen (a + 1)) = (last d (a : Int)).seq ∨ (last d (a : Int)).seq = 0)) := by
  rw [last_ring h, lastStep_ring (by omega)]
  split
  · rename_i hc; exact .inr ⟨rfl, .inl (pOk_tk hc.1)⟩
  · rw [lastStep_ring (by omega)]
    split
    · rename_i hc; exact .inl ⟨rfl, pOk_tk hc.1⟩
    · exact .inr ⟨rfl, .inr rfl⟩
/-- The slot's other sector has a number that is below. -/
def SInv (d : DK) : Prop := tkS (ring d.seen (otherI d 1)) < (last d ((1 : Nat) : Int)).seq
theorem SInv.cong {d d' : DK} (hs : SInv d) (h : 1 + 1 < d.seen.length) (hl : d'.seen.length = d.seen.length) (h1 : ring d'.seen 1 = ring d.seen 1) (h2 : ring d'.seen 2 = ring d.seen 2) : SInv d' := by
  unfold SInv otherI at hs ⊢
  rw [last_cong (a := 1) h hl h1 h2]
  split
  · rename_i hc; rw [if_pos hc] at hs; rw [h2]; exact hs
  · rename_i hc; rw [if_neg hc] at hs; rw [h1]; exact hs
theorem SInv.next {d d' : DK} {xs : List By} (h : 1 + 1 < d.seen.length) (hs : (last d ((1 : Nat) : Int)).seq < 4294967295) (hx : xs.length ≤ 43) (hc : (last d ((1 : Nat) : Int)).seq = 0 → tkS (ring d.seen 2) = 0)
    (hd : d'.seen = d.seen.set (otherI d 1) (stampS ((last d ((1 : Nat) : Int)).seq + 1) 0 xs)) : SInv d' := by
  obtain ⟨e1, -, e3⟩ := last_next h hs hx hd
  have hcur := last_cur (a := 1) h
  unfold SInv
  rw [e1]
  by_cases hat : (last d ((1 : Nat) : Int)).at_ = ((1 : Nat) : Int)
  · have ho : otherI d 1 = 2 := by unfold otherI; rw [if_pos hat]
    have ho2 : otherI d' 1 = 1 := by unfold otherI; rw [e3, ho, if_neg (by omega)]
    rw [ho2, hd, ring_set (by omega), if_neg (by omega)]
    rcases hcur with h1 | h1
    · omega
    · rw [hat] at h1; omega
  · have ho : otherI d 1 = 1 := by unfold otherI; rw [if_neg hat]
    have ho2 : otherI d' 1 = 2 := by unfold otherI; rw [e3, ho, if_pos rfl]
    rw [ho2, hd, ring_set (by omega), if_neg (by omega)]
    rcases hcur with h1 | h1
    · exact absurd h1.1 hat
    · rcases h1.2 with h2 | h2
      · rw [h2]; omega
      · rw [hc h2]; omega
theorem save_up {d : DK} {a : Nat} {xs : List By} (h : Up d) (hok : d.ok) (ha : a + 1 < d.seen.length) (hv : d.seen = flush d.sure d.pend) (hs : (last d (a : Int)).seq < 4294967295) (hx : xs.length ≤ 43) :
    ∃ d', save d (a : Int) xs = (d', 0) ∧ Up d' ∧ d'.ok ∧ d'.pend = [] ∧ d'.sure = d'.seen ∧ d'.seen.length = d.seen.length ∧ (∀ p, p ≠ a → p ≠ a + 1 → ring d'.seen p = ring d.seen p) ∧ (last d' (a : Int)).seq = (last d (a : Int)).seq + 1 ∧ (last d' (a : Int)).b = xs ∧ (a = 1 → ((last d ((1 : Nat) : Int)).seq = 0 → tkS (ring d.seen 2) = 0) → SInv d') := by
  have hat := last_at d (a : Int)
  have hoth : otherI d a = a ∨ otherI d a = a + 1 := by unfold otherI; split <;> omega
  have hol : otherI d a < d.seen.length := by omega
  have hidx : 2 * (a : Int) + 1 - (last d (a : Int)).at_ = ((otherI d a : Nat) : Int) := by
    unfold otherI
    split
    · rename_i e; rw [e]; simp; omega
    · rename_i e; rcases hat with h | h
      · exact absurd h e
      · rw [h]; omega
  have hput : put d (a : Int) xs = (d.sync.put (otherI d a) (stampS ((last d (a : Int)).seq + 1) 0 xs), 0) := by
    unfold put
    rw [if_neg (by rw [right_in (by omega)]; simp), if_neg (by omega), if_neg (by omega), hidx, write_up h.sync (by rw [sync_len]; exact hol) (by rw [stamp_length hx]; omega)]
    rfl
  have hup2 : Up (d.sync.put (otherI d a) (stampS ((last d (a : Int)).seq + 1) 0 xs)) := h.sync
  refine ⟨(d.sync.put (otherI d a) (stampS ((last d (a : Int)).seq + 1) 0 xs)).sync, ?_, hup2.sync, ?_, ?_, ?_, ?_, ?_, ?_⟩
  · unfold save
    rw [hput]
    simp only [if_true]
    rw [if_neg]
    rw [hup2.sync.2]; simp
  · have := put_ok hok (a : Int) xs
    rw [hput] at this
    exact this.sync
  · rw [sync_up hup2]
  · rw [sync_up hup2]
    rw [sync_up h]
    simp only [DK.put]
    rw [flush_snoc]
    simp only [flush]
    rw [← hv]
  · rw [sync_len]
    simp only [DK.put, List.length_set]
    rw [sync_len]
  · intro p h1 h2
    rw [sync_up hup2]
    simp only [DK.put]
    rw [ring_set (by rw [sync_len]; exact hol), if_neg (by omega)]
    rw [sync_up h]
  · have hd : (d.sync.put (otherI d a) (stampS ((last d (a : Int)).seq + 1) 0 xs)).sync.seen = d.seen.set (otherI d a) (stampS ((last d (a : Int)).seq + 1) 0 xs) := by
      rw [sync_up hup2, sync_up h]
      rfl
    obtain ⟨e1, e2, -⟩ := last_next ha hs hx hd
    exact ⟨e1, e2, fun e => by subst e; exact fun hc => SInv.next ha hs hx hc hd⟩
/- The invariant: `old` is sure, `fr` is not yet. -/
structure JInv (n T : Nat) (d : DK) (j : JN) (old : List (Nat × List By)) (fr : List (List By)) : Prop where
  up : Up d
  ok : d.ok
  len : d.seen.length = 20
  at1 : j.at_ = 1
  jn : j.n = n
  n1 : 1 ≤ n ∧ n ≤ 17
  held : j.held = old ++ fr.map fun b => (j.epoch, b)
  hl : old.length + fr.length ≤ n
  pend : d.pend = freshW 1 n j.epoch (j.first + old.length) fr
  vis : d.seen = flush d.sure d.pend
  f1 : 1 ≤ j.first
  bnd : j.first + old.length + fr.length ≤ T + 1 ∧ j.epoch ≤ T ∧ (last d ((1 : Nat) : Int)).seq ≤ T
  T1 : T ≤ 1000
  lowE : j.low ≤ j.epoch
  frl : ∀ b ∈ fr, b.length ≤ 43
  ch : chain d.sure 1 n j.epoch j.low j.first old
  slot : 0 < (last d ((1 : Nat) : Int)).seq ∧ (last d ((1 : Nat) : Int)).b = j.metaB
  g1 : ∀ p, 3 ≤ p → p < 3 + n → tkE (ring d.sure p) ≤ j.epoch
  g3 : ∀ p, 3 ≤ p → p < 3 + n → tkE (ring d.sure p) = j.epoch → tkS (ring d.sure p) < j.first + old.length
  g2 : tkS (ring d.sure (1 + 2 + (j.first + old.length) % n)) = j.first + old.length → tkE (ring d.sure (1 + 2 + (j.first + old.length) % n)) < lastE j.low old
  so : SInv d
theorem chain_tkS {s : List Sec} {at_ n E : Nat} {x : Nat × List By} {l : List (Nat × List By)} {low next : Nat} (h : chain s at_ n E low next (x :: l)) (hn : next < 4294967296) (hE : E < 4294967296) : tkS (ring s (at_ + 2 + next % n)) = next := by
  obtain ⟨c1, c2, c3, c4, -⟩ := h
  rw [c2]
  exact (tk_stamp c1 hn (by omega)).1
/-- At the end of a full ring stands its first record. -/
theorem full_end {s : List Sec} {n E low next : Nat} {l : List (Nat × List By)} (hn : 1 ≤ n) (h : chain s 1 n E low next l) (hl : l.length = n) (h1 : next < 4294967296) (hE : E < 4294967296) : tkS (ring s (1 + 2 + (next + l.length) % n)) ≠ next + l.length := by
  cases l with
  | nil => simp at hl; omega
  | cons x r =>
    rw [hl, Nat.add_mod_right, chain_tkS h h1 hE]
    omega
theorem open_inv {n T : Nat} {d : DK} {first epoch low : Nat} {l : List (Nat × List By)} (hup : Up d) (hok : d.ok) (hlen : d.seen.length = 20) (hn : 1 ≤ n ∧ n ≤ 17) (hvis : d.seen = flush d.sure d.pend)
    (hb : JN.begun d 1 n = some ⟨1, n, first, epoch, low, []⟩) (hseq : (last d ((1 : Nat) : Int)).seq ≤ T) (hT : T + 1 ≤ 1000) (h1 : 1 ≤ first) (h2 : first + l.length ≤ T + 2) (h3 : epoch ≤ T) (hle : low ≤ epoch)
    (hc : chain d.seen 1 n epoch low first l) (hl : l.length ≤ n) (hs : l.length = n ∨ stops d.seen 1 n epoch (lastE low l) (first + l.length)) (hg : ∀ p, 3 ≤ p → p < 3 + n → tkE (ring d.seen p) ≤ epoch) (h00 : (last d ((1 : Nat) : Int)).seq = 0 → tkS (ring d.seen 2) = 0) :
    ∃ d' j', jopen0 d 1 n = (d', some j', 0) ∧ JInv n (T + 1) d' j' l [] ∧ j'.held = l := by
  have hscan : scanL d 1 n epoch n low first = l := scan_chain (by omega) (by omega) (by omega) l n low first (by omega) (by omega) hl hc hs
  obtain ⟨j1, hj1⟩ : ∃ j1 : JN, j1 = ⟨1, n, first, epoch, low, l⟩ := ⟨_, rfl⟩
  have hsc : (⟨1, n, first, epoch, low, []⟩ : JN).scanned d = j1 := by rw [hj1]; unfold JN.scanned; simp only; rw [hscan]
  have hnx : j1.next = first + l.length := by rw [hj1]; rfl
  have hpl : j1.place j1.next = 1 + 2 + (first + l.length) % n := by rw [hnx, hj1]; rfl
  have hmod := Nat.mod_lt (first + l.length) (show 0 < n by omega)
  -- the sector behind
  have hD : ∃ d1, openD d j1 n = d1 ∧ Up d1 ∧ d1.ok ∧ d1.seen.length = 20 ∧ d1.seen = flush d1.sure d1.pend ∧ (∀ p, (l.length < n → p ≠ 1 + 2 + (first + l.length) % n) → ring d1.seen p = ring d.seen p) ∧ (l.length < n → ring d1.seen (1 + 2 + (first + l.length) % n) = .zero) := by
    obtain ⟨o1, o2, -⟩ := openD_ok hok j1 n
    refine ⟨openD d j1 n, rfl, ?_, o1, by rw [o2, hlen], ?_, ?_, ?_⟩
    all_goals (unfold openD; rw [show j1.held = l by rw [hj1], hpl])
    · split
      · rw [write_up hup (by omega) (by simp)]; exact hup
      · exact hup
    · split
      · rw [write_up hup (by omega) (by simp)]
        simp only [DK.put]
        rw [flush_snoc, ← hvis]
      · exact hvis
    · intro p hp
      split
      · rename_i hlt
        rw [write_up hup (by omega) (by simp)]
        simp only [DK.put]
        rw [ring_set (by omega), if_neg (hp hlt)]
      · rfl
    · intro hlt
      rw [if_pos hlt, write_up hup (by omega) (by simp)]
      simp only [DK.put]
      rw [ring_set (by omega), if_pos rfl, pad_nil]
  obtain ⟨d1, hd1, u1, ok1, len1, vis1, oth1, zer1⟩ := hD
  have hlast : last d1 ((1 : Nat) : Int) = last d ((1 : Nat) : Int) := last_cong (by omega) (by omega) (oth1 1 (fun _ => by omega)) (oth1 2 (fun _ => by omega))
  have hmb : (openJ j1).metaB.length ≤ 43 := by simp [JN.metaB, le_length]
  obtain ⟨d', hs', up', ok', pe', su', le', ri', sq', bb', so'⟩ := save_up (a := 1) (xs := (openJ j1).metaB) u1 ok1 (by omega) vis1 (by rw [hlast]; omega) hmb
  have hjs : jsave (openD d j1 n) (openJ j1) = (d', 0) := by
    rw [hd1]; unfold jsave
    rw [show (openJ j1).at_ = 1 by rw [hj1]; rfl]
    exact hs'
  have hep : (⟨1, n, first, epoch, low, []⟩ : JN).epoch ≠ 4294967295 := by show epoch ≠ _; omega
  have hJ := jopen0_ok hb hep (by rw [hsc, hjs])
  rw [hsc, hjs] at hJ
  have hring : ∀ p, 3 ≤ p → (l.length < n → p ≠ 1 + 2 + (first + l.length) % n) → ring d'.sure p = ring d.seen p := fun p hp h => by rw [su', ri' p (by omega) (by omega), oth1 p h]
  have hzero : l.length < n → ring d'.sure (1 + 2 + (first + l.length) % n) = .zero := fun h => by rw [su', ri' _ (by omega) (by omega), zer1 h]
  have hfull : l.length = n → tkS (ring d.seen (1 + 2 + (first + l.length) % n)) ≠ first + l.length := fun h => full_end hn.1 hc h (by omega) (by omega)
  refine ⟨d', openJ j1, hJ, ?_, by rw [hj1]; rfl⟩
  subst hj1
  have hE : ∀ p, 3 ≤ p → p < 3 + n → tkE (ring d'.sure p) ≤ epoch := by
    intro p hp1 hp2
    by_cases hz : l.length < n ∧ p = 1 + 2 + (first + l.length) % n
    · rw [hz.2, hzero hz.1, tk_zero.2]; omega
    · rw [hring p hp1 (fun h e => hz ⟨h, e⟩)]; exact hg p hp1 hp2
  exact {
    up := up', ok := ok', len := by omega, at1 := rfl, jn := rfl, n1 := hn
    held := by simp [openJ], hl := by simp; omega
    pend := by rw [pe']; rfl
    vis := by rw [pe', su']; rfl
    f1 := h1
    bnd := by
      refine ⟨?_, ?_, ?_⟩
      · show first + l.length + 0 ≤ T + 1 + 1; omega
      · show epoch + 1 ≤ T + 1; omega
      · rw [sq', hlast]; omega
    T1 := hT
    lowE := by show low ≤ epoch + 1; omega
    frl := by simp
    ch := by
      show chain d'.sure 1 n (epoch + 1) low first l
      refine chain_E (by omega) l low first (chain_cong l low first (fun k hk => ?_) hc)
      refine hring _ (by omega) fun hlt => ?_
      have := mod_ne (a := first + k) (b := first + l.length) (n := n) (by omega) (by omega) (by omega)
      omega
    slot := by rw [sq', bb']; exact ⟨by omega, rfl⟩
    so := so' rfl (by rw [hlast, oth1 2 (fun _ => by omega)]; exact h00)
    g1 := fun p hp1 hp2 => Nat.le_succ_of_le (hE p hp1 hp2)
    g3 := fun p hp1 hp2 he => by
      have := hE p hp1 hp2
      have he : tkE (ring d'.sure p) = epoch + 1 := he
      omega
    g2 := by
      intro he
      have he : tkS (ring d'.sure (1 + 2 + (first + l.length) % n)) = first + l.length := he
      by_cases hlt : l.length < n
      · rw [hzero hlt, tk_zero.1] at he; omega
      · rw [hring _ (by omega) (fun h => absurd h hlt)] at he
        exact absurd he (hfull (by omega)) }
end Go.Sl
