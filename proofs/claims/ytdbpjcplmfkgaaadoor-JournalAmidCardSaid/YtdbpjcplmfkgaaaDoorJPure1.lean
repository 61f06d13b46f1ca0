/- Plain facts: numbers in bytes, stamps, torn sectors. -/
import Derived.Test.YtdbpjcplmfkgaaaDoorJMem
namespace Go.Sl
open Go
theorem ofLE_le (v : Nat) : ∀ k, ofLE (le v k) = v % 2 ^ (8 * k)
  | 0 => by simp [le, ofLE, Nat.mod_one]
  | k + 1 => by
    rw [le_succ, ofLE_append, ofLE_le v k, le_length]
    have h1 : v % 2 ^ (8 * (k + 1)) = v % 2 ^ (8 * k) + 2 ^ (8 * k) * (v / 2 ^ (8 * k) % 256) := by
      rw [Nat.mul_add, Nat.mul_one, Nat.pow_add, Nat.mod_mul]
    rw [h1]
    simp [ofLE, by_]
theorem ofLE_inj : ∀ {xs ys : List By}, xs.length = ys.length → ofLE xs = ofLE ys → xs = ys
  | [], [], _, _ => rfl
  | x :: xs, y :: ys, h, e => by
    simp only [ofLE] at e
    have h1 := x.2
    have h2 := y.2
    have e1 : x.val = y.val := by omega
    have e2 : ofLE xs = ofLE ys := by omega
    rw [Fin.ext e1, ofLE_inj (by simpa using h) e2]
theorem part_append_left {xs ys : List By} {i k : Nat} (h : i + k ≤ xs.length) : part (xs ++ ys) i k = part xs i k := by
  simp only [part]
  rw [List.drop_append_of_le_length (by omega), List.take_append_of_le_length (by simp; omega)]
theorem part_append_right {xs ys : List By} {i k : Nat} (h : xs.length ≤ i) : part (xs ++ ys) i k = part ys (i - xs.length) k := by
  simp only [part]
  rw [List.drop_append, List.drop_eq_nil_of_le h, List.nil_append]
theorem part_all {xs : List By} {k : Nat} (h : xs.length = k) : part xs 0 k = xs := by subst h; simp [part]
def stampS (seq e : Nat) (b : List By) : Sec := pad (stamp seq e b)
theorem stampS_val {seq e : Nat} {b : List By} (h : b.length ≤ 43) : (stampS seq e b).1 = stamp seq e b := by
  unfold stampS
  rw [pad_val _ (by rw [stamp_length h]; omega), stamp_length h]
  simp
section
variable {seq e : Nat} {b : List By} (hb : b.length ≤ 43)
include hb
theorem stamp_parts : part (stamp seq e b) 0 4 = le seq 4 ∧ part (stamp seq e b) 4 4 = le e 4 ∧ part (stamp seq e b) 8 1 = le b.length 1 ∧ part (stamp seq e b) 9 b.length = b ∧ (stamp seq e b).take 52 = stampHead seq e b ∧ part (stamp seq e b) 52 4 = le (crc (stampHead seq e b)) 4 ∧ part (stamp seq e b) 56 4 = le seq 4 ∧ part (stamp seq e b) 60 4 = le e 4 := by
  have hh := stampHead_length (seq := seq) (epoch := e) hb
  have l4 : ∀ v, (le v 4).length = 4 := fun v => le_length v 4
  have l1 : ∀ v, (le v 1).length = 1 := fun v => le_length v 1
  refine ⟨?_, ?_, ?_, ?_, ?_, ?_, ?_, ?_⟩
  · unfold stamp; rw [part_append_left (by omega)]; unfold stampHead
    simp only [List.append_assoc]
    rw [part_append_left (by rw [l4]; omega), part_all (l4 _)]
  · unfold stamp; rw [part_append_left (by omega)]; unfold stampHead
    simp only [List.append_assoc]
    rw [part_append_right (by rw [l4]; omega), l4, part_append_left (by rw [l4]; omega), part_all (l4 _)]
  · unfold stamp; rw [part_append_left (by omega)]; unfold stampHead
    simp only [List.append_assoc]
    rw [part_append_right (by rw [l4]; omega), l4, part_append_right (by rw [l4]; omega), l4, part_append_left (by rw [l1]; omega), part_all (l1 _)]
  · unfold stamp; rw [part_append_left (by omega)]; unfold stampHead
    simp only [List.append_assoc]
    rw [part_append_right (by rw [l4]; omega), l4, part_append_right (by rw [l4]; omega), l4, part_append_right (by rw [l1]; omega), l1, part_append_left (by omega), part_all rfl]
  · unfold stamp; rw [← hh, List.take_left]
  · unfold stamp; rw [part_append_right (by omega), hh, List.append_assoc, part_append_left (by rw [l4]; omega), part_all (l4 _)]
  · unfold stamp; rw [part_append_right (by omega), hh, List.append_assoc, part_append_right (by rw [l4]; omega), l4, part_append_left (by rw [l4]; omega), part_all (l4 _)]
  · unfold stamp; rw [part_append_right (by omega), hh, List.append_assoc, part_append_right (by rw [l4]; omega), l4, part_append_right (by rw [l4]; omega), l4, part_all (l4 _)]
theorem parse_stamp (h1 : 0 < seq) (h2 : seq < 4294967296) (h3 : e < 4294967296) : parse (stampS seq e b).1 = some (seq, e, b) := by
  rw [stampS_val hb]
  obtain ⟨p0, p4, p8, p9, pt, p52, p56, p60⟩ := stamp_parts (seq := seq) (e := e) hb
  have o4 : ∀ v, v < 4294967296 → ofLE (le v 4) = v := fun v hv => by rw [ofLE_le]; exact Nat.mod_eq_of_lt hv
  have o1 : ofLE (le b.length 1) = b.length := by rw [ofLE_le]; exact Nat.mod_eq_of_lt (by show _ < 256; omega)
  have hc := crc_lt (stampHead seq e b)
  unfold parse
  simp only [num, p0, p4, p8, pt, p52, p56, p60, o4 seq h2, o4 e h3, o1, o4 _ hc, p9]
  rw [if_neg (by omega)]
end
/- The ends of a sector. -/
def tkS (c : Sec) : Nat := num c.1 56 4
def tkE (c : Sec) : Nat := num c.1 60 4
theorem tk_stamp {seq e : Nat} {b : List By} (hb : b.length ≤ 43) (h2 : seq < 4294967296) (h3 : e < 4294967296) : tkS (stampS seq e b) = seq ∧ tkE (stampS seq e b) = e := by
  obtain ⟨-, -, -, -, -, -, p56, p60⟩ := stamp_parts (seq := seq) (e := e) hb
  unfold tkS tkE num
  rw [stampS_val hb, p56, p60, ofLE_le, ofLE_le]
  exact ⟨Nat.mod_eq_of_lt h2, Nat.mod_eq_of_lt h3⟩
theorem tk_parse {c : Sec} {s e : Nat} {b : List By} (h : parse c.1 = some (s, e, b)) : tkS c = s ∧ tkE c = e ∧ num c.1 0 4 = s ∧ num c.1 4 4 = e ∧ 0 < s := by
  unfold parse at h
  split at h
  · cases h
  · rename_i hn
    simp only [Option.some.injEq, Prod.mk.injEq] at h
    obtain ⟨rfl, rfl, -⟩ := h
    unfold tkS tkE
    exact ⟨by omega, by omega, rfl, rfl, by omega⟩
theorem tk_zero : tkS Sec.zero = 0 ∧ tkE Sec.zero = 0 := by constructor <;> rfl
theorem pad_nil : pad [] = Sec.zero := by
  apply Subtype.ext; rw [pad_val [] (by simp)]; rfl
theorem part_torn {p i k : Nat} {new old : Sec} (hp : p ≤ 64) (h : i + k ≤ p) : part (torn p new old).1 i k = part new.1 i k := by
  have h1 : part (torn p new old).1 i k = part (new.1.take p ++ old.1.drop p) i k := rfl
  rw [h1, part_append_left (by rw [List.length_take, new.2]; omega)]
  simp only [part]
  rw [List.drop_take, List.take_take, Nat.min_eq_left (by omega)]
theorem part_torn' {p i k : Nat} {new old : Sec} (hp : p ≤ 64) (h : p ≤ i) : part (torn p new old).1 i k = part old.1 i k := by
  have hl : (new.1.take p).length = p := by rw [List.length_take, new.2]; omega
  have h1 : part (torn p new old).1 i k = part (new.1.take p ++ old.1.drop p) i k := rfl
  rw [h1, part_append_right (by omega), hl]
  simp only [part]
  rw [List.drop_drop]
  congr 2
  omega
theorem sec_parts (c : Sec) : c.1 = c.1.take 56 ++ (part c.1 56 4 ++ part c.1 60 4) := by
  have h := c.2
  have e1 : part c.1 56 4 ++ part c.1 60 4 = c.1.drop 56 := by
    simp only [part]
    rw [show c.1.drop 60 = (c.1.drop 56).drop 4 by rw [List.drop_drop]]
    rw [List.take_of_length_le (l := (c.1.drop 56).drop 4) (by simp; omega), List.take_append_drop]
  rw [e1, List.take_append_drop]
/-- A torn sector that is taken is the new one, or has the old one's ends. -/
theorem torn_taken {p seq e s' e' : Nat} {b b' : List By} {old : Sec} (hp : p ≤ 64) (hb : b.length ≤ 43) (h : parse (torn p (stampS seq e b) old).1 = some (s', e', b')) : torn p (stampS seq e b) old = stampS seq e b ∨ (tkS old = s' ∧ tkE old = e') := by
  obtain ⟨t1, t2, t3, t4, t5⟩ := tk_parse h
  by_cases hp56 : p ≤ 56
  · right
    unfold tkS tkE num at *
    rw [part_torn' hp (by omega)] at t1 t2
    exact ⟨t1, t2⟩
  · left
    obtain ⟨p0, p4, -, -, -, -, p56, p60⟩ := stamp_parts (seq := seq) (e := e) hb
    rw [← stampS_val hb] at p0 p4 p56 p60
    have l56 : ∀ c : Sec, (part c.1 56 4).length = 4 := fun c => by have := c.2; simp [part]; omega
    have l60 : ∀ c : Sec, (part c.1 60 4).length = 4 := fun c => by have := c.2; simp [part]; omega
    have q0 : part (torn p (stampS seq e b) old).1 0 4 = le seq 4 := by rw [part_torn hp (by omega), p0]
    have q4 : part (torn p (stampS seq e b) old).1 4 4 = le e 4 := by rw [part_torn hp (by omega), p4]
    have r1 : part (torn p (stampS seq e b) old).1 56 4 = le seq 4 := by
      apply ofLE_inj (by rw [l56, le_length])
      rw [← q0]
      exact t1.trans t3.symm
    have r2 : part (torn p (stampS seq e b) old).1 60 4 = le e 4 := by
      apply ofLE_inj (by rw [l60, le_length])
      rw [← q4]
      exact t2.trans t4.symm
    apply Subtype.ext
    rw [sec_parts (torn p (stampS seq e b) old), sec_parts (stampS seq e b), r1, r2, p56, p60]
    congr 1
    have hh := part_torn (i := 0) (k := 56) (new := stampS seq e b) (old := old) hp (by omega)
    simpa [part] using hh
theorem ofLE_drop (xs : List By) (q : Nat) (hq : q ≤ xs.length) : ofLE (xs.drop q) = ofLE xs / 2 ^ (8 * q) := by
  have h1 := ofLE_append (xs.take q) (xs.drop q)
  rw [List.take_append_drop, List.length_take, Nat.min_eq_left hq] at h1
  have h2 := ofLE_lt (xs.take q)
  rw [List.length_take, Nat.min_eq_left hq] at h2
  rw [h1, Nat.add_mul_div_left _ _ (Nat.two_pow_pos _), Nat.div_eq_of_lt h2, Nat.zero_add]
theorem mix_le {xs ys : List By} (hl : xs.length = ys.length) (q : Nat) (hq : q ≤ xs.length) (h : ofLE ys ≤ ofLE xs) : ofLE (xs.take q ++ ys.drop q) ≤ ofLE xs := by
  have h1 := ofLE_append (xs.take q) (xs.drop q)
  rw [List.take_append_drop] at h1
  rw [ofLE_append, h1]
  have : ofLE (ys.drop q) ≤ ofLE (xs.drop q) := by
    rw [ofLE_drop _ _ hq, ofLE_drop _ _ (by omega)]
    exact Nat.div_le_div_right h
  exact Nat.add_le_add_left (Nat.mul_le_mul_left _ this) _
theorem tkE_torn {p : Nat} {new old : Sec} (hp : p ≤ 64) (h : tkE old ≤ tkE new) : tkE (torn p new old) ≤ tkE new := by
  by_cases hp60 : p ≤ 60
  · have : tkE (torn p new old) = tkE old := by unfold tkE num; rw [part_torn' hp hp60]
    omega
  · have hn := new.2
    have ho := old.2
    have e1 : part (torn p new old).1 60 4 = (part new.1 60 4).take (p - 60) ++ (part old.1 60 4).drop (p - 60) := by
      have hl : (new.1.take p).length = p := by rw [List.length_take, hn]; omega
      have h1 : part (torn p new old).1 60 4 = part (new.1.take p ++ old.1.drop p) 60 4 := rfl
      rw [h1]
      simp only [part]
      rw [List.drop_append_of_le_length (by omega), List.drop_take, List.take_append, List.take_of_length_le (l := (new.1.drop 60).take (p - 60)) (by simp; omega)]
      congr 1
      · rw [List.take_take, Nat.min_eq_left (by omega)]
      · rw [List.length_take, List.length_drop, hn, List.drop_take, List.drop_drop]
        rw [show 60 + (p - 60) = p by omega]
        congr 1
        omega
    unfold tkE num
    rw [e1]
    exact mix_le (by simp [part]; omega) _ (by simp [part]; omega) h
end Go.Sl
