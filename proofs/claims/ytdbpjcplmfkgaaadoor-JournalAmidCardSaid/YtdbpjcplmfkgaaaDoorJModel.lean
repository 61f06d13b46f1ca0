/- Plain models: bytes, sums, disks, slots, journals. -/
import Derived.Test.YtdbpjcplmfkgaaaDoorSlN
namespace Go.Sl
open Go
def by_ (n : Nat) : By := ⟨n % 256, Nat.mod_lt _ (by decide)⟩
def le (v k : Nat) : List By := (List.range k).map fun i => by_ (v / 2 ^ (8 * i))
theorem le_length (v k : Nat) : (le v k).length = k := by simp [le]
def ofLE : List By → Nat
  | [] => 0
  | b :: r => b.val + 256 * ofLE r
theorem le_succ (v k : Nat) : le v (k + 1) = le v k ++ [by_ (v / 2 ^ (8 * k))] := by simp [le, List.range_succ]
theorem pow256 (i : Nat) : 2 ^ (8 * i) = 256 ^ i := by rw [Nat.pow_mul]
theorem ofLE_lt : ∀ xs : List By, ofLE xs < 2 ^ (8 * xs.length)
  | [] => by simp [ofLE]
  | b :: r => by
    have := ofLE_lt r
    have h2 := b.2
    simp only [ofLE, List.length_cons, Nat.mul_add, Nat.mul_one, Nat.pow_add]
    rw [show (2 : Nat) ^ 8 = 256 from rfl]
    omega
theorem ofLE_append (xs ys : List By) : ofLE (xs ++ ys) = ofLE xs + 2 ^ (8 * xs.length) * ofLE ys := by
  induction xs with
  | nil => simp [ofLE]
  | cons b r ih =>
    simp only [List.cons_append, ofLE, ih, List.length_cons, Nat.mul_add, Nat.mul_one, Nat.pow_add]
    rw [show (2 : Nat) ^ 8 = 256 from rfl, Nat.mul_comm _ 256, Nat.mul_assoc]
    omega
theorem ofLE_take_succ {xs : List By} {k : Nat} {b : By} (h : xs[k]? = some b) : ofLE (xs.take (k + 1)) = ofLE (xs.take k) + b.val * 2 ^ (8 * k) := by
  have hk := (List.getElem?_eq_some_iff.1 h).1
  rw [take_succ h, ofLE_append, List.length_take, Nat.min_eq_left (by omega)]
  simp [ofLE, Nat.mul_comm]
theorem or_add {a b i : Nat} (h : a < 2 ^ i) : a ||| (b * 2 ^ i) = a + b * 2 ^ i := by
  have := Nat.two_pow_add_eq_or_of_lt h b
  rw [Nat.mul_comm b, Nat.add_comm, this, Nat.or_comm]
theorem pow_bound {i : Nat} (h : i ≤ 7) : 2 ^ (8 * i) ≤ 72057594037927936 := Nat.le_trans (Nat.pow_le_pow_right (n := 2) (i := 8 * i) (j := 56) (by omega) (by omega)) (by decide)
def rtake (xs : List By) (sh : Bool) (k : Nat) : List By × List By × Bool := if sh = true ∨ xs.length < k then ([], [], true) else (xs.take k, xs.drop k, false)
theorem rtake_len (xs : List By) (sh : Bool) (k : Nat) : (rtake xs sh k).1.length ≤ k := by
  unfold rtake; split <;> simp; omega
theorem catLen_take (xs : List BS) (k : Nat) : ((xs.take k).flatMap BS.bs).length ≤ (xs.flatMap BS.bs).length := by
  conv => rhs; rw [← List.take_append_drop k xs, List.flatMap_append, List.length_append]
  omega
theorem repZ8 (k : Nat) : repZ [.int .u8 0] k = (List.replicate k (0 : By)).map u8 := by
  induction k with
  | zero => rfl
  | succ k ih => simp only [repZ, ih, List.replicate_succ, List.map_cons]; rfl
def tblN : List Nat := [0, 498536548, 997073096, 651767980, 1994146192, 1802195444, 1303535960, 1342533948, 3988292384, 4027552580, 3604390888, 3412177804, 2607071920, 2262029012, 2685067896, 3183342108]
def cstep (s : Nat) : Nat := (s / 2 ^ 4) ^^^ (tblN[s &&& 15]?.getD 0)
def crcStep (s : Nat) (b : By) : Nat := cstep (cstep (s ^^^ b.val))
def crc (bs : List By) : Nat := 4294967295 ^^^ bs.foldl crcStep 4294967295
theorem tbl_lt : ∀ e ∈ tblN, e < 4294967296 := by decide
theorem and15 (s : Nat) : s &&& 15 < 16 := by
  have := Nat.and_two_pow_sub_one_eq_mod s 4
  simp at this; omega
theorem tbl_get (s : Nat) : ∃ e, tblN[s &&& 15]? = some e ∧ e < 4294967296 ∧ cstep s = (s / 2 ^ 4) ^^^ e := by
  have h : s &&& 15 < tblN.length := by show _ < 16; exact and15 s
  refine ⟨tblN[s &&& 15], by simp [h], tbl_lt _ (List.getElem_mem h), ?_⟩
  simp [cstep, h]
theorem xor32 {a b : Nat} (h : a < 4294967296) (h' : b < 4294967296) : a ^^^ b < 4294967296 := Nat.xor_lt_two_pow (n := 32) h h'
theorem cstep_lt {s : Nat} (h : s < 4294967296) : cstep s < 4294967296 := by
  obtain ⟨e, -, he, hc⟩ := tbl_get s
  rw [hc]
  exact xor32 (by omega) he
theorem crcStep_lt {s : Nat} (h : s < 4294967296) (b : By) : crcStep s b < 4294967296 := cstep_lt (cstep_lt (xor32 h (by omega)))
theorem fold_lt : ∀ (xs : List By) {s : Nat}, s < 4294967296 → xs.foldl crcStep s < 4294967296
  | [], _, h => h
  | b :: r, _, h => fold_lt r (crcStep_lt h b)
theorem crc_lt (xs : List By) : crc xs < 4294967296 := xor32 (by omega) (fold_lt xs (by omega))
theorem fold_take_succ {xs : List By} {k : Nat} {b : By} (h : xs[k]? = some b) (s : Nat) : (xs.take (k + 1)).foldl crcStep s = crcStep ((xs.take k).foldl crcStep s) b := by
  rw [take_succ h, List.foldl_append]; rfl
/- Sectors, disks. -/
abbrev Sec := { l : List By // l.length = 64 }
def pad (b : List By) : Sec := ⟨(b ++ List.replicate 64 0).take 64, by simp⟩
def Sec.zero : Sec := ⟨List.replicate 64 0, by simp⟩
abbrev encS (s : Sec) : List Value := s.1.map u8
theorem encS_len (s : Sec) : (encS s).length = 64 := by simp [encS, s.2]
abbrev encW (w : Nat × Sec) : List Value := .int .i64 ((w.1 : Nat) : Int) :: w.2.1.map u8
theorem encW_len (w : Nat × Sec) : (encW w).length = 65 := by simp [encW, w.2.2]
structure DK where
  seen : List Sec
  sure : List Sec
  pend : List (Nat × Sec)
  fuse : Int
  down : Bool
def DK.new (n : Nat) : DK := ⟨List.replicate n .zero, List.replicate n .zero, [], -1, false⟩
def DK.done (d : DK) : DK := { d with down := d.down || d.fuse == 0, fuse := d.fuse - min 1 (max 0 d.fuse) }
def DK.put (d : DK) (i : Nat) (s : Sec) : DK := { d with seen := d.seen.set i s, pend := d.pend ++ [(i, s)] }
def DK.write (d : DK) (i : Int) (b : List By) : DK × Int :=
  if ¬ (0 ≤ i ∧ i < (d.seen.length : Int)) then (d, 40)
  else if 64 < b.length then (d, 2)
  else if d.done.down then (d.done, 43)
  else (d.done.put i.toNat (pad b), 0)
def DK.read (d : DK) (i : Int) : Option Sec := if 0 ≤ i ∧ i < (d.seen.length : Int) then d.seen[i.toNat]? else none
def flush (sure : List Sec) : List (Nat × Sec) → List Sec
  | [] => sure
  | w :: ws => flush (sure.set w.1 w.2) ws
def DK.sync (d : DK) : DK := if d.done.down then d.done else { d.done with sure := flush d.sure d.pend, pend := [] }
def torn (p : Nat) (new old : Sec) : Sec := ⟨(new.1.take p ++ old.1.drop p), by
  have h1 := new.2; have h2 := old.2
  simp only [List.length_append, List.length_take, List.length_drop, h1, h2]; omega⟩
def pickOf : List Int → Nat
  | [] => 0
  | x :: _ => (max 0 (min x 64)).toNat
def crashL (sure : List Sec) : List (Nat × Sec) → List Int → List Sec
  | [], _ => sure
  | w :: ws, ps => crashL (sure.set w.1 (torn (pickOf ps) w.2 (sure[w.1]?.getD .zero))) ws ps.tail
def DK.crash (d : DK) (picks : List Int) : DK := ⟨crashL d.sure d.pend picks, crashL d.sure d.pend picks, [], -1, false⟩
/- Slots. -/
def stampHead (seq epoch : Nat) (b : List By) : List By := le seq 4 ++ le epoch 4 ++ le b.length 1 ++ b ++ List.replicate (43 - b.length) 0
def stamp (seq epoch : Nat) (b : List By) : List By := stampHead seq epoch b ++ (le (crc (stampHead seq epoch b)) 4 ++ le seq 4 ++ le epoch 4)
theorem stampHead_length {seq epoch : Nat} {b : List By} (h : b.length ≤ 43) : (stampHead seq epoch b).length = 52 := by
  simp [stampHead, le_length]; omega
theorem stamp_length {seq epoch : Nat} {b : List By} (h : b.length ≤ 43) : (stamp seq epoch b).length = 64 := by
  simp [stamp, stampHead_length h, le_length]
def part (s : List By) (i k : Nat) : List By := (s.drop i).take k
abbrev num (s : List By) (i k : Nat) : Nat := ofLE (part s i k)
theorem num_lt (s : List By) (i k : Nat) : num s i k < 2 ^ (8 * k) := by
  have h := ofLE_lt (part s i k)
  have h2 : (part s i k).length ≤ k := by simp [part]; omega
  exact Nat.lt_of_lt_of_le h (Nat.pow_le_pow_right (by omega) (by omega))
theorem head_num {s : List By} (h : s.length = 64) (i k : Nat) (hk : i + k ≤ 52) : rtake ((s.take 52).drop i) false k = (part s i k, (s.take 52).drop (i + k), false) := by
  unfold rtake
  rw [if_neg (by simp; omega)]
  simp only [List.drop_drop, part, Prod.mk.injEq, and_true]
  rw [List.drop_take, List.take_take, Nat.min_eq_left (by omega)]
theorem tail_num {s : List By} (h : s.length = 64) (i k : Nat) (hk : i + k ≤ 12) : rtake ((s.drop 52).drop i) false k = (part s (52 + i) k, (s.drop 52).drop (i + k), false) := by
  unfold rtake
  rw [if_neg (by simp; omega)]
  simp only [List.drop_drop, part, Nat.add_assoc]
def parse (s : List By) : Option (Nat × Nat × List By) :=
  if num s 0 4 = 0 ∨ num s 0 4 ≠ num s 56 4 ∨ num s 4 4 ≠ num s 60 4 ∨ 43 < num s 8 1 ∨ num s 52 4 ≠ crc (s.take 52) then none
  else some (num s 0 4, num s 4 4, part s 9 (num s 8 1))
structure SR where
  at_ : Int
  seq : Nat
  b : List By
def lastStep (d : DK) (i : Int) (out : SR) : SR :=
  match (d.read i).bind fun s => parse s.1 with
  | some (seq, epoch, b) => if epoch = 0 ∧ out.seq < seq then ⟨i, seq, b⟩ else out
  | none => out
def last (d : DK) (at_ : Int) : SR := lastStep d (at_ + 1) (lastStep d at_ ⟨at_ + 1, 0, []⟩)
def right_ (d : DK) (at_ : Int) : Bool := decide (0 ≤ at_) && decide (at_ < (d.seen.length : Int) - 1)
def put (d : DK) (at_ : Int) (b : List By) : DK × Int :=
  if right_ d at_ = false then (d, 40)
  else if 43 < b.length then (d, 2)
  else if (last d at_).seq = 4294967295 then (d, 42)
  else d.sync.write (2 * at_ + 1 - (last d at_).at_) (stamp ((last d at_).seq + 1) 0 b)
def save (d : DK) (at_ : Int) (b : List By) : DK × Int :=
  if (put d at_ b).2 = 0 then ((put d at_ b).1.sync, if (put d at_ b).1.sync.down then 43 else 0) else put d at_ b
/- Journals. -/
structure JN where
  at_ : Nat
  n : Nat
  first : Nat
  epoch : Nat
  low : Nat
  held : List (Nat × List By)
def JN.next (j : JN) : Nat := j.first + j.held.length
def JN.place (j : JN) (seq : Nat) : Nat := j.at_ + 2 + seq % j.n
def JN.metaB (j : JN) : List By := le j.first 4 ++ le j.epoch 4 ++ le j.low 4
def scanL (d : DK) (at_ n epoch : Nat) : Nat → Nat → Nat → List (Nat × List By)
  | 0, _, _ => []
  | f + 1, low, next =>
    if next ≤ 4294967295 then
      match (d.read ((at_ + 2 + next % n : Nat) : Int)).bind fun s => parse s.1 with
      | some (seq, ep, b) => if seq = next ∧ low ≤ ep ∧ ep ≤ epoch then (ep, b) :: scanL d at_ n epoch f ep (next + 1) else []
      | none => []
    else []
def jsave (d : DK) (j : JN) : DK × Int := save d j.at_ j.metaB
/-- A journal with the slot's numbers. -/
def JN.begun (d : DK) (at_ n : Nat) : Option JN :=
  if (last d at_).seq = 0 then some ⟨at_, n, 1, 0, 0, []⟩
  else if (last d at_).b.length = 12 ∧ 0 < num (last d at_).b 0 4 ∧ num (last d at_).b 8 4 ≤ num (last d at_).b 4 4 then some ⟨at_, n, num (last d at_).b 0 4, num (last d at_).b 4 4, num (last d at_).b 8 4, []⟩
  else none
def JN.scanned (d : DK) (j : JN) : JN := { j with held := scanL d j.at_ j.n j.epoch j.n j.low j.first }
/-- Open, behind the checks of its arguments. -/
def jopen0 (d : DK) (at_ n : Nat) : DK × Option JN × Int :=
  match JN.begun d at_ n with
  | none => (d, none, 41)
  | some j0 =>
    if j0.epoch = 4294967295 then (d, none, 42)
    else
      let j1 := j0.scanned d
      let d1 := if j1.held.length < n then (d.write (j1.place j1.next) []).1 else d
      let j2 := { j1 with epoch := j1.epoch + 1 }
      let (d2, e) := jsave d1 j2
      if e = 0 then (d2, some j2, 0) else (d2, none, e)
def jopen (d : DK) (at_ n : Int) : DK × Option JN × Int :=
  if n < 1 ∨ 100 < n then (d, none, 1)
  else if at_ < 0 ∨ (d.seen.length : Int) - 2 - n < at_ then (d, none, 40)
  else jopen0 d at_.toNat n.toNat
def jappend (d : DK) (j : JN) (b : List By) : DK × JN × Int :=
  if 43 < b.length then (d, j, 2)
  else if j.held.length = j.n ∨ 4294967295 < j.next then (d, j, 42)
  else
    let (d1, e) := d.write (j.place j.next) (stamp j.next j.epoch b)
    (d1, { j with held := j.held ++ [(j.epoch, b)] }, e)
def jtrim (d : DK) (j : JN) (k : Int) : DK × JN × Int :=
  if k < 0 ∨ (j.held.length : Int) < k then (d, j, 1)
  else
    let j1 := { j with low := if 0 < k then ((j.held[k.toNat - 1]?).getD (0, [])).1 else j.low, first := j.first + k.toNat, held := j.held.drop k.toNat }
    let (d1, e) := jsave d j1
    (d1, j1, e)
def cutL (d : DK) (j : JN) : Nat → DK × JN
  | 0 => (d, j)
  | k + 1 =>
    let j1 := { j with held := j.held.dropLast }
    cutL (d.write (j1.place j1.next) []).1 j1 k
def jcut (d : DK) (j : JN) (k : Int) : DK × JN × Int :=
  if k < 0 ∨ (j.held.length : Int) < k then (d, j, 1)
  else if j.epoch = 4294967295 then (d, j, 42)
  else
    let (d1, j1) := cutL d.sync j k.toNat
    let j2 := { j1 with epoch := j1.epoch + 1 }
    let (d2, e) := jsave d1.sync j2
    (d2, j2, e)
end Go.Sl
