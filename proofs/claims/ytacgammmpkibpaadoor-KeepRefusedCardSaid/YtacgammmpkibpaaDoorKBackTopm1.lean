/- Texts of this claim, merged: JModel, JMem, JPure1, JPure2, JPureB, GPure3, GPure4, GPure5, GPure6, KModel, KPure1, KPure2, SlO, KMem, KFit, KPure3, SlT, KT. -/
import Derived.Test.YtacgammmpkibpaaDoorKBackTopm0
import Derived.Laws.Strings
import Derived.ProofKit
import Derived.Test.YtacgammmpkibpaaDoorRows
import Derived.Test.YtacgammmpkibpaaDoorTie
import Derived.WalkKit
import Derived.OpenShut
import Derived.ShutString
import Derived.ChangeOld
import Derived.Below
import Derived.LaidMore
import Derived.Lib.LaidTab
import Derived.Stop.Joined
import Derived.SevenTiedAt
/- Plain models: bytes, sums, disks, slots, journals. -/
namespace Go.Sl
open Go
def by_ (n : Nat) : By := ⟨n % 256, Nat.mod_lt _ (by decide)⟩
def le (v k : Nat) : List By := (List.range k).map fun i => by_ (v / 2 ^ (8 * i))
theorem le_length (v k : Nat) : (le v k).length = k := by simp [le]
def ofLE : List By → Nat
  | [] => 0
  | b :: r => b.val + 256 * ofLE r
theorem le_succ (v k : Nat) : le v (k + 1) = le v k ++ [by_ (v / 2 ^ (8 * k))] := by simp [le, List.range_succ]
theorem pow256 (i : Nat) : 2 ^ (8 * i) = 256 ^ i := by rw [Nat.pow_mul]
theorem ofLE_lt : ∀ xs : List By, ofLE xs < 2 ^ (8 * xs.length)
  | [] => by simp [ofLE]
  | b :: r => by
    have := ofLE_lt r
    have h2 := b.2
    simp only [ofLE, List.length_cons, Nat.mul_add, Nat.mul_one, Nat.pow_add]
    rw [show (2 : Nat) ^ 8 = 256 from rfl]
    omega
theorem ofLE_append (xs ys : List By) : ofLE (xs ++ ys) = ofLE xs + 2 ^ (8 * xs.length) * ofLE ys := by
  induction xs with
  | nil => simp [ofLE]
  | cons b r ih =>
    simp only [List.cons_append, ofLE, ih, List.length_cons, Nat.mul_add, Nat.mul_one, Nat.pow_add]
    rw [show (2 : Nat) ^ 8 = 256 from rfl, Nat.mul_comm _ 256, Nat.mul_assoc]
    omega
theorem ofLE_take_succ {xs : List By} {k : Nat} {b : By} (h : xs[k]? = some b) : ofLE (xs.take (k + 1)) = ofLE (xs.take k) + b.val * 2 ^ (8 * k) := by
  have hk := (List.getElem?_eq_some_iff.1 h).1
  rw [take_succ h, ofLE_append, List.length_take, Nat.min_eq_left (by omega)]
  simp [ofLE, Nat.mul_comm]
theorem or_add {a b i : Nat} (h : a < 2 ^ i) : a ||| (b * 2 ^ i) = a + b * 2 ^ i := by
  have := Nat.two_pow_add_eq_or_of_lt h b
  rw [Nat.mul_comm b, Nat.add_comm, this, Nat.or_comm]
theorem pow_bound {i : Nat} (h : i ≤ 7) : 2 ^ (8 * i) ≤ 72057594037927936 := Nat.le_trans (Nat.pow_le_pow_right (n := 2) (i := 8 * i) (j := 56) (by omega) (by omega)) (by decide)
def rtake (xs : List By) (sh : Bool) (k : Nat) : List By × List By × Bool := if sh = true ∨ xs.length < k then ([], [], true) else (xs.take k, xs.drop k, false)
theorem rtake_len (xs : List By) (sh : Bool) (k : Nat) : (rtake xs sh k).1.length ≤ k := by
  unfold rtake; split <;> simp; omega
theorem catLen_take (xs : List BS) (k : Nat) : ((xs.take k).flatMap BS.bs).length ≤ (xs.flatMap BS.bs).length := by
  conv => rhs; rw [← List.take_append_drop k xs, List.flatMap_append, List.length_append]
  omega
theorem repZ8 (k : Nat) : repZ [.int .u8 0] k = (List.replicate k (0 : By)).map u8 := by
  induction k with
  | zero => rfl
  | succ k ih => simp only [repZ, ih, List.replicate_succ, List.map_cons]; rfl
def tblN : List Nat := [0, 498536548, 997073096, 651767980, 1994146192, 1802195444, 1303535960, 1342533948, 3988292384, 4027552580, 3604390888, 3412177804, 2607071920, 2262029012, 2685067896, 3183342108]
def cstep (s : Nat) : Nat := (s / 2 ^ 4) ^^^ (tblN[s &&& 15]?.getD 0)
def crcStep (s : Nat) (b : By) : Nat := cstep (cstep (s ^^^ b.val))
def crc (bs : List By) : Nat := 4294967295 ^^^ bs.foldl crcStep 4294967295
theorem tbl_lt : ∀ e ∈ tblN, e < 4294967296 := by decide
theorem and15 (s : Nat) : s &&& 15 < 16 := by
  have := Nat.and_two_pow_sub_one_eq_mod s 4
  simp at this; omega
theorem tbl_get (s : Nat) : ∃ e, tblN[s &&& 15]? = some e ∧ e < 4294967296 ∧ cstep s = (s / 2 ^ 4) ^^^ e := by
  have h : s &&& 15 < tblN.length := by show _ < 16; exact and15 s
  refine ⟨tblN[s &&& 15], by simp [h], tbl_lt _ (List.getElem_mem h), ?_⟩
  simp [cstep, h]
theorem xor32 {a b : Nat} (h : a < 4294967296) (h' : b < 4294967296) : a ^^^ b < 4294967296 := Nat.xor_lt_two_pow (n := 32) h h'
theorem cstep_lt {s : Nat} (h : s < 4294967296) : cstep s < 4294967296 := by
  obtain ⟨e, -, he, hc⟩ := tbl_get s
  rw [hc]
  exact xor32 (by omega) he
theorem crcStep_lt {s : Nat} (h : s < 4294967296) (b : By) : crcStep s b < 4294967296 := cstep_lt (cstep_lt (xor32 h (by omega)))
theorem fold_lt : ∀ (xs : List By) {s : Nat}, s < 4294967296 → xs.foldl crcStep s < 4294967296
  | [], _, h => h
  | b :: r, _, h => fold_lt r (crcStep_lt h b)
theorem crc_lt (xs : List By) : crc xs < 4294967296 := xor32 (by omega) (fold_lt xs (by omega))
theorem fold_take_succ {xs : List By} {k : Nat} {b : By} (h : xs[k]? = some b) (s : Nat) : (xs.take (k + 1)).foldl crcStep s = crcStep ((xs.take k).foldl crcStep s) b := by
  rw [take_succ h, List.foldl_append]; rfl
/- Sectors, disks. -/
abbrev Sec := { l : List By // l.length = 64 }
def pad (b : List By) : Sec := ⟨(b ++ List.replicate 64 0).take 64, by simp⟩
def Sec.zero : Sec := ⟨List.replicate 64 0, by simp⟩
abbrev encS (s : Sec) : List Value := s.1.map u8
theorem encS_len (s : Sec) : (encS s).length = 64 := by simp [encS, s.2]
abbrev encW (w : Nat × Sec) : List Value := .int .i64 ((w.1 : Nat) : Int) :: w.2.1.map u8
theorem encW_len (w : Nat × Sec) : (encW w).length = 65 := by simp [encW, w.2.2]
structure DK where
  seen : List Sec
  sure : List Sec
  pend : List (Nat × Sec)
  fuse : Int
  down : Bool
def DK.new (n : Nat) : DK := ⟨List.replicate n .zero, List.replicate n .zero, [], -1, false⟩
def DK.done (d : DK) : DK := { d with down := d.down || d.fuse == 0, fuse := d.fuse - min 1 (max 0 d.fuse) }
def DK.put (d : DK) (i : Nat) (s : Sec) : DK := { d with seen := d.seen.set i s, pend := d.pend ++ [(i, s)] }
def DK.write (d : DK) (i : Int) (b : List By) : DK × Int :=
  if ¬ (0 ≤ i ∧ i < (d.seen.length : Int)) then (d, 40)
  else if 64 < b.length then (d, 2)
  else if d.done.down then (d.done, 43)
  else (d.done.put i.toNat (pad b), 0)
def DK.read (d : DK) (i : Int) : Option Sec := if 0 ≤ i ∧ i < (d.seen.length : Int) then d.seen[i.toNat]? else none
def flush (sure : List Sec) : List (Nat × Sec) → List Sec
  | [] => sure
  | w :: ws => flush (sure.set w.1 w.2) ws
def DK.sync (d : DK) : DK := if d.done.down then d.done else { d.done with sure := flush d.sure d.pend, pend := [] }
def torn (p : Nat) (new old : Sec) : Sec := ⟨(new.1.take p ++ old.1.drop p), by
  have h1 := new.2; have h2 := old.2
  simp only [List.length_append, List.length_take, List.length_drop, h1, h2]; omega⟩
def pickOf : List Int → Nat
  | [] => 0
  | x :: _ => (max 0 (min x 64)).toNat
def crashL (sure : List Sec) : List (Nat × Sec) → List Int → List Sec
  | [], _ => sure
  | w :: ws, ps => crashL (sure.set w.1 (torn (pickOf ps) w.2 (sure[w.1]?.getD .zero))) ws ps.tail
def DK.crash (d : DK) (picks : List Int) : DK := ⟨crashL d.sure d.pend picks, crashL d.sure d.pend picks, [], -1, false⟩
/- Slots. -/
def stampHead (seq epoch : Nat) (b : List By) : List By := le seq 4 ++ le epoch 4 ++ le b.length 1 ++ b ++ List.replicate (43 - b.length) 0
def stamp (seq epoch : Nat) (b : List By) : List By := stampHead seq epoch b ++ (le (crc (stampHead seq epoch b)) 4 ++ le seq 4 ++ le epoch 4)
theorem stampHead_length {seq epoch : Nat} {b : List By} (h : b.length ≤ 43) : (stampHead seq epoch b).length = 52 := by
  simp [stampHead, le_length]; omega
theorem stamp_length {seq epoch : Nat} {b : List By} (h : b.length ≤ 43) : (stamp seq epoch b).length = 64 := by
  simp [stamp, stampHead_length h, le_length]
def part (s : List By) (i k : Nat) : List By := (s.drop i).take k
abbrev num (s : List By) (i k : Nat) : Nat := ofLE (part s i k)
theorem num_lt (s : List By) (i k : Nat) : num s i k < 2 ^ (8 * k) := by
  have h := ofLE_lt (part s i k)
  have h2 : (part s i k).length ≤ k := by simp [part]; omega
  exact Nat.lt_of_lt_of_le h (Nat.pow_le_pow_right (by omega) (by omega))
theorem head_num {s : List By} (h : s.length = 64) (i k : Nat) (hk : i + k ≤ 52) : rtake ((s.take 52).drop i) false k = (part s i k, (s.take 52).drop (i + k), false) := by
  unfold rtake
  rw [if_neg (by simp; omega)]
  simp only [List.drop_drop, part, Prod.mk.injEq, and_true]
  rw [List.drop_take, List.take_take, Nat.min_eq_left (by omega)]
theorem tail_num {s : List By} (h : s.length = 64) (i k : Nat) (hk : i + k ≤ 12) : rtake ((s.drop 52).drop i) false k = (part s (52 + i) k, (s.drop 52).drop (i + k), false) := by
  unfold rtake
  rw [if_neg (by simp; omega)]
  simp only [List.drop_drop, part, Nat.add_assoc]
def parse (s : List By) : Option (Nat × Nat × List By) :=
  if num s 0 4 = 0 ∨ num s 0 4 ≠ num s 56 4 ∨ num s 4 4 ≠ num s 60 4 ∨ 43 < num s 8 1 ∨ num s 52 4 ≠ crc (s.take 52) then none
  else some (num s 0 4, num s 4 4, part s 9 (num s 8 1))
structure SR where
  at_ : Int
  seq : Nat
  b : List By
def lastStep (d : DK) (i : Int) (out : SR) : SR :=
  match (d.read i).bind fun s => parse s.1 with
  | some (seq, epoch, b) => if epoch = 0 ∧ out.seq < seq then ⟨i, seq, b⟩ else out
  | none => out
def last (d : DK) (at_ : Int) : SR := lastStep d (at_ + 1) (lastStep d at_ ⟨at_ + 1, 0, []⟩)
def right_ (d : DK) (at_ : Int) : Bool := decide (0 ≤ at_) && decide (at_ < (d.seen.length : Int) - 1)
def put (d : DK) (at_ : Int) (b : List By) : DK × Int :=
  if right_ d at_ = false then (d, 40)
  else if 43 < b.length then (d, 2)
  else if (last d at_).seq = 4294967295 then (d, 42)
  else d.sync.write (2 * at_ + 1 - (last d at_).at_) (stamp ((last d at_).seq + 1) 0 b)
def save (d : DK) (at_ : Int) (b : List By) : DK × Int :=
  if (put d at_ b).2 = 0 then ((put d at_ b).1.sync, if (put d at_ b).1.sync.down then 43 else 0) else put d at_ b
/- Journals. -/
structure JN where
  at_ : Nat
  n : Nat
  first : Nat
  epoch : Nat
  low : Nat
  held : List (Nat × List By)
def JN.next (j : JN) : Nat := j.first + j.held.length
def JN.place (j : JN) (seq : Nat) : Nat := j.at_ + 2 + seq % j.n
def JN.metaB (j : JN) : List By := le j.first 4 ++ le j.epoch 4 ++ le j.low 4
def scanL (d : DK) (at_ n epoch : Nat) : Nat → Nat → Nat → List (Nat × List By)
  | 0, _, _ => []
  | f + 1, low, next =>
    if next ≤ 4294967295 then
      match (d.read ((at_ + 2 + next % n : Nat) : Int)).bind fun s => parse s.1 with
      | some (seq, ep, b) => if seq = next ∧ low ≤ ep ∧ ep ≤ epoch then (ep, b) :: scanL d at_ n epoch f ep (next + 1) else []
      | none => []
    else []
def jsave (d : DK) (j : JN) : DK × Int := save d j.at_ j.metaB
/-- A journal with the slot's numbers. -/
def JN.begun (d : DK) (at_ n : Nat) : Option JN :=
  if (last d at_).seq = 0 then some ⟨at_, n, 1, 0, 0, []⟩
  else if (last d at_).b.length = 12 ∧ 0 < num (last d at_).b 0 4 ∧ num (last d at_).b 8 4 ≤ num (last d at_).b 4 4 then some ⟨at_, n, num (last d at_).b 0 4, num (last d at_).b 4 4, num (last d at_).b 8 4, []⟩
  else none
def JN.scanned (d : DK) (j : JN) : JN := { j with held := scanL d j.at_ j.n j.epoch j.n j.low j.first }
/-- Open, behind the checks of its arguments. -/
def jopen0 (d : DK) (at_ n : Nat) : DK × Option JN × Int :=
  match JN.begun d at_ n with
  | none => (d, none, 41)
  | some j0 =>
    if j0.epoch = 4294967295 then (d, none, 42)
    else
      let j1 := j0.scanned d
      let d1 := if j1.held.length < n then (d.write (j1.place j1.next) []).1 else d
      let j2 := { j1 with epoch := j1.epoch + 1 }
      let (d2, e) := jsave d1 j2
      if e = 0 then (d2, some j2, 0) else (d2, none, e)
def jopen (d : DK) (at_ n : Int) : DK × Option JN × Int :=
  if n < 1 ∨ 100 < n then (d, none, 1)
  else if at_ < 0 ∨ (d.seen.length : Int) - 2 - n < at_ then (d, none, 40)
  else jopen0 d at_.toNat n.toNat
def jappend (d : DK) (j : JN) (b : List By) : DK × JN × Int :=
  if 43 < b.length then (d, j, 2)
  else if j.held.length = j.n ∨ 4294967295 < j.next then (d, j, 42)
  else
    let (d1, e) := d.write (j.place j.next) (stamp j.next j.epoch b)
    (d1, { j with held := j.held ++ [(j.epoch, b)] }, e)
def jtrim (d : DK) (j : JN) (k : Int) : DK × JN × Int :=
  if k < 0 ∨ (j.held.length : Int) < k then (d, j, 1)
  else
    let j1 := { j with low := if 0 < k then ((j.held[k.toNat - 1]?).getD (0, [])).1 else j.low, first := j.first + k.toNat, held := j.held.drop k.toNat }
    let (d1, e) := jsave d j1
    (d1, j1, e)
def cutL (d : DK) (j : JN) : Nat → DK × JN
  | 0 => (d, j)
  | k + 1 =>
    let j1 := { j with held := j.held.dropLast }
    cutL (d.write (j1.place j1.next) []).1 j1 k
def jcut (d : DK) (j : JN) (k : Int) : DK × JN × Int :=
  if k < 0 ∨ (j.held.length : Int) < k then (d, j, 1)
  else if j.epoch = 4294967295 then (d, j, 42)
  else
    let (d1, j1) := cutL d.sync j k.toNat
    let j2 := { j1 with epoch := j1.epoch + 1 }
    let (d2, e) := jsave d1.sync j2
    (d2, j2, e)
end Go.Sl
/- Where writers, readers, disks and journals lie. -/
namespace Go.Sl
open Go
abbrev tblA : A := cells false 0 0 (tblN.map fun x : Nat => Value.int .u32 (x : Int))
structure L3 where
  a : Option Addr
  n : Nat
  c : Nat
abbrev wrL (b o : Nat) (xs : List By) (L : L3) : List A := [cells true b o [.slice L.a L.n L.c], buf 1 L.a L.n L.c (xs.map u8)]
def wr (b o : Nat) (xs : List By) : A := ex fun L => grp (wrL b o xs L)
theorem wr_close {b o : Nat} {xs : List By} (a : Option Addr) (n c : Nat) {Γ : List A} : Imp (cells true b o [.slice a n c] :: buf 1 a n c (xs.map u8) :: Γ) (wr b o xs :: Γ) := Imp.packg (L := fun L => wrL b o xs L) ⟨a, n, c⟩
theorem wr_open {P : Program} {f : FuncId} {args : Array Value} {b o : Nat} {xs : List By} {Γ : List A} {R : Value → List A → Prop} (h : ∀ a c, Sok 1 a xs.length c (xs.map u8) → Trip P f args (cells true b o [.slice a xs.length c] :: buf 1 a xs.length c (xs.map u8) :: Γ) R) : Trip P f args (wr b o xs :: Γ) R :=
  Trip.exg (L := fun L => wrL b o xs L) fun L => Trip.bufFact (.tail _ (.head _)) fun hs => by
    obtain ⟨a, n, c⟩ := L
    have hl : xs.length = n := by have := hs.len; simpa using this
    subst hl
    exact h a c hs
abbrev rdL (b o : Nat) (xs : List By) (sh : Bool) (L : L3) : List A := [pu (Sok 1 L.a L.n L.c (xs.map u8)), cells true b o [.slice L.a L.n L.c, .bool sh], sl false L.a (xs.map u8)]
def rd (b o : Nat) (xs : List By) (sh : Bool) : A := ex fun L => grp (rdL b o xs sh L)
theorem rd_close {b o : Nat} {xs : List By} {sh : Bool} (a : Option Addr) (n c : Nat) (h : Sok 1 a n c (xs.map u8)) {Γ : List A} : Imp (cells true b o [.slice a n c, .bool sh] :: sl false a (xs.map u8) :: Γ) (rd b o xs sh :: Γ) :=
  (Imp.pu h).trans (Imp.packg (L := fun L => rdL b o xs sh L) ⟨a, n, c⟩)
theorem rd_open {P : Program} {f : FuncId} {args : Array Value} {b o : Nat} {xs : List By} {sh : Bool} {Γ : List A} {R : Value → List A → Prop} (h : ∀ a c, Sok 1 a xs.length c (xs.map u8) → Trip P f args (cells true b o [.slice a xs.length c, .bool sh] :: sl false a (xs.map u8) :: Γ) R) : Trip P f args (rd b o xs sh :: Γ) R :=
  Trip.exg (L := fun L => rdL b o xs sh L) fun L => Trip.pure fun hs => by
    obtain ⟨a, n, c⟩ := L
    have hl : xs.length = n := by have := hs.len; simpa using this
    subst hl
    exact h a c hs
/-- A part of bytes that are only read. -/
theorem Imp.cutRo {a : Option Addr} {n c : Nat} {xs : List By} (h : Sok 1 a n c (xs.map u8)) {l k m : Nat} (h1 : l ≤ k) (h2 : k ≤ n) (h3 : k ≤ m) {Γ : List A} : Imp (sl false a (xs.map u8) :: Γ) (sl false (cut a m l (l * 1)) (((xs.drop l).take (k - l)).map u8) :: sl false a (xs.map u8) :: Γ) := by
  by_cases he : (xs.drop l).take (k - l) = []
  · rw [he]; exact Imp.slEmpty
  have hl : xs.length = n := by have := h.len; simpa using this
  have hlt : l < n := by
    rcases Nat.lt_or_ge l n with h | h
    · exact h
    · exact absurd (by rw [List.drop_eq_nil_of_le (by omega)]; simp) he
  have hlk : l < k := by
    rcases Nat.lt_or_ge l k with h | h
    · exact h
    · exact absurd (by rw [Nat.sub_eq_zero_of_le h]; rfl) he
  have hp : Pl a := h.at (by omega) (by omega)
  rw [cut_pl hp (by omega)]
  intro F w t
  have t2 := Sat.dup (Pers.cells _ _ _) t
  refine Sat.cons (fun hh hc => ?_) t2
  intro i v hv
  simp only [blk, off] at hc ⊢
  have hv2 : (xs.map u8)[l + i]? = some v := by
    rw [List.map_take, List.map_drop, List.getElem?_take] at hv
    split at hv
    · rw [List.getElem?_drop] at hv; exact hv
    · cases hv
  have := hc (l + i) v hv2
  rw [← Nat.add_assoc] at this
  simpa using this
theorem Sok.cutB {a : Option Addr} {n c : Nat} {xs : List By} (h : Sok 1 a n c (xs.map u8)) {l k m : Nat} (h1 : l ≤ k) (h2 : k ≤ n) (h3 : k ≤ m) : Sok 1 (Sl.cut a m l (l * 1)) (k - l) (m - l) (((xs.drop l).take (k - l)).map u8) := by
  have := h.cut h1 h2 h3
  simpa only [List.map_take, List.map_drop, Nat.mul_one] using this
/- One element of many. -/
def flatBut {α : Type} (p : Bool) (b o i k : Nat) (xs : List α) (enc : α → List Value) : A := grp [cells p b o ((xs.take i).flatMap enc), cells p b (o + i * k + k) ((xs.drop (i + 1)).flatMap enc)]
theorem flat_focus {α : Type} {p : Bool} {b o i k : Nat} {xs : List α} {enc : α → List Value} {x : α} (hk : ∀ x, (enc x).length = k) (h : xs[i]? = some x) {Γ : List A} : Imp (cells p b o (xs.flatMap enc) :: Γ) (cells p b (o + i * k) (enc x) :: flatBut p b o i k xs enc :: Γ) := by
  obtain ⟨hi, rfl⟩ := List.getElem?_eq_some_iff.1 h
  have e1 : xs.flatMap enc = (xs.take i).flatMap enc ++ (enc xs[i] ++ (xs.drop (i + 1)).flatMap enc) := by
    have := congrArg (List.flatMap enc) (List.take_append_drop i xs)
    rw [List.flatMap_append, List.drop_eq_getElem_cons hi, List.flatMap_cons] at this
    exact this.symm
  have l1 : ((xs.take i).flatMap enc).length = i * k := by rw [flat_length hk, List.length_take, Nat.min_eq_left (by omega)]
  rw [e1]
  refine (Imp.split p b o _ _ Γ).trans ?_
  rw [l1]
  refine (Imp.perm (.swap _ _ _)).trans ((Imp.split p b (o + i * k) _ _ _).trans ?_)
  rw [hk]
  refine Imp.cons _ ((Imp.perm (.swap _ _ _)).trans ?_)
  exact fun F w t => Sat.grp.2 t
theorem flat_put {α : Type} {p : Bool} {b o i k : Nat} {xs : List α} {enc : α → List Value} {y : α} (hk : ∀ x, (enc x).length = k) (hi : i < xs.length) {Γ : List A} : Imp (cells p b (o + i * k) (enc y) :: flatBut p b o i k xs enc :: Γ) (cells p b o ((xs.set i y).flatMap enc) :: Γ) := by
  have e1 : (xs.set i y).flatMap enc = (xs.take i).flatMap enc ++ (enc y ++ (xs.drop (i + 1)).flatMap enc) := by
    rw [List.set_eq_take_append_cons_drop, if_pos hi]
    simp
  have l1 : ((xs.take i).flatMap enc).length = i * k := by rw [flat_length hk, List.length_take, Nat.min_eq_left (by omega)]
  rw [e1]
  refine (Imp.cons _ (fun F w t => Sat.grp.1 t)).trans ?_
  refine (Imp.perm (show (cells p b (o + i * k) (enc y) :: ([cells p b o ((xs.take i).flatMap enc), cells p b (o + i * k + k) ((xs.drop (i + 1)).flatMap enc)] ++ Γ)).Perm (cells p b (o + i * k) (enc y) :: cells p b (o + i * k + k) ((xs.drop (i + 1)).flatMap enc) :: cells p b o ((xs.take i).flatMap enc) :: Γ) from (List.Perm.swap _ _ _).cons _)).trans ?_
  have j1 := Imp.join p b (o + i * k) (enc y) ((xs.drop (i + 1)).flatMap enc) (cells p b o ((xs.take i).flatMap enc) :: Γ)
  rw [hk] at j1
  refine j1.trans ((Imp.perm (.swap _ _ _)).trans ?_)
  have j2 := Imp.join p b o ((xs.take i).flatMap enc) (enc y ++ (xs.drop (i + 1)).flatMap enc) Γ
  rw [l1] at j2
  exact j2
theorem set_self {α : Type} {xs : List α} {i : Nat} {x : α} (h : xs[i]? = some x) : xs.set i x = xs := by
  obtain ⟨hi, rfl⟩ := List.getElem?_eq_some_iff.1 h
  simp
section
variable {P : Program} {s : St} {Γ Δ : List A} {d : Option Tmp} {ty : TypeId} {pos : String} {af : Array Edge} {g : Option (Nat × Bool)} {x y : Operand} {T : TypeId}
theorem q_loadAll {p : Bool} {b o k : Nat} {vs : List Value} (hT : ldB P T = some (some k)) (hx : ev s x = some (.pointer (some ⟨b, o, none⟩))) (hm : cells p b o vs ∈ Γ) (hk : vs.length = k) :
    Q1 P ⟨d, .load T x, ty, pos, af, g⟩ s Γ (.agg vs.toArray) := q_loadN (i := 0) hT hx hm rfl hk (by subst hk; simp)
theorem s_storeAll {b o k : Nat} {vs us : List Value} (hT : szB P T = some k) (hx : ev s x = some (.pointer (some ⟨b, o, none⟩))) (hy : ev s y = some (.agg us.toArray)) (hu : ∀ u ∈ us, u.oneCell' = true) (hk : us.length = k) (hv : vs.length = k)
    (hm : Upd Γ (cells true b o vs) (cells true b o us) Δ) : S1 P ⟨d, .store T x y, ty, pos, af, g⟩ s Γ Δ :=
  s_storeN (vs := vs) (us := us) (i := 0) hT hx hy hu hk rfl (by omega) (by rw [List.take_zero, List.nil_append, Nat.zero_add, List.drop_eq_nil_of_le (Nat.le_of_eq hv), List.append_nil]; exact hm)
end
theorem splice_all : ∀ (l pre zs : List Value), l.length = zs.length → splice (pre ++ zs) pre.length l = pre ++ l
  | [], pre, zs, h => by
    have : zs = [] := List.eq_nil_of_length_eq_zero h.symm
    simp [this, splice]
  | c :: l, pre, z :: zs, h => by
    have := splice_all l (pre ++ [c]) zs (by simpa using h)
    simp only [splice]
    rw [show (pre ++ z :: zs).set pre.length c = (pre ++ [c]) ++ zs by simp]
    rw [show pre.length + 1 = (pre ++ [c]).length by simp, this]
    simp
theorem splice_one {zs l : List Value} (h : l.length = zs.length) : splice (repZ zs 1) (0 * zs.length) (Value.agg l.toArray).cells.toList = l := by
  have := splice_all l [] zs h
  simp only [List.nil_append, List.length_nil] at this
  rw [show repZ zs 1 = zs by simp [repZ], Nat.zero_mul]
  exact this
section
variable {P : Program} {s : St} {Γ Δ : List A} {d : Option Tmp} {ty : TypeId} {pos : String} {af : Array Edge} {g : Option (Nat × Bool)} {x y z u : Operand} {T : TypeId}
/-- A slice of one aggregate. -/
theorem e_buildOne {zs cs : List Value} {by_ : Nat} (hT : mkB P T = some (zs, by_)) (hz : 0 < zs.length) (hn : Nat.ble (1 * zs.length) 16777216 = true) (hx : ev s x = some (.agg cs.toArray)) (hl : cs.length = zs.length) :
    E1 P ⟨d, .buildSlice T 1 #[(0, x)], ty, pos, af, g⟩ s Γ (newR Γ cs fun b => .slice (some ⟨b, 0, none⟩) 1 1) := by
  refine e_buildSlice (ps := [(0, x)]) (vs := [(0, .agg cs.toArray)]) hT hz hn (by simp [evp, hx]) ?_
  have h1 : (Value.agg cs.toArray).cells.size = zs.length := by show cs.toArray.size = _; simp [hl]
  have h2 : Nat.ble (0 * zs.length + zs.length) (repZ zs 1).length = true := by rw [Nat.ble_eq, repZ_length]; omega
  simp only [fillL, h1, h2, beq_self_eq_true, Bool.and_self]
  rw [splice_one hl]
theorem q_sliceAll {b o sz n : Nat} (hT : arB P T = some (n, sz)) (hx : ev s x = some (.pointer (some ⟨b, o, none⟩))) :
    Q1 P ⟨d, .slice T x none none none, ty, pos, af, g⟩ s Γ (.slice (some ⟨b, o, none⟩) n n) := by
  have := q_sliceA (P := P) (d := d) (ty := ty) (pos := pos) (af := af) (g := g) (Γ := Γ) (lo := none) (hi := none) (mx := none) (l := none) (h := none) (m := none) hT hx rfl rfl rfl (by simp) (by simp) (by simp) (by simp) (by simp)
  simp only [Option.getD_none, Int.toNat_natCast, Int.toNat_zero, Nat.zero_mul, Nat.sub_zero, cut_zero] at this
  exact this
theorem q_sliceAHi {b o sz n j : Nat} {hi : Operand} {k : IntKind} (hT : arB P T = some (n, sz)) (hx : ev s x = some (.pointer (some ⟨b, o, none⟩))) (hh : ev s hi = some (.int k (j : Int))) (h1 : j ≤ n) :
    Q1 P ⟨d, .slice T x none (some hi) none, ty, pos, af, g⟩ s Γ (.slice (some ⟨b, o, none⟩) j n) := by
  have := q_sliceA (P := P) (d := d) (ty := ty) (pos := pos) (af := af) (g := g) (Γ := Γ) (lo := none) (hi := some hi) (mx := none) (l := none) (h := some (j : Int)) (m := none) hT hx rfl (by simp [optV, hh]) rfl (by simp) (by simp) (by simp; omega) (by simp) (by simp)
  simp only [Option.getD_none, Option.getD_some, Int.toNat_natCast, Int.toNat_zero, Nat.zero_mul, Nat.sub_zero, cut_zero] at this
  exact this
theorem e_copyRd {e sz : Nat} {b o i n c m : Nat} {sT : TypeId} {v : Value} {vs news : List Value} (hT : slB P T = some (e, sz)) (hx : ev s x = some (.slice (some ⟨b, o + i, none⟩) n c)) (hy : ev s y = some v) (hr : Rd P sz Γ v m news) (hmn : m ≤ n)
    (h1 : ∀ q ∈ news, q.oneCell' = true) (hl : i + m * sz ≤ vs.length) (hm : Upd Γ (cells true b o vs) (cells true b o (vs.take i ++ news ++ vs.drop (i + m * sz))) Δ) :
    E1 P ⟨d, .call { callee := .builtin .copy, args := #[x, y], argTypes := #[T, sT] }, ty, pos, af, g⟩ s Γ (fun v Δ' => v = .int .i64 (m : Nat) ∧ Δ' = Δ) := by
  obtain ⟨⟨a', c', rfl⟩, h2, h3⟩ := hr
  have hmin : min m n = m := Nat.min_eq_left hmn
  have := e_copy (d := d) (ty := ty) (pos := pos) (af := af) (g := g) (sT := sT) (vs := vs) (news := news) hT hx hy (by rw [hmin]; exact h3) (by rw [hmin]; exact h2) h1 (by rw [h2]; exact hl) (by rw [h2]; exact hm)
  rw [hmin] at this
  exact this
end
theorem drop_step {α : Type} {xs : List α} {k : Nat} {x : α} (h : xs[k]? = some x) : xs.drop k = x :: xs.drop (k + 1) := by
  obtain ⟨hi, rfl⟩ := List.getElem?_eq_some_iff.1 h
  exact List.drop_eq_getElem_cons hi
theorem pickOf_le (ps : List Int) : pickOf ps ≤ 64 := by
  cases ps with
  | nil => simp [pickOf]
  | cons x r => simp only [pickOf]; omega
theorem take_one (k : Nat) (vs : List Value) (h : ∀ q ∈ vs, q.oneCell' = true) : ∀ q ∈ vs.take k, q.oneCell' = true := fun q hq => h q (List.mem_of_mem_take hq)
theorem take_part (w : Nat × Sec) (p : Nat) : ((encW w).drop 1).take ((encS w.2).take p).length = (encS w.2).take p := by
  show (encS w.2).take _ = _
  rw [List.length_take, encS_len]
  by_cases h : p ≤ 64
  · rw [Nat.min_eq_left h]
  · rw [Nat.min_eq_right (by omega), List.take_of_length_le (by rw [encS_len]; omega), List.take_of_length_le (by rw [encS_len]; omega)]
theorem torn_enc (p : Nat) (w s : Sec) : (encS w).take p ++ (encS s).drop p = encS (torn p w s) := by
  simp only [encS, torn, List.map_append, List.map_take, List.map_drop]
/- Disks. -/
structure DL where
  sa : Option Addr
  sc : Nat
  ua : Option Addr
  uc : Nat
  pa : Option Addr
  pc : Nat
abbrev diskC (d : DK) (L : DL) : List Value := [.slice L.sa d.seen.length L.sc, .slice L.ua d.sure.length L.uc, .slice L.pa d.pend.length L.pc, .int .i64 d.fuse, .bool d.down]
structure DOk (d : DK) (L : DL) : Prop where
  s : Sok 64 L.sa d.seen.length L.sc (d.seen.flatMap encS)
  u : Sok 64 L.ua d.sure.length L.uc (d.sure.flatMap encS)
abbrev diskL (b : Nat) (d : DK) (L : DL) : List A := [pu (DOk d L), cells true b 0 (diskC d L), sl true L.sa (d.seen.flatMap encS), sl true L.ua (d.sure.flatMap encS), buf 65 L.pa d.pend.length L.pc (d.pend.flatMap encW)]
def disk (b : Nat) (d : DK) : A := ex fun L => grp (diskL b d L)
/-- What holds of all disks here. -/
structure DK.ok (d : DK) : Prop where
  n : d.seen.length ≤ 512
  same : d.sure.length = d.seen.length
  idx : ∀ w ∈ d.pend, w.1 < d.seen.length
  fr : -9223372036854775808 ≤ d.fuse ∧ d.fuse ≤ 9223372036854775807
theorem disk_close {b : Nat} {d : DK} (L : DL) (h : DOk d L) {Γ : List A} : Imp (cells true b 0 (diskC d L) :: sl true L.sa (d.seen.flatMap encS) :: sl true L.ua (d.sure.flatMap encS) :: buf 65 L.pa d.pend.length L.pc (d.pend.flatMap encW) :: Γ) (disk b d :: Γ) :=
  (Imp.pu h).trans (Imp.packg (L := fun L => diskL b d L) L)
theorem disk_open {P : Program} {f : FuncId} {args : Array Value} {b : Nat} {d : DK} {Γ : List A} {R : Value → List A → Prop} (h : ∀ L, DOk d L → Trip P f args (cells true b 0 (diskC d L) :: sl true L.sa (d.seen.flatMap encS) :: sl true L.ua (d.sure.flatMap encS) :: buf 65 L.pa d.pend.length L.pc (d.pend.flatMap encW) :: Γ) R) : Trip P f args (disk b d :: Γ) R :=
  Trip.exg (L := fun L => diskL b d L) fun L => Trip.pure (h L)
theorem encW_one (w : Nat × Sec) : ∀ q ∈ encW w, q.oneCell' = true := by
  intro q hq
  rcases List.mem_cons.1 hq with rfl | hq
  · rfl
  · exact u8_one _ q hq
theorem encS_one (w : Sec) : ∀ q ∈ encS w, q.oneCell' = true := u8_one _
theorem flatS_one (l : List Sec) : ∀ q ∈ l.flatMap encS, q.oneCell' = true := by
  intro q hq
  obtain ⟨m, -, hm⟩ := List.mem_flatMap.1 hq
  exact encS_one m q hm
theorem zeros_flat (n : Nat) (zs : List Value) (h : zs = encS .zero) : repZ zs n = (List.replicate n Sec.zero).flatMap encS := by
  subst h
  induction n with
  | zero => rfl
  | succ n ih => simp only [repZ, ih, List.replicate_succ, List.flatMap_cons]
theorem pad_val (xs : List By) (h : xs.length ≤ 64) : (pad xs).1 = xs ++ List.replicate (64 - xs.length) 0 := by
  simp only [pad]
  rw [List.take_append, List.take_of_length_le (by omega), List.take_replicate]
  congr 2
  omega
theorem drop_encW (k : Nat) (s : Sec) : ((encW (k, s)).drop 1).take 64 = encS s := by
  show (encS s).take 64 = encS s
  exact List.take_of_length_le (by rw [encS_len]; omega)
theorem pad_copy (k : Nat) (xs : List By) (h : xs.length ≤ 64) : (encW (k, Sec.zero)).take 1 ++ xs.map u8 ++ (encW (k, Sec.zero)).drop (1 + xs.length) = encW (k, pad xs) := by
  have e1 : (encW (k, Sec.zero)).drop (1 + xs.length) = (encS Sec.zero).drop xs.length := by rw [Nat.add_comm]; rfl
  have e2 : (encS Sec.zero).drop xs.length = (List.replicate (64 - xs.length) (0 : By)).map u8 := by
    show ((List.replicate 64 (0 : By)).map u8).drop xs.length = _
    rw [← List.map_drop, List.drop_replicate]
  rw [e1, e2]
  show [Value.int .i64 ((k : Nat) : Int)] ++ xs.map u8 ++ _ = Value.int .i64 ((k : Nat) : Int) :: (pad xs).1.map u8
  rw [pad_val xs h, List.map_append]
  rfl
/- Rounds. -/
theorem assignQ_n {P : Program} {n l : Nat} {rec : Loop} {R : Value → List A → Prop} {s : St} {Γ : List A} {c : Code} (Δ : List A) (i : Imp Γ (objc true l (.loop rec) :: Δ)) (hb : rec.body = c) (h : WPR P n l c s (objc true l (.loop { rec with state := .busy }) :: Δ) (roundQ l rec R)) : assignQ P n l rec R .normal s Γ := ⟨Δ, i, hb ▸ h⟩
theorem roundQ_n {l : Nat} {rec : Loop} {R : Value → List A → Prop} {s : St} {Γ : List A} (Δ : List A) (i : Imp Γ (objc true l (.loop { rec with state := .busy }) :: Δ)) (h : R (.bool true) (objc true l (.loop rec) :: Δ)) : roundQ l rec R .normal s Γ := ⟨Δ, i, h⟩
theorem wanted_yes {n : Nat} {s : St} {ops : Array Oper} {o : Oper} {j t : Nat} {b : Bool} (hg : o.guard = some (j, b)) (hj : (ops[j]?).bind (·.dst) = some t) (hv : getE s.env t = some (.bool b)) : ∀ a : Act, Ok n s a → Region.wanted o (yielded ops a.tmps) = true := fun a ok => by
  simp [Region.wanted, hg, yielded_of ok hj hv]
/- Slots. -/
abbrev outL (bo : Nat) (r : SR) (L : Option Addr × Nat) : List A := [pu (Sok 1 L.1 r.b.length L.2 (r.b.map u8)), cells true bo 0 [.int .i64 r.at_, .int .u32 (r.seq : Int), .slice L.1 r.b.length L.2], sl false L.1 (r.b.map u8)]
def outA (bo : Nat) (r : SR) : A := ex fun L => grp (outL bo r L)
theorem outA_close {bo : Nat} {r : SR} (a : Option Addr) (c : Nat) (h : Sok 1 a r.b.length c (r.b.map u8)) {Γ : List A} : Imp (cells true bo 0 [.int .i64 r.at_, .int .u32 (r.seq : Int), .slice a r.b.length c] :: sl false a (r.b.map u8) :: Γ) (outA bo r :: Γ) :=
  (Imp.pu h).trans (Imp.packg (L := fun L => outL bo r L) (a, c))
def pOk (s : List By) : Bool := (parse s).isSome
def pS (s : List By) : Nat := ((parse s).map (·.1)).getD 0
def pE (s : List By) : Nat := ((parse s).map (·.2.1)).getD 0
def pB (s : List By) : List By := ((parse s).map (·.2.2)).getD []
theorem pcase (s : List By) : (pOk s = true ∧ pE s = 0) ∨ (pOk s = true ∧ pE s ≠ 0) ∨ pOk s = false := by
  cases pOk s with
  | false => exact .inr (.inr rfl)
  | true => by_cases h : pE s = 0; exact .inl ⟨rfl, h⟩; exact .inr (.inl ⟨rfl, h⟩)
theorem parse_lt {s : List By} {seq ep : Nat} {b : List By} (h : parse s = some (seq, ep, b)) : 0 < seq ∧ seq < 4294967296 ∧ ep < 4294967296 ∧ b.length ≤ 43 := by
  unfold parse at h
  split at h
  · cases h
  · rename_i hn
    simp only [Option.some.injEq, Prod.mk.injEq] at h
    obtain ⟨rfl, rfl, rfl⟩ := h
    have h0 := num_lt s 0 4
    have h4 := num_lt s 4 4
    refine ⟨by omega, h0, h4, ?_⟩
    simp only [part, List.length_take]
    omega
theorem lastStep_of {d : DK} {i : Int} {out : SR} {s : Sec} (h : d.read i = some s) : lastStep d i out = if pOk s.1 = true ∧ pE s.1 = 0 ∧ out.seq < pS s.1 then ⟨i, pS s.1, pB s.1⟩ else out := by
  unfold lastStep
  rw [h]
  simp only [Option.bind_some]
  obtain ⟨q, hq⟩ : ∃ q, parse s.1 = q := ⟨_, rfl⟩
  have e1 : pOk s.1 = q.isSome := by rw [← hq]; rfl
  have e2 : pE s.1 = (q.map (·.2.1)).getD 0 := by rw [← hq]; rfl
  have e3 : pS s.1 = (q.map (·.1)).getD 0 := by rw [← hq]; rfl
  have e4 : pB s.1 = (q.map (·.2.2)).getD [] := by rw [← hq]; rfl
  rw [hq, e4]
  simp only [e1, e2, e3]
  cases q with
  | none => simp
  | some t =>
    obtain ⟨a, b, c⟩ := t
    simp
def lastK (d : DK) (at_ : Int) (out : SR) : Nat → SR
  | 0 => out
  | k + 1 => lastStep d (at_ + k) (lastK d at_ out k)
theorem last_eq (d : DK) (i : Int) : lastK d i ⟨i + 1, 0, []⟩ 2 = last d i := by
  show lastStep d (i + ((1 : Nat) : Int)) (lastStep d (i + ((0 : Nat) : Int)) _) = lastStep d (i + 1) (lastStep d i _)
  simp [lastK]
theorem read_in {d : DK} {i : Int} (h : 0 ≤ i ∧ i < (d.seen.length : Int)) : ∃ s, d.read i = some s := by
  refine ⟨d.seen[i.toNat]'(by omega), ?_⟩
  unfold DK.read
  rw [if_pos h]
  simp
theorem pS_lt (s : List By) : pS s < 4294967296 ∧ pE s < 4294967296 := by
  unfold pS pE
  cases hp : parse s with
  | none => simp
  | some t =>
    obtain ⟨a, b, c⟩ := t
    have := parse_lt hp
    exact ⟨this.2.1, this.2.2.1⟩
/- What the disk's operations keep. -/
theorem flush_len : ∀ (ws : List (Nat × Sec)) (s : List Sec), (flush s ws).length = s.length
  | [], _ => rfl
  | w :: ws, s => by simp only [flush]; rw [flush_len ws, List.length_set]
theorem crashL_len : ∀ (ws : List (Nat × Sec)) (s : List Sec) (ps : List Int), (crashL s ws ps).length = s.length
  | [], _, _ => rfl
  | w :: ws, s, ps => by simp only [crashL]; rw [crashL_len ws, List.length_set]
theorem DK.ok.done {d : DK} (h : d.ok) : d.done.ok := ⟨h.n, h.same, h.idx, by have := h.fr; simp only [DK.done]; omega⟩
theorem DK.ok.sync {d : DK} (h : d.ok) : d.sync.ok := by
  unfold DK.sync
  split
  · exact h.done
  · exact ⟨h.n, by show (flush d.sure d.pend).length = _; rw [flush_len]; exact h.same, fun w hw => by simp at hw, h.done.fr⟩
theorem sync_len (d : DK) : d.sync.seen.length = d.seen.length := by
  unfold DK.sync
  split <;> rfl
theorem sync_pend (d : DK) : d.sync.pend.length ≤ d.pend.length := by
  unfold DK.sync
  split
  · exact Nat.le_refl _
  · exact Nat.zero_le _
theorem DK.ok.write {d : DK} (h : d.ok) (i : Int) (b : List By) : (d.write i b).1.ok := by
  unfold DK.write
  split
  · exact h
  · split
    · exact h
    · split
      · exact h.done
      · rename_i h1 _ _
        have hk : i.toNat < d.seen.length := by omega
        refine ⟨by simp only [DK.put, List.length_set]; exact h.n, by simp only [DK.put, List.length_set]; exact h.same, fun w hw => ?_, h.done.fr⟩
        simp only [DK.put, List.length_set]
        rcases List.mem_append.1 hw with hw | hw
        · exact h.idx w hw
        · rw [List.mem_singleton.1 hw]; exact hk
theorem write_len (d : DK) (i : Int) (b : List By) : (d.write i b).1.seen.length = d.seen.length := by
  unfold DK.write
  split
  · rfl
  · split
    · rfl
    · split
      · rfl
      · simp [DK.put, DK.done]
theorem write_pend (d : DK) (i : Int) (b : List By) : (d.write i b).1.pend.length ≤ d.pend.length + 1 := by
  unfold DK.write
  split
  · exact Nat.le_succ _
  · split
    · exact Nat.le_succ _
    · split
      · simp [DK.done]
      · simp [DK.put, DK.done]
theorem DK.ok.crash {d : DK} (h : d.ok) (ps : List Int) : (d.crash ps).ok := by
  unfold DK.crash
  exact ⟨by show (crashL _ _ _).length ≤ _; rw [crashL_len, h.same]; exact h.n, rfl, fun w hw => by simp at hw, by show -9223372036854775808 ≤ (-1 : Int) ∧ (-1 : Int) ≤ _; omega⟩
theorem crash_len {d : DK} (h : d.ok) (ps : List Int) : (d.crash ps).seen.length = d.seen.length := by
  show (crashL _ _ _).length = _
  rw [crashL_len, h.same]
theorem put_ok {d : DK} (h : d.ok) (i : Int) (b : List By) : (put d i b).1.ok := by
  unfold put
  split
  · exact h
  · split
    · exact h
    · split
      · exact h
      · exact h.sync.write _ _
theorem put_len (d : DK) (i : Int) (b : List By) : (put d i b).1.seen.length = d.seen.length := by
  unfold put
  split
  · rfl
  · split
    · rfl
    · split
      · rfl
      · rw [write_len, sync_len]
theorem put_pend (d : DK) (i : Int) (b : List By) : (put d i b).1.pend.length ≤ d.pend.length + 1 := by
  unfold put
  split
  · show d.pend.length ≤ _; omega
  · split
    · show d.pend.length ≤ _; omega
    · split
      · show d.pend.length ≤ _; omega
      · have h1 := write_pend d.sync (2 * i + 1 - (last d i).at_) (stamp ((last d i).seq + 1) 0 b)
        have h2 := sync_pend d
        omega
theorem save_ok {d : DK} (h : d.ok) (i : Int) (b : List By) : (save d i b).1.ok := by
  unfold save
  split
  · exact (put_ok h i b).sync
  · exact put_ok h i b
theorem save_len (d : DK) (i : Int) (b : List By) : (save d i b).1.seen.length = d.seen.length := by
  unfold save
  split
  · show ((put d i b).1.sync).seen.length = _; rw [sync_len, put_len]
  · exact put_len d i b
theorem save_pend (d : DK) (i : Int) (b : List By) : (save d i b).1.pend.length ≤ d.pend.length + 1 := by
  have h := put_pend d i b
  unfold save
  split
  · show ((put d i b).1.sync).pend.length ≤ _
    have := sync_pend (put d i b).1
    omega
  · exact h
theorem lastStep_at (d : DK) (i : Int) (r : SR) : (lastStep d i r).at_ = i ∨ (lastStep d i r).at_ = r.at_ := by
  unfold lastStep
  split
  · split
    · exact .inl rfl
    · exact .inr rfl
  · exact .inr rfl
theorem last_at (d : DK) (i : Int) : (last d i).at_ = i ∨ (last d i).at_ = i + 1 := by
  unfold last
  rcases lastStep_at d (i + 1) (lastStep d i ⟨i + 1, 0, []⟩) with h | h
  · exact .inr h
  · rcases lastStep_at d i ⟨i + 1, 0, []⟩ with h2 | h2
    · exact .inl (h.trans h2)
    · exact .inr (h.trans h2)
theorem lastStep_lt {d : DK} {i : Int} {r : SR} (h : r.seq < 4294967296 ∧ r.b.length ≤ 43) : (lastStep d i r).seq < 4294967296 ∧ (lastStep d i r).b.length ≤ 43 := by
  unfold lastStep
  split
  · rename_i seq ep b hb
    split
    · obtain ⟨s, -, hp⟩ := Option.bind_eq_some_iff.1 hb
      have := parse_lt hp
      exact ⟨this.2.1, this.2.2.2⟩
    · exact h
  · exact h
theorem last_lt (d : DK) (i : Int) : (last d i).seq < 4294967296 ∧ (last d i).b.length ≤ 43 := lastStep_lt (lastStep_lt ⟨by show 0 < _; omega, by show 0 ≤ _; omega⟩)
theorem right_in {d : DK} {i : Int} (h : 0 ≤ i ∧ i + 1 < (d.seen.length : Int)) : right_ d i = true := by
  simp only [right_, Bool.and_eq_true, decide_eq_true_eq]; omega
/- Journals. -/
structure JR where
  ep : Nat
  x : BS
abbrev encR (r : JR) : List Value := [.int .u32 (r.ep : Int), .slice r.x.a r.x.n r.x.c]
theorem encR_len (r : JR) : (encR r).length = 2 := rfl
abbrev jrP (r : JR) : Nat × List By := (r.ep, r.x.bs)
structure JL where
  rs : List JR
  a : Option Addr
  c : Nat
abbrev jourC (db : Nat) (j : JN) (L : JL) : List Value := [.pointer (some ⟨db, 0, none⟩), .int .i64 (j.at_ : Int), .int .i64 (j.n : Int), .int .u32 (j.first : Int), .int .u32 (j.epoch : Int), .int .u32 (j.low : Int), .slice L.a L.rs.length L.c]
structure JOk (j : JN) (L : JL) : Prop where
  held : L.rs.map jrP = j.held
  ok : ∀ r ∈ L.rs, r.x.ok
theorem JOk.len {j : JN} {L : JL} (h : JOk j L) : L.rs.length = j.held.length := by rw [← h.held, List.length_map]
abbrev jourL (b db : Nat) (j : JN) (L : JL) : List A := [pu (JOk j L), cells true b 0 (jourC db j L), buf 2 L.a L.rs.length L.c (L.rs.flatMap encR), bytes (L.rs.map (·.x))]
def jour (b db : Nat) (j : JN) : A := ex fun L => grp (jourL b db j L)
theorem jour_close {b db : Nat} {j : JN} (L : JL) (h : JOk j L) {Γ : List A} : Imp (cells true b 0 (jourC db j L) :: buf 2 L.a L.rs.length L.c (L.rs.flatMap encR) :: bytes (L.rs.map (·.x)) :: Γ) (jour b db j :: Γ) :=
  (Imp.pu h).trans (Imp.packg (L := fun L => jourL b db j L) L)
theorem jour_open {P : Program} {f : FuncId} {args : Array Value} {b db : Nat} {j : JN} {Γ : List A} {R : Value → List A → Prop} (h : ∀ L, JOk j L → Trip P f args (cells true b 0 (jourC db j L) :: buf 2 L.a L.rs.length L.c (L.rs.flatMap encR) :: bytes (L.rs.map (·.x)) :: Γ) R) : Trip P f args (jour b db j :: Γ) R :=
  Trip.exg (L := fun L => jourL b db j L) fun L => Trip.pure (h L)
/-- What holds of all journals here. -/
structure JN.ok (j : JN) (d : DK) : Prop where
  n : 1 ≤ j.n ∧ j.n ≤ 100
  at_ : j.at_ + 2 + j.n ≤ d.seen.length
  first : j.first < 4294967296
  epoch : j.epoch < 4294967296
  low : j.low < 4294967296
  held : j.held.length ≤ j.n
  eps : ∀ x ∈ j.held, x.1 < 4294967296
theorem getD_lt {l : List (Nat × List By)} (h : ∀ x ∈ l, x.1 < 4294967296) (i : Nat) : ((l[i]?).getD (0, [])).1 < 4294967296 := by
  cases hh : l[i]? with
  | none => simp
  | some x => exact h x (List.mem_of_getElem? hh)
theorem encR_one (l : List JR) : ∀ q ∈ l.flatMap encR, q.oneCell' = true := by
  intro q hq
  obtain ⟨m, -, hm⟩ := List.mem_flatMap.1 hq
  simp only [encR, List.mem_cons, List.not_mem_nil, or_false] at hm
  rcases hm with h | h <;> subst h <;> rfl
/- Three numbers of a slot. -/
def T1 (xs : List By) := rtake xs false 4
def T2 (xs : List By) := rtake (T1 xs).2.1 (T1 xs).2.2 4
def T3 (xs : List By) := rtake (T2 xs).2.1 (T2 xs).2.2 4
theorem rnum_lt (xs : List By) (sh : Bool) : ofLE (rtake xs sh 4).1 < 4294967296 := by
  have h := ofLE_lt (rtake xs sh 4).1
  have h2 := rtake_len xs sh 4
  exact Nat.lt_of_lt_of_le h (Nat.pow_le_pow_right (n := 2) (j := 32) (by omega) (by omega))
theorem T3_twelve {xs : List By} (h : xs.length = 12) : (T3 xs).2.2 = false ∧ (T3 xs).2.1 = [] ∧ ofLE (T1 xs).1 = num xs 0 4 ∧ ofLE (T2 xs).1 = num xs 4 4 ∧ ofLE (T3 xs).1 = num xs 8 4 := by
  have e1 : T1 xs = (xs.take 4, xs.drop 4, false) := by unfold T1 rtake; rw [if_neg (by simp; omega)]
  have e2 : T2 xs = ((xs.drop 4).take 4, xs.drop 8, false) := by unfold T2; rw [e1]; unfold rtake; rw [if_neg (by simp; omega)]; simp
  have e3 : T3 xs = ((xs.drop 8).take 4, xs.drop 12, false) := by unfold T3; rw [e2]; unfold rtake; rw [if_neg (by simp; omega)]; simp
  rw [e3, e2, e1]
  refine ⟨rfl, List.drop_eq_nil_of_le (by omega), rfl, rfl, rfl⟩
theorem T3_only {xs : List By} (h1 : (T3 xs).2.2 = false) (h2 : (T3 xs).2.1 = []) : xs.length = 12 := by
  have key : ∀ (ys : List By) (sh : Bool), (rtake ys sh 4).2.2 = false → sh = false ∧ 4 ≤ ys.length ∧ (rtake ys sh 4).2.1 = ys.drop 4 := by
    intro ys sh h
    unfold rtake at h ⊢
    split at h
    · simp at h
    · rename_i hn
      rw [if_neg hn]
      simp at hn
      exact ⟨hn.1, hn.2, rfl⟩
  obtain ⟨a1, a2, a3⟩ := key _ _ h1
  obtain ⟨b1, b2, b3⟩ := key _ _ a1
  obtain ⟨c1, c2, c3⟩ := key _ _ b1
  have e1 : (T1 xs).2.1 = xs.drop 4 := c3
  have e2 : (T2 xs).2.1 = (xs.drop 4).drop 4 := by rw [show (T2 xs).2.1 = _ from b3, e1]
  have e3 : (T3 xs).2.1 = ((xs.drop 4).drop 4).drop 4 := by rw [show (T3 xs).2.1 = _ from a3, e2]
  have e4 : 4 ≤ ((xs.drop 4).drop 4).length := by rw [← e2]; exact a2
  have e5 := congrArg List.length (e3.symm.trans h2)
  simp at e4 e5
  omega
def JN.withMeta (j : JN) (xs : List By) : JN := { j with first := ofLE (T1 xs).1, epoch := ofLE (T2 xs).1, low := ofLE (T3 xs).1 }
theorem T_len (xs : List By) : (T1 xs).2.1.length ≤ xs.length ∧ (T2 xs).2.1.length ≤ xs.length ∧ (T3 xs).2.1.length ≤ xs.length := by
  have key : ∀ (ys : List By) (sh : Bool), (rtake ys sh 4).2.1.length ≤ ys.length := by
    intro ys sh; unfold rtake; split <;> simp
  have h1 := key xs false
  have h2 := key (T1 xs).2.1 (T1 xs).2.2
  have h3 := key (T2 xs).2.1 (T2 xs).2.2
  exact ⟨h1, Nat.le_trans h2 h1, Nat.le_trans h3 (Nat.le_trans h2 h1)⟩
def scanOk (s : List By) (low next epoch : Nat) : Prop := pOk s = true ∧ pS s = next ∧ low ≤ pE s ∧ pE s ≤ epoch
theorem scanL_yes {d : DK} {at_ n epoch f low next : Nat} {s : Sec} (hr : d.read ((at_ + 2 + next % n : Nat) : Int) = some s) (hn : next ≤ 4294967295) (h : scanOk s.1 low next epoch) : scanL d at_ n epoch (f + 1) low next = (pE s.1, pB s.1) :: scanL d at_ n epoch f (pE s.1) (next + 1) := by
  obtain ⟨h1, h2, h3, h4⟩ := h
  simp only [scanL]
  rw [if_pos hn, hr]
  simp only [Option.bind_some]
  unfold pOk at h1
  unfold pS at h2
  unfold pE at h3 h4 ⊢
  unfold pB
  cases hp : parse s.1 with
  | none => rw [hp] at h1; cases h1
  | some t =>
    obtain ⟨a, b, c⟩ := t
    rw [hp] at h2 h3 h4
    simp at h2 h3 h4
    simp [h2, h3, h4]
theorem scanL_no {d : DK} {at_ n epoch f low next : Nat} {s : Sec} (hr : d.read ((at_ + 2 + next % n : Nat) : Int) = some s) (h : ¬ scanOk s.1 low next epoch) : scanL d at_ n epoch (f + 1) low next = [] := by
  simp only [scanL]
  split
  · rw [hr]
    simp only [Option.bind_some]
    unfold scanOk pOk pS pE at h
    cases hp : parse s.1 with
    | none => rfl
    | some t =>
      obtain ⟨a, b, c⟩ := t
      rw [hp] at h
      simp at h
      simp
      intro h1 h2
      have := h h1 h2
      omega
  · rfl
theorem scanL_far {d : DK} {at_ n epoch f low next : Nat} (h : 4294967295 < next) : scanL d at_ n epoch f low next = [] := by
  cases f with
  | zero => rfl
  | succ f => simp only [scanL]; rw [if_neg (by omega)]
theorem rd_cut {P : Program} {Γ : List A} {ab ao c k n : Nat} {rs : List JR} {sp : List Value} (hm : cells true ab ao (rs.flatMap encR ++ sp) ∈ Γ) (hk : k ≤ n) (hn : rs.length = n) (hc : n ≤ c) : Rd P 2 Γ (.slice (cut (some ⟨ab, ao, none⟩) c k (k * 2)) (n - k) (c - k)) (n - k) ((rs.drop k).flatMap encR) := by
  by_cases h : k = n
  · subst h
    rw [List.drop_eq_nil_of_le (by omega), Nat.sub_self]
    exact Rd.zero
  · rw [cut_pl (Pl.mk _ _) (by omega)]
    refine Rd.part (i := k * 2) hm rfl (by rw [flat_length encR_len, List.length_drop, hn]) ?_
    have e : (rs.flatMap encR ++ sp).drop (k * 2) = (rs.drop k).flatMap encR ++ sp := by
      rw [List.drop_append_of_le_length (by rw [flat_length encR_len]; omega)]
      congr 1
      have := congrArg (List.flatMap encR) (List.take_append_drop k rs)
      rw [List.flatMap_append] at this
      rw [← this, List.drop_left' (by rw [flat_length encR_len, List.length_take]; congr 1; omega)]
    rw [e, List.take_left]
theorem del_list {k n : Nat} {rs : List JR} {sp Z : List Value} (hk : k ≤ n) (hn : rs.length = n) :
    ((rs.drop k).flatMap encR ++ (rs.flatMap encR ++ sp).drop ((n - k) * 2)).take ((n - k) * 2) ++ Z ++ ((rs.drop k).flatMap encR ++ (rs.flatMap encR ++ sp).drop ((n - k) * 2)).drop ((n - k) * 2 + k * 2) = (rs.drop k).flatMap encR ++ (Z ++ sp) := by
  have hD : ((rs.drop k).flatMap encR).length = (n - k) * 2 := by rw [flat_length encR_len, List.length_drop, hn]
  have hL : (rs.flatMap encR).length = n * 2 := by rw [flat_length encR_len, hn]
  rw [List.take_left' hD, List.append_assoc]
  congr 2
  rw [← List.drop_drop, List.drop_left' hD, List.drop_drop]
  exact List.drop_left' (by rw [hL]; omega)
theorem Imp.bufShrink {sz m n c : Nat} {a : Option Addr} {xs ys : List Value} {Γ : List A} (hl : xs.length = m * sz) (hmn : m ≤ n) : Imp (buf sz a n c (xs ++ ys) :: Γ) (buf sz a m c xs :: Γ) := fun F w t => by
  obtain ⟨h1, sp, ⟨h2, h3⟩, t⟩ := Sat.buf.1 t
  have hy : ys.length = (n - m) * sz := by
    have := h1.len
    rw [List.length_append, hl] at this
    rw [Nat.sub_mul]; omega
  refine Sat.buf.2 ⟨⟨hl, Nat.le_trans hmn h1.cap, ?_⟩, ys ++ sp, ⟨?_, h3⟩, by rw [← List.append_assoc]; exact t⟩
  · rcases h1.pl with h | h
    · left; exact (List.append_eq_nil_iff.1 h).1
    · exact .inr h
  · have := h1.cap
    rw [List.length_append, hy, h2, ← Nat.add_mul]; congr 1; omega
theorem bufAll {sz n c : Nat} {a : Option Addr} {xs : List Value} {Γ : List A} : Imp (buf sz a n c xs :: Γ) (ex (fun sp : List Value => star (pu (Sok sz a n c xs ∧ sp.length = (c - n) * sz ∧ (Pl a ∨ c = 0))) (cells true (blk a) (off a) (xs ++ sp))) :: Γ) := fun F w t => by
  obtain ⟨h1, sp, ⟨h2, h3⟩, t⟩ := Sat.buf.1 t
  exact Sat.ex.2 ⟨sp, Sat.star.2 (Sat.pure.2 ⟨⟨h1, h2, h3⟩, t⟩)⟩
theorem WPL.bufAll {P : Program} {nn : Nat} {s : St} {Γ : List A} {ops : Array Oper} {l : List Oper} {K : St → List A → Prop} {sz n c : Nat} {a : Option Addr} {xs : List Value} (h : ∀ sp, Sok sz a n c xs → sp.length = (c - n) * sz → (Pl a ∨ c = 0) → WPL P nn ops l s (cells true (blk a) (off a) (xs ++ sp) :: Γ) K) : WPL P nn ops l s (buf sz a n c xs :: Γ) K :=
  WPL.imp Sl.bufAll (WPL.ex fun sp => WPL.imp (fun F w t => Sat.star.1 t) (WPL.pure fun hh => h sp hh.1 hh.2.1 hh.2.2))
theorem cut_step {dk : DK} {j : JN} {ri : List JR} {rl : JR} {f : Nat} {X : DK × JN} (h : cutL dk { j with held := (ri ++ [rl]).map jrP } (f + 1) = X) : cutL (dk.write (({ j with held := ri.map jrP } : JN).place (j.first + ri.length)) []).1 { j with held := ri.map jrP } f = X := by
  rw [← h]
  simp only [cutL, List.map_append, List.map_cons, List.map_nil, List.dropLast_concat, JN.next, List.length_map]
theorem scanL_all {d : DK} {at_ n epoch : Nat} : ∀ (f low next : Nat), (scanL d at_ n epoch f low next).length ≤ f ∧ ∀ x ∈ scanL d at_ n epoch f low next, x.1 < 4294967296 ∧ x.2.length ≤ 43
  | 0, _, _ => ⟨Nat.le_refl _, by simp [scanL]⟩
  | f + 1, low, next => by
    simp only [scanL]
    split
    · split
      · rename_i seq ep b hb
        obtain ⟨s, -, hp⟩ := Option.bind_eq_some_iff.1 hb
        have hpl := parse_lt hp
        split
        · obtain ⟨h1, h2⟩ := scanL_all (d := d) (at_ := at_) (n := n) (epoch := epoch) f ep (next + 1)
          refine ⟨by simp; omega, fun x hx => ?_⟩
          rcases List.mem_cons.1 hx with rfl | hx
          · exact ⟨hpl.2.2.1, hpl.2.2.2⟩
          · exact h2 x hx
        · exact ⟨Nat.zero_le _, by simp⟩
      · exact ⟨Nat.zero_le _, by simp⟩
    · exact ⟨Nat.zero_le _, by simp⟩
theorem JN.ok.scanned {j : JN} {d : DK} (h : j.ok d) : (j.scanned d).ok d := by
  have hs := scanL_all (d := d) (at_ := j.at_) (n := j.n) (epoch := j.epoch) j.n j.low j.first
  exact ⟨h.n, h.at_, h.first, h.epoch, h.low, hs.1, fun x hx => (hs.2 x hx).1⟩
/- Opening. -/
def openD (d : DK) (j1 : JN) (n : Nat) : DK := if j1.held.length < n then (d.write ((j1.place j1.next : Nat) : Int) []).1 else d
def openJ (j1 : JN) : JN := { j1 with epoch := j1.epoch + 1 }
theorem jopen0_none {d : DK} {at_ n : Nat} (h : JN.begun d at_ n = none) : jopen0 d at_ n = (d, none, 41) := by
  unfold jopen0; rw [h]
theorem jopen0_full {d : DK} {at_ n : Nat} {j0 : JN} (h : JN.begun d at_ n = some j0) (he : j0.epoch = 4294967295) : jopen0 d at_ n = (d, none, 42) := by
  unfold jopen0; rw [h]; simp only [if_pos he]
theorem jopen0_err {d : DK} {at_ n : Nat} {j0 : JN} (h : JN.begun d at_ n = some j0) (he : j0.epoch ≠ 4294967295) (hs : (jsave (openD d (j0.scanned d) n) (openJ (j0.scanned d))).2 ≠ 0) :
    jopen0 d at_ n = ((jsave (openD d (j0.scanned d) n) (openJ (j0.scanned d))).1, none, (jsave (openD d (j0.scanned d) n) (openJ (j0.scanned d))).2) := by
  unfold jopen0; rw [h]; simp only [if_neg he]
  unfold openD openJ at hs ⊢
  rw [if_neg hs]
theorem jopen0_ok {d : DK} {at_ n : Nat} {j0 : JN} (h : JN.begun d at_ n = some j0) (he : j0.epoch ≠ 4294967295) (hs : (jsave (openD d (j0.scanned d) n) (openJ (j0.scanned d))).2 = 0) :
    jopen0 d at_ n = ((jsave (openD d (j0.scanned d) n) (openJ (j0.scanned d))).1, some (openJ (j0.scanned d)), 0) := by
  unfold jopen0; rw [h]; simp only [if_neg he]
  unfold openD openJ at hs ⊢
  rw [if_pos hs]
theorem openD_ok {d : DK} (h : d.ok) (j1 : JN) (n : Nat) : (openD d j1 n).ok ∧ (openD d j1 n).seen.length = d.seen.length ∧ (openD d j1 n).pend.length ≤ d.pend.length + 1 := by
  unfold openD
  split
  · exact ⟨h.write _ _, write_len _ _ _, write_pend _ _ _⟩
  · exact ⟨h, rfl, by omega⟩
def JN.fresh (at_ n : Nat) : JN := ⟨at_, n, 1, 0, 0, []⟩
theorem begun_zero {d : DK} {at_ n : Nat} (h : (last d at_).seq = 0) : JN.begun d at_ n = some (JN.fresh at_ n) := by
  unfold JN.begun; rw [if_pos h]; rfl
theorem begun_meta {d : DK} {at_ n : Nat} (h : (last d at_).seq ≠ 0) (h2 : (last d at_).b.length = 12 ∧ 0 < num (last d at_).b 0 4 ∧ num (last d at_).b 8 4 ≤ num (last d at_).b 4 4) : JN.begun d at_ n = some ((JN.fresh at_ n).withMeta (last d at_).b) := by
  unfold JN.begun
  rw [if_neg h, if_pos h2]
  obtain ⟨-, -, e1, e2, e3⟩ := T3_twelve h2.1
  unfold JN.withMeta JN.fresh
  rw [e1, e2, e3]
theorem begun_bad {d : DK} {at_ n : Nat} (h : (last d at_).seq ≠ 0) (h2 : ¬ ((last d at_).b.length = 12 ∧ 0 < num (last d at_).b 0 4 ∧ num (last d at_).b 8 4 ≤ num (last d at_).b 4 4)) : JN.begun d at_ n = none := by
  unfold JN.begun
  rw [if_neg h, if_neg h2]
theorem fresh_ok {d : DK} {at_ n : Nat} (hn : 1 ≤ n ∧ n ≤ 100) (h : at_ + 2 + n ≤ d.seen.length) : (JN.fresh at_ n).ok d := ⟨hn, h, by show 1 < _; omega, by show 0 < _; omega, by show 0 < _; omega, Nat.zero_le _, by intro x hx; cases hx⟩
theorem meta_ok {d : DK} {at_ n : Nat} (hn : 1 ≤ n ∧ n ≤ 100) (h : at_ + 2 + n ≤ d.seen.length) (xs : List By) : ((JN.fresh at_ n).withMeta xs).ok d := ⟨hn, h, rnum_lt xs false, rnum_lt _ _, rnum_lt _ _, Nat.zero_le _, by intro x hx; cases hx⟩
/- What the statements are handed. -/
structure IS where
  xs : List Int
  a : Option Addr
  n : Nat
  c : Nat
def IS.ok (x : IS) : Prop := Sok 1 x.a x.n x.c (x.xs.map (.int .i64))
theorem IS.ok.n {x : IS} (h : x.ok) : x.n = x.xs.length := by have := h.len; simp at this; omega
abbrev IS.at_ (x : IS) : A := sl false x.a (x.xs.map (.int .i64))
structure OpV where
  do_ : Int
  n : Int
  b : BS
  p : IS
abbrev encO (o : OpV) : List Value := [.int .i64 o.do_, .int .i64 o.n, bsV o.b, .slice o.p.a o.p.n o.p.c]
theorem encO_len (o : OpV) : (encO o).length = 4 := rfl
/-- Operations that can be read. -/
def OpsD (D : A) (ops : List OpV) : Prop := ∀ o ∈ ops, o.b.ok ∧ o.p.ok ∧ (∀ Γ, Imp (D :: Γ) (o.b.at_ :: D :: Γ)) ∧ (∀ Γ, Imp (D :: Γ) (o.p.at_ :: D :: Γ))
end Go.Sl
/- Plain facts: numbers in bytes, stamps, torn sectors. -/
namespace Go.Sl
open Go
theorem ofLE_le (v : Nat) : ∀ k, ofLE (le v k) = v % 2 ^ (8 * k)
  | 0 => by simp [le, ofLE, Nat.mod_one]
  | k + 1 => by
    rw [le_succ, ofLE_append, ofLE_le v k, le_length]
    have h1 : v % 2 ^ (8 * (k + 1)) = v % 2 ^ (8 * k) + 2 ^ (8 * k) * (v / 2 ^ (8 * k) % 256) := by
      rw [Nat.mul_add, Nat.mul_one, Nat.pow_add, Nat.mod_mul]
    rw [h1]
    simp [ofLE, by_]
theorem ofLE_inj : ∀ {xs ys : List By}, xs.length = ys.length → ofLE xs = ofLE ys → xs = ys
  | [], [], _, _ => rfl
  | x :: xs, y :: ys, h, e => by
    simp only [ofLE] at e
    have h1 := x.2
    have h2 := y.2
    have e1 : x.val = y.val := by omega
    have e2 : ofLE xs = ofLE ys := by omega
    rw [Fin.ext e1, ofLE_inj (by simpa using h) e2]
theorem part_append_left {xs ys : List By} {i k : Nat} (h : i + k ≤ xs.length) : part (xs ++ ys) i k = part xs i k := by
  simp only [part]
  rw [List.drop_append_of_le_length (by omega), List.take_append_of_le_length (by simp; omega)]
theorem part_append_right {xs ys : List By} {i k : Nat} (h : xs.length ≤ i) : part (xs ++ ys) i k = part ys (i - xs.length) k := by
  simp only [part]
  rw [List.drop_append, List.drop_eq_nil_of_le h, List.nil_append]
theorem part_all {xs : List By} {k : Nat} (h : xs.length = k) : part xs 0 k = xs := by subst h; simp [part]
def stampS (seq e : Nat) (b : List By) : Sec := pad (stamp seq e b)
theorem stampS_val {seq e : Nat} {b : List By} (h : b.length ≤ 43) : (stampS seq e b).1 = stamp seq e b := by
  unfold stampS
  rw [pad_val _ (by rw [stamp_length h]; omega), stamp_length h]
  simp
section
variable {seq e : Nat} {b : List By} (hb : b.length ≤ 43)
include hb
theorem stamp_parts : part (stamp seq e b) 0 4 = le seq 4 ∧ part (stamp seq e b) 4 4 = le e 4 ∧ part (stamp seq e b) 8 1 = le b.length 1 ∧ part (stamp seq e b) 9 b.length = b ∧ (stamp seq e b).take 52 = stampHead seq e b ∧ part (stamp seq e b) 52 4 = le (crc (stampHead seq e b)) 4 ∧ part (stamp seq e b) 56 4 = le seq 4 ∧ part (stamp seq e b) 60 4 = le e 4 := by
  have hh := stampHead_length (seq := seq) (epoch := e) hb
  have l4 : ∀ v, (le v 4).length = 4 := fun v => le_length v 4
  have l1 : ∀ v, (le v 1).length = 1 := fun v => le_length v 1
  refine ⟨?_, ?_, ?_, ?_, ?_, ?_, ?_, ?_⟩
  · unfold stamp; rw [part_append_left (by omega)]; unfold stampHead
    simp only [List.append_assoc]
    rw [part_append_left (by rw [l4]; omega), part_all (l4 _)]
  · unfold stamp; rw [part_append_left (by omega)]; unfold stampHead
    simp only [List.append_assoc]
    rw [part_append_right (by rw [l4]; omega), l4, part_append_left (by rw [l4]; omega), part_all (l4 _)]
  · unfold stamp; rw [part_append_left (by omega)]; unfold stampHead
    simp only [List.append_assoc]
    rw [part_append_right (by rw [l4]; omega), l4, part_append_right (by rw [l4]; omega), l4, part_append_left (by rw [l1]; omega), part_all (l1 _)]
  · unfold stamp; rw [part_append_left (by omega)]; unfold stampHead
    simp only [List.append_assoc]
    rw [part_append_right (by rw [l4]; omega), l4, part_append_right (by rw [l4]; omega), l4, part_append_right (by rw [l1]; omega), l1, part_append_left (by omega), part_all rfl]
  · unfold stamp; rw [← hh, List.take_left]
  · unfold stamp; rw [part_append_right (by omega), hh, List.append_assoc, part_append_left (by rw [l4]; omega), part_all (l4 _)]
  · unfold stamp; rw [part_append_right (by omega), hh, List.append_assoc, part_append_right (by rw [l4]; omega), l4, part_append_left (by rw [l4]; omega), part_all (l4 _)]
  · unfold stamp; rw [part_append_right (by omega), hh, List.append_assoc, part_append_right (by rw [l4]; omega), l4, part_append_right (by rw [l4]; omega), l4, part_all (l4 _)]
theorem parse_stamp (h1 : 0 < seq) (h2 : seq < 4294967296) (h3 : e < 4294967296) : parse (stampS seq e b).1 = some (seq, e, b) := by
  rw [stampS_val hb]
  obtain ⟨p0, p4, p8, p9, pt, p52, p56, p60⟩ := stamp_parts (seq := seq) (e := e) hb
  have o4 : ∀ v, v < 4294967296 → ofLE (le v 4) = v := fun v hv => by rw [ofLE_le]; exact Nat.mod_eq_of_lt hv
  have o1 : ofLE (le b.length 1) = b.length := by rw [ofLE_le]; exact Nat.mod_eq_of_lt (by show _ < 256; omega)
  have hc := crc_lt (stampHead seq e b)
  unfold parse
  simp only [num, p0, p4, p8, pt, p52, p56, p60, o4 seq h2, o4 e h3, o1, o4 _ hc, p9]
  rw [if_neg (by omega)]
end
/- The ends of a sector. -/
def tkS (c : Sec) : Nat := num c.1 56 4
def tkE (c : Sec) : Nat := num c.1 60 4
theorem tk_stamp {seq e : Nat} {b : List By} (hb : b.length ≤ 43) (h2 : seq < 4294967296) (h3 : e < 4294967296) : tkS (stampS seq e b) = seq ∧ tkE (stampS seq e b) = e := by
  obtain ⟨-, -, -, -, -, -, p56, p60⟩ := stamp_parts (seq := seq) (e := e) hb
  unfold tkS tkE num
  rw [stampS_val hb, p56, p60, ofLE_le, ofLE_le]
  exact ⟨Nat.mod_eq_of_lt h2, Nat.mod_eq_of_lt h3⟩
theorem tk_parse {c : Sec} {s e : Nat} {b : List By} (h : parse c.1 = some (s, e, b)) : tkS c = s ∧ tkE c = e ∧ num c.1 0 4 = s ∧ num c.1 4 4 = e ∧ 0 < s := by
  unfold parse at h
  split at h
  · cases h
  · rename_i hn
    simp only [Option.some.injEq, Prod.mk.injEq] at h
    obtain ⟨rfl, rfl, -⟩ := h
    unfold tkS tkE
    exact ⟨by omega, by omega, rfl, rfl, by omega⟩
theorem tk_zero : tkS Sec.zero = 0 ∧ tkE Sec.zero = 0 := by constructor <;> rfl
theorem pad_nil : pad [] = Sec.zero := by
  apply Subtype.ext; rw [pad_val [] (by simp)]; rfl
theorem part_torn {p i k : Nat} {new old : Sec} (hp : p ≤ 64) (h : i + k ≤ p) : part (torn p new old).1 i k = part new.1 i k := by
  have h1 : part (torn p new old).1 i k = part (new.1.take p ++ old.1.drop p) i k := rfl
  rw [h1, part_append_left (by rw [List.length_take, new.2]; omega)]
  simp only [part]
  rw [List.drop_take, List.take_take, Nat.min_eq_left (by omega)]
theorem part_torn' {p i k : Nat} {new old : Sec} (hp : p ≤ 64) (h : p ≤ i) : part (torn p new old).1 i k = part old.1 i k := by
  have hl : (new.1.take p).length = p := by rw [List.length_take, new.2]; omega
  have h1 : part (torn p new old).1 i k = part (new.1.take p ++ old.1.drop p) i k := rfl
  rw [h1, part_append_right (by omega), hl]
  simp only [part]
  rw [List.drop_drop]
  congr 2
  omega
theorem sec_parts (c : Sec) : c.1 = c.1.take 56 ++ (part c.1 56 4 ++ part c.1 60 4) := by
  have h := c.2
  have e1 : part c.1 56 4 ++ part c.1 60 4 = c.1.drop 56 := by
    simp only [part]
    rw [show c.1.drop 60 = (c.1.drop 56).drop 4 by rw [List.drop_drop]]
    rw [List.take_of_length_le (l := (c.1.drop 56).drop 4) (by simp; omega), List.take_append_drop]
  rw [e1, List.take_append_drop]
/-- A torn sector that is taken is the new one, or has the old one's ends. -/
theorem torn_taken {p seq e s' e' : Nat} {b b' : List By} {old : Sec} (hp : p ≤ 64) (hb : b.length ≤ 43) (h : parse (torn p (stampS seq e b) old).1 = some (s', e', b')) : torn p (stampS seq e b) old = stampS seq e b ∨ (tkS old = s' ∧ tkE old = e') := by
  obtain ⟨t1, t2, t3, t4, t5⟩ := tk_parse h
  by_cases hp56 : p ≤ 56
  · right
    unfold tkS tkE num at *
    rw [part_torn' hp (by omega)] at t1 t2
    exact ⟨t1, t2⟩
  · left
    obtain ⟨p0, p4, -, -, -, -, p56, p60⟩ := stamp_parts (seq := seq) (e := e) hb
    rw [← stampS_val hb] at p0 p4 p56 p60
    have l56 : ∀ c : Sec, (part c.1 56 4).length = 4 := fun c => by have := c.2; simp [part]; omega
    have l60 : ∀ c : Sec, (part c.1 60 4).length = 4 := fun c => by have := c.2; simp [part]; omega
    have q0 : part (torn p (stampS seq e b) old).1 0 4 = le seq 4 := by rw [part_torn hp (by omega), p0]
    have q4 : part (torn p (stampS seq e b) old).1 4 4 = le e 4 := by rw [part_torn hp (by omega), p4]
    have r1 : part (torn p (stampS seq e b) old).1 56 4 = le seq 4 := by
      apply ofLE_inj (by rw [l56, le_length])
      rw [← q0]
      exact t1.trans t3.symm
    have r2 : part (torn p (stampS seq e b) old).1 60 4 = le e 4 := by
      apply ofLE_inj (by rw [l60, le_length])
      rw [← q4]
      exact t2.trans t4.symm
    apply Subtype.ext
    rw [sec_parts (torn p (stampS seq e b) old), sec_parts (stampS seq e b), r1, r2, p56, p60]
    congr 1
    have hh := part_torn (i := 0) (k := 56) (new := stampS seq e b) (old := old) hp (by omega)
    simpa [part] using hh
theorem ofLE_drop (xs : List By) (q : Nat) (hq : q ≤ xs.length) : ofLE (xs.drop q) = ofLE xs / 2 ^ (8 * q) := by
  have h1 := ofLE_append (xs.take q) (xs.drop q)
  rw [List.take_append_drop, List.length_take, Nat.min_eq_left hq] at h1
  have h2 := ofLE_lt (xs.take q)
  rw [List.length_take, Nat.min_eq_left hq] at h2
  rw [h1, Nat.add_mul_div_left _ _ (Nat.two_pow_pos _), Nat.div_eq_of_lt h2, Nat.zero_add]
theorem mix_le {xs ys : List By} (hl : xs.length = ys.length) (q : Nat) (hq : q ≤ xs.length) (h : ofLE ys ≤ ofLE xs) : ofLE (xs.take q ++ ys.drop q) ≤ ofLE xs := by
  have h1 := ofLE_append (xs.take q) (xs.drop q)
  rw [List.take_append_drop] at h1
  rw [ofLE_append, h1]
  have : ofLE (ys.drop q) ≤ ofLE (xs.drop q) := by
    rw [ofLE_drop _ _ hq, ofLE_drop _ _ (by omega)]
    exact Nat.div_le_div_right h
  exact Nat.add_le_add_left (Nat.mul_le_mul_left _ this) _
theorem tkE_torn {p : Nat} {new old : Sec} (hp : p ≤ 64) (h : tkE old ≤ tkE new) : tkE (torn p new old) ≤ tkE new := by
  by_cases hp60 : p ≤ 60
  · have : tkE (torn p new old) = tkE old := by unfold tkE num; rw [part_torn' hp hp60]
    omega
  · have hn := new.2
    have ho := old.2
    have e1 : part (torn p new old).1 60 4 = (part new.1 60 4).take (p - 60) ++ (part old.1 60 4).drop (p - 60) := by
      have hl : (new.1.take p).length = p := by rw [List.length_take, hn]; omega
      have h1 : part (torn p new old).1 60 4 = part (new.1.take p ++ old.1.drop p) 60 4 := rfl
      rw [h1]
      simp only [part]
      rw [List.drop_append_of_le_length (by omega), List.drop_take, List.take_append, List.take_of_length_le (l := (new.1.drop 60).take (p - 60)) (by simp; omega)]
      congr 1
      · rw [List.take_take, Nat.min_eq_left (by omega)]
      · rw [List.length_take, List.length_drop, hn, List.drop_take, List.drop_drop]
        rw [show 60 + (p - 60) = p by omega]
        congr 1
        omega
    unfold tkE num
    rw [e1]
    exact mix_le (by simp [part]; omega) _ (by simp [part]; omega) h
end Go.Sl
/- Plain facts: what a crash leaves, what a scan finds, what a save leaves. -/
namespace Go.Sl
open Go
def ring (s : List Sec) (p : Nat) : Sec := s[p]?.getD .zero
theorem ring_set {s : List Sec} {p q : Nat} {x : Sec} (h : p < s.length) : ring (s.set p x) q = if q = p then x else ring s q := by
  unfold ring
  rw [List.getElem?_set]
  by_cases e : p = q
  · subst e; simp [h]
  · rw [if_neg e, if_neg (fun h => e h.symm)]
theorem crashL_other : ∀ (ws : List (Nat × Sec)) (s : List Sec) (ps : List Int) (q : Nat), q ∉ ws.map (·.1) → (∀ w ∈ ws, w.1 < s.length) → ring (crashL s ws ps) q = ring s q
  | [], _, _, _, _, _ => rfl
  | w :: ws, s, ps, q, h, hl => by
    simp only [crashL]
    simp only [List.map_cons, List.mem_cons, not_or] at h
    rw [crashL_other ws _ _ q h.2 (fun x hx => by rw [List.length_set]; exact hl x (List.mem_cons_of_mem _ hx)), ring_set (hl w (List.mem_cons_self ..)), if_neg h.1]
theorem crashL_hit : ∀ (ws : List (Nat × Sec)) (s : List Sec) (ps : List Int), (ws.map (·.1)).Nodup → (∀ w ∈ ws, w.1 < s.length) → ∀ w ∈ ws, ∃ p, p ≤ 64 ∧ ring (crashL s ws ps) w.1 = torn p w.2 (ring s w.1)
  | [], _, _, _, _, _, h => by cases h
  | w :: ws, s, ps, hn, hl, v, hv => by
    simp only [crashL]
    simp only [List.map_cons, List.nodup_cons] at hn
    have hl2 : ∀ x ∈ ws, x.1 < (s.set w.1 (torn (pickOf ps) w.2 (s[w.1]?.getD .zero))).length := fun x hx => by rw [List.length_set]; exact hl x (List.mem_cons_of_mem _ hx)
    rcases List.mem_cons.1 hv with rfl | hv
    · refine ⟨pickOf ps, pickOf_le ps, ?_⟩
      rw [crashL_other ws _ _ _ hn.1 hl2, ring_set (hl _ (List.mem_cons_self ..)), if_pos rfl]
      rfl
    · obtain ⟨p, hp, e⟩ := crashL_hit ws _ ps.tail hn.2 hl2 v hv
      refine ⟨p, hp, ?_⟩
      rw [e, ring_set (hl _ (List.mem_cons_self ..)), if_neg]
      intro h
      exact hn.1 (h ▸ List.mem_map_of_mem hv)
theorem torn_all (new old : Sec) : torn 64 new old = new := by
  apply Subtype.ext
  show new.1.take 64 ++ old.1.drop 64 = new.1
  rw [List.take_of_length_le (by rw [new.2]; omega), List.drop_eq_nil_of_le (by rw [old.2]; omega), List.append_nil]
theorem flush_crash : ∀ (ws : List (Nat × Sec)) (s : List Sec), flush s ws = crashL s ws (List.replicate ws.length 64)
  | [], _ => rfl
  | w :: ws, s => by
    simp only [flush, crashL, List.length_cons, List.replicate_succ, List.tail_cons]
    rw [show pickOf ((64 : Int) :: List.replicate ws.length 64) = 64 from rfl, torn_all, flush_crash ws]
/- A scan. -/
section
variable (seen : List Sec) (at_ n E : Nat)
def chain : Nat → Nat → List (Nat × List By) → Prop
  | _, _, [] => True
  | low, next, x :: r => x.2.length ≤ 43 ∧ ring seen (at_ + 2 + next % n) = stampS next x.1 x.2 ∧ low ≤ x.1 ∧ x.1 ≤ E ∧ chain x.1 (next + 1) r
def stops (low next : Nat) : Prop := ∀ e' b', parse (ring seen (at_ + 2 + next % n)).1 = some (next, e', b') → e' < low ∨ E < e'
end
def lastE : Nat → List (Nat × List By) → Nat
  | low, [] => low
  | _, x :: r => lastE x.1 r
theorem lastE_append : ∀ (l r : List (Nat × List By)) (low : Nat), lastE low (l ++ r) = lastE (lastE low l) r
  | [], _, _ => rfl
  | x :: l, r, _ => lastE_append l r x.1
theorem chain_append {seen : List Sec} {at_ n E : Nat} : ∀ (l r : List (Nat × List By)) (low next : Nat), chain seen at_ n E low next (l ++ r) ↔ chain seen at_ n E low next l ∧ chain seen at_ n E (lastE low l) (next + l.length) r
  | [], r, low, next => by simp [chain, lastE]
  | x :: l, r, low, next => by
    simp only [List.cons_append, chain, lastE, List.length_cons, chain_append l r]
    rw [show next + 1 + l.length = next + (l.length + 1) by omega]
    simp only [and_assoc]
theorem chain_cong {s s' : List Sec} {at_ n E : Nat} : ∀ (l : List (Nat × List By)) (low next : Nat), (∀ k, k < l.length → ring s' (at_ + 2 + (next + k) % n) = ring s (at_ + 2 + (next + k) % n)) → chain s at_ n E low next l → chain s' at_ n E low next l
  | [], _, _, _, _ => trivial
  | x :: l, low, next, h, c => by
    obtain ⟨c1, c2, c3, c4, c5⟩ := c
    refine ⟨c1, ?_, c3, c4, chain_cong l _ _ (fun k hk => ?_) c5⟩
    · have := h 0 (by simp)
      simp only [Nat.add_zero] at this
      rw [this]; exact c2
    · have := h (k + 1) (by simp; omega)
      rw [show next + (k + 1) = next + 1 + k by omega] at this
      exact this
theorem chain_E {s : List Sec} {at_ n E E' : Nat} (h : E ≤ E') : ∀ (l : List (Nat × List By)) (low next : Nat), chain s at_ n E low next l → chain s at_ n E' low next l
  | [], _, _, _ => trivial
  | x :: l, _, _, c => ⟨c.1, c.2.1, c.2.2.1, Nat.le_trans c.2.2.2.1 h, chain_E h l _ _ c.2.2.2.2⟩
theorem chain_lastE {s : List Sec} {at_ n E : Nat} : ∀ (l : List (Nat × List By)) (low next : Nat), low ≤ E → chain s at_ n E low next l → low ≤ lastE low l ∧ lastE low l ≤ E
  | [], low, _, h, _ => ⟨Nat.le_refl _, h⟩
  | x :: l, low, next, _, c => by
    obtain ⟨-, -, c3, c4, c5⟩ := c
    have := chain_lastE l x.1 (next + 1) c4 c5
    exact ⟨Nat.le_trans c3 this.1, this.2⟩
theorem read_ring {d : DK} {p : Nat} (h : p < d.seen.length) : d.read (p : Int) = some (ring d.seen p) := by
  unfold DK.read ring
  rw [if_pos (by omega), Int.toNat_natCast]
  simp [h]
theorem scan_chain {d : DK} {at_ n E : Nat} (hn : 1 ≤ n) (hlen : at_ + 2 + n ≤ d.seen.length) (hE : E < 4294967296) : ∀ (l : List (Nat × List By)) (f low next : Nat), 0 < next → next + l.length ≤ 4294967295 → l.length ≤ f → chain d.seen at_ n E low next l → (l.length = f ∨ stops d.seen at_ n E (lastE low l) (next + l.length)) → scanL d at_ n E f low next = l
  | [], f, low, next, h0, hb, hf, _, hs => by
    cases f with
    | zero => rfl
    | succ f =>
      have hs : stops d.seen at_ n E low next := by rcases hs with h | h; simp at h; exact h
      have hm := Nat.mod_lt next (show 0 < n by omega)
      refine scanL_no (read_ring (by omega)) ?_
      intro ⟨h1, h2, h3, h4⟩
      unfold pOk at h1
      unfold pS at h2
      unfold pE at h3 h4
      cases hp : parse (ring d.seen (at_ + 2 + next % n)).1 with
      | none => rw [hp] at h1; cases h1
      | some t =>
        obtain ⟨a, b, c⟩ := t
        rw [hp] at h2 h3 h4
        simp at h2 h3 h4
        have := hs b c (by rw [hp, h2])
        omega
  | x :: l, f, low, next, h0, hb, hf, hc, hs => by
    obtain ⟨c1, c2, c3, c4, c5⟩ := hc
    simp only [List.length_cons] at hb hf hs
    obtain ⟨f, rfl⟩ : ∃ f', f = f' + 1 := ⟨f - 1, by omega⟩
    have hm := Nat.mod_lt next (show 0 < n by omega)
    have hp := parse_stamp (b := x.2) c1 h0 (show next < 4294967296 by omega) (show x.1 < 4294967296 by omega)
    have hr := read_ring (d := d) (p := at_ + 2 + next % n) (by omega)
    rw [c2] at hr
    have e1 : pE (stampS next x.1 x.2).1 = x.1 := by unfold pE; rw [hp]; rfl
    have e2 : pB (stampS next x.1 x.2).1 = x.2 := by unfold pB; rw [hp]; rfl
    rw [scanL_yes hr (by omega) ⟨by unfold pOk; rw [hp]; rfl, by unfold pS; rw [hp]; rfl, by rw [e1]; exact c3, by rw [e1]; exact c4⟩, e1, e2]
    rw [scan_chain hn hlen hE l f x.1 (next + 1) (by omega) (by omega) (by omega) c5 (by
      rcases hs with h | h
      · left; omega
      · right; rw [show next + 1 + l.length = next + (l.length + 1) by omega]; exact h)]
/- What the records that are not sure become. -/
def freshW (at_ n E : Nat) : Nat → List (List By) → List (Nat × Sec)
  | _, [] => []
  | s, b :: r => (at_ + 2 + s % n, stampS s E b) :: freshW at_ n E (s + 1) r
theorem freshW_len (at_ n E : Nat) : ∀ (bs : List (List By)) (s : Nat), (freshW at_ n E s bs).length = bs.length
  | [], _ => rfl
  | b :: r, s => by simp [freshW, freshW_len at_ n E r]
theorem freshW_append (at_ n E : Nat) : ∀ (bs : List (List By)) (s : Nat) (b : List By), freshW at_ n E s (bs ++ [b]) = freshW at_ n E s bs ++ [(at_ + 2 + (s + bs.length) % n, stampS (s + bs.length) E b)]
  | [], s, b => by simp [freshW]
  | x :: r, s, b => by
    simp only [List.cons_append, freshW, freshW_append at_ n E r, List.length_cons]
    rw [show s + 1 + r.length = s + (r.length + 1) by omega]
theorem freshW_mem {at_ n E : Nat} : ∀ (bs : List (List By)) (s : Nat) (w : Nat × Sec), w ∈ freshW at_ n E s bs → ∃ k b, bs[k]? = some b ∧ w = (at_ + 2 + (s + k) % n, stampS (s + k) E b)
  | [], _, _, h => by cases h
  | b :: r, s, w, h => by
    rcases List.mem_cons.1 h with rfl | h
    · exact ⟨0, b, rfl, rfl⟩
    · obtain ⟨k, b', h1, h2⟩ := freshW_mem r (s + 1) w h
      exact ⟨k + 1, b', h1, by rw [h2, show s + 1 + k = s + (k + 1) by omega]⟩
theorem freshW_get {at_ n E : Nat} : ∀ (bs : List (List By)) (s k : Nat) (b : List By), bs[k]? = some b → (at_ + 2 + (s + k) % n, stampS (s + k) E b) ∈ freshW at_ n E s bs
  | [], _, _, _, h => by cases h
  | x :: r, s, 0, b, h => by
    simp at h; subst h
    exact List.mem_cons_self ..
  | x :: r, s, k + 1, b, h => by
    have := freshW_get (at_ := at_) (n := n) (E := E) r (s + 1) k b (by simpa using h)
    rw [show s + 1 + k = s + (k + 1) by omega] at this
    exact List.mem_cons_of_mem _ this
theorem mod_inj {a b n : Nat} (h : a % n = b % n) (hab : a < b) (hb : b < a + n) : False := by
  have h1 := Nat.div_add_mod a n
  have h2 := Nat.div_add_mod b n
  rw [h] at h1
  have h3 : n * (b / n) = n * (a / n) + (b - a) := by omega
  have h4 : n * (b / n - a / n) = b - a := by rw [Nat.mul_sub]; omega
  rcases Nat.eq_zero_or_pos (b / n - a / n) with h5 | h5
  · rw [h5] at h4; simp at h4; omega
  · have := Nat.le_mul_of_pos_right n h5
    omega
theorem mod_ne {a b n : Nat} (hab : a ≠ b) (h1 : b < a + n) (h2 : a < b + n) : a % n ≠ b % n := fun h => by
  rcases Nat.lt_or_gt_of_ne hab with h3 | h3
  · exact mod_inj h h3 h1
  · exact mod_inj h.symm h3 h2
theorem freshW_nodup {at_ n E : Nat} : ∀ (bs : List (List By)) (s : Nat), bs.length ≤ n → ((freshW at_ n E s bs).map (·.1)).Nodup
  | [], _, _ => by simp [freshW]
  | b :: r, s, h => by
    simp only [List.length_cons] at h
    simp only [freshW, List.map_cons, List.nodup_cons]
    refine ⟨fun hm => ?_, freshW_nodup r (s + 1) (by omega)⟩
    obtain ⟨w, hw, e⟩ := List.mem_map.1 hm
    obtain ⟨k, b', hk, rfl⟩ := freshW_mem r (s + 1) w hw
    have hkl := (List.getElem?_eq_some_iff.1 hk).1
    have := mod_ne (a := s) (b := s + 1 + k) (n := n) (by omega) (by omega) (by omega)
    simp only at e
    omega
/-- Behind a crash the first ones of those that were not sure are there, and no ghost. -/
theorem crash_tail {sure seen : List Sec} {at_ n E : Nat} : ∀ (bs : List (List By)) (s low : Nat), low ≤ E → (∀ b ∈ bs, b.length ≤ 43) →
    (∀ k b, bs[k]? = some b → ∃ p, p ≤ 64 ∧ ring seen (at_ + 2 + (s + k) % n) = torn p (stampS (s + k) E b) (ring sure (at_ + 2 + (s + k) % n))) →
    (∀ k, k < bs.length → tkS (ring sure (at_ + 2 + (s + k) % n)) = s + k → tkE (ring sure (at_ + 2 + (s + k) % n)) < (if k = 0 then low else E)) →
    ∃ i, i ≤ bs.length ∧ chain seen at_ n E low s ((bs.take i).map fun b => (E, b)) ∧ (i = bs.length ∨ stops seen at_ n E (lastE low ((bs.take i).map fun b => (E, b))) (s + i))
  | [], s, low, _, _, _, _ => ⟨0, Nat.le_refl _, trivial, .inl rfl⟩
  | b :: r, s, low, hlow, hb, ht, hg => by
    obtain ⟨p, hp, hpe⟩ := ht 0 b rfl
    rw [Nat.add_zero] at hpe
    by_cases hnew : ring seen (at_ + 2 + s % n) = stampS s E b
    · obtain ⟨i, hi, hc, hs⟩ := crash_tail (sure := sure) (seen := seen) (at_ := at_) (n := n) (E := E) r (s + 1) E (Nat.le_refl _) (fun x hx => hb x (List.mem_cons_of_mem _ hx)) (fun k x hk => by
          have := ht (k + 1) x (by simpa using hk)
          rw [show s + (k + 1) = s + 1 + k by omega] at this
          exact this) (fun k hk h => by
          have := hg (k + 1) (by simp; omega)
          rw [show s + (k + 1) = s + 1 + k by omega] at this
          have := this h
          simp at this
          split <;> exact this)
      refine ⟨i + 1, by simp; omega, ⟨hb b (List.mem_cons_self ..), hnew, hlow, Nat.le_refl _, hc⟩, ?_⟩
      rcases hs with h | h
      · left; simp; exact h
      · right; rw [show s + (i + 1) = s + 1 + i by omega]; exact h
    · refine ⟨0, Nat.zero_le _, trivial, .inr ?_⟩
      intro e' b' hpar
      rw [Nat.add_zero] at hpar
      rw [hpe] at hpar
      rcases torn_taken hp (hb b (List.mem_cons_self ..)) hpar with h | h
      · exact absurd (hpe.trans h) hnew
      · left
        have := hg 0 (by simp) (by rw [Nat.add_zero]; exact h.1)
        rw [Nat.add_zero, h.2] at this
        simpa [lastE] using this
end Go.Sl
/- Plain facts: disks that are up, slots, what flushes leave. -/
namespace Go.Sl
open Go
def Up (d : DK) : Prop := d.fuse = -1 ∧ d.down = false
theorem done_up {d : DK} (h : Up d) : d.done = d := by
  obtain ⟨a, b, c, f, g⟩ := d
  obtain ⟨h1, h2⟩ := h
  simp only at h1 h2
  subst h1 h2
  rfl
theorem sync_up {d : DK} (h : Up d) : d.sync = { d with sure := flush d.sure d.pend, pend := [] } := by
  unfold DK.sync
  rw [done_up h, if_neg (by rw [h.2]; simp)]
theorem Up.sync {d : DK} (h : Up d) : Up d.sync := by rw [sync_up h]; exact h
theorem write_up {d : DK} (h : Up d) {i : Nat} {b : List By} (hi : i < d.seen.length) (hb : b.length ≤ 64) : d.write (i : Int) b = (d.put i (pad b), 0) := by
  unfold DK.write
  rw [if_neg (by omega), if_neg (by omega), done_up h, if_neg (by rw [h.2]; simp), Int.toNat_natCast]
theorem flush_snoc : ∀ (ws : List (Nat × Sec)) (s : List Sec) (w : Nat × Sec), flush s (ws ++ [w]) = (flush s ws).set w.1 w.2
  | [], _, _ => rfl
  | x :: ws, s, w => by simp only [List.cons_append, flush]; exact flush_snoc ws _ w
theorem flush_other (ws : List (Nat × Sec)) (s : List Sec) (q : Nat) (h : q ∉ ws.map (·.1)) (hl : ∀ w ∈ ws, w.1 < s.length) : ring (flush s ws) q = ring s q := by rw [flush_crash]; exact crashL_other ws s _ q h hl
/- The slot. -/
theorem lastStep_ring {d : DK} {i : Nat} {out : SR} (h : i < d.seen.length) : lastStep d (i : Int) out = if pOk (ring d.seen i).1 = true ∧ pE (ring d.seen i).1 = 0 ∧ out.seq < pS (ring d.seen i).1 then ⟨i, pS (ring d.seen i).1, pB (ring d.seen i).1⟩ else out := lastStep_of (read_ring h)
theorem last_ring {d : DK} {a : Nat} (h : a + 1 < d.seen.length) : last d (a : Int) = lastStep d ((a + 1 : Nat) : Int) (lastStep d (a : Int) ⟨((a + 1 : Nat) : Int), 0, []⟩) := by
  unfold last
  rw [show ((a + 1 : Nat) : Int) = (a : Int) + 1 by simp]
theorem last_cong {d d' : DK} {a : Nat} (h : a + 1 < d.seen.length) (hl : d'.seen.length = d.seen.length) (h1 : ring d'.seen a = ring d.seen a) (h2 : ring d'.seen (a + 1) = ring d.seen (a + 1)) : last d' (a : Int) = last d (a : Int) := by
  rw [last_ring h, last_ring (by omega), lastStep_ring (by omega), lastStep_ring (by omega), lastStep_ring (by omega), lastStep_ring (by omega), h1, h2]
def otherI (d : DK) (a : Nat) : Nat := if (last d (a : Int)).at_ = a then a + 1 else a
theorem last_next {d d' : DK} {a : Nat} {xs : List By} (h : a + 1 < d.seen.length) (hs : (last d (a : Int)).seq < 4294967295) (hx : xs.length ≤ 43)
    (hd : d'.seen = d.seen.set (otherI d a) (stampS ((last d (a : Int)).seq + 1) 0 xs)) : (last d' (a : Int)).seq = (last d (a : Int)).seq + 1 ∧ (last d' (a : Int)).b = xs ∧ (last d' (a : Int)).at_ = ((otherI d a : Nat) : Int) := by
  have hl : d'.seen.length = d.seen.length := by rw [hd, List.length_set]
  have hp := parse_stamp (b := xs) hx (show 0 < (last d (a : Int)).seq + 1 by omega) (by omega) (show (0 : Nat) < 4294967296 by omega)
  have eO : pOk (stampS ((last d (a : Int)).seq + 1) 0 xs).1 = true := by unfold pOk; rw [hp]; rfl
  have eE : pE (stampS ((last d (a : Int)).seq + 1) 0 xs).1 = 0 := by unfold pE; rw [hp]; rfl
  have eS : pS (stampS ((last d (a : Int)).seq + 1) 0 xs).1 = (last d (a : Int)).seq + 1 := by unfold pS; rw [hp]; rfl
  have eB : pB (stampS ((last d (a : Int)).seq + 1) 0 xs).1 = xs := by unfold pB; rw [hp]; rfl
  obtain ⟨r, hr⟩ : ∃ r, last d (a : Int) = r := ⟨_, rfl⟩
  have hr2 := hr
  rw [last_ring h, lastStep_ring (by omega)] at hr2
  obtain ⟨o1, ho1⟩ : ∃ o, lastStep d (a : Int) ⟨((a + 1 : Nat) : Int), 0, []⟩ = o := ⟨_, rfl⟩
  rw [ho1] at hr2
  rw [lastStep_ring (by omega)] at ho1
  rw [hr] at eO eE eS eB hs hd ⊢
  rw [last_ring (by omega), lastStep_ring (d := d') (by omega), lastStep_ring (d := d') (by omega)]
  unfold otherI at hd ⊢
  rw [hr] at hd ⊢
  by_cases hat : r.at_ = a
  · rw [if_pos hat] at hd ⊢
    have r1 : ring d'.seen a = ring d.seen a := by rw [hd, ring_set (by omega), if_neg (by omega)]
    have r2 : ring d'.seen (a + 1) = stampS (r.seq + 1) 0 xs := by rw [hd, ring_set (by omega), if_pos rfl]
    have hro : r = o1 := by
      split at hr2
      · rw [← hr2] at hat; simp at hat; omega
      · exact hr2.symm
    rw [r1, r2, ho1, eO, eE, eS, eB, if_pos ⟨rfl, rfl, by rw [← hro]; omega⟩]
    exact ⟨rfl, rfl, rfl⟩
  · rw [if_neg hat] at hd ⊢
    have r1 : ring d'.seen a = stampS (r.seq + 1) 0 xs := by rw [hd, ring_set (by omega), if_pos rfl]
    have r2 : ring d'.seen (a + 1) = ring d.seen (a + 1) := by rw [hd, ring_set (by omega), if_neg (by omega)]
    rw [r1, r2, eO, eE, eS, eB, if_pos (c := (true = true ∧ (0 : Nat) = 0 ∧ (0 : Nat) < r.seq + 1)) ⟨rfl, rfl, by omega⟩]
    rw [if_neg (c := pOk (ring d.seen (a + 1)).1 = true ∧ _)]
    · exact ⟨rfl, rfl, rfl⟩
    · intro ⟨q1, q2, q3⟩
      simp only at q3
      split at hr2
      · rw [← hr2] at q3; simp only at q3; omega
      · rename_i hnot
        have : o1.seq ≤ r.seq := by rw [hr2]; exact Nat.le_refl _
        exact hnot ⟨q1, q2, by omega⟩
theorem pOk_tk {c : Sec} (h : pOk c.1 = true) : tkS c = pS c.1 := by
  unfold pOk at h
  unfold pS
  cases hp : parse c.1 with
  | none => rw [hp] at h; cases h
  | some t => obtain ⟨s, e, b⟩ := t; exact (tk_parse hp).1
theorem last_cur {d : DK} {a : Nat} (h : a + 1 < d.seen.length) : ((last d (a : Int)).at_ = (a : Int) ∧ tkS (ring d.seen a) = (last d (a : Int)).seq) ∨ ((last d (a : Int)).at_ = ((a + 1 : Nat) : Int) ∧ (tkS (ring d.seen (a + 1)) = (last d (a : Int)).seq ∨ (last d (a : Int)).seq = 0)) := by
  rw [last_ring h, lastStep_ring (by omega)]
  split
  · rename_i hc; exact .inr ⟨rfl, .inl (pOk_tk hc.1)⟩
  · rw [lastStep_ring (by omega)]
    split
    · rename_i hc; exact .inl ⟨rfl, pOk_tk hc.1⟩
    · exact .inr ⟨rfl, .inr rfl⟩
theorem chain_tkS {s : List Sec} {at_ n E : Nat} {x : Nat × List By} {l : List (Nat × List By)} {low next : Nat} (h : chain s at_ n E low next (x :: l)) (hn : next < 4294967296) (hE : E < 4294967296) : tkS (ring s (at_ + 2 + next % n)) = next := by
  obtain ⟨c1, c2, c3, c4, -⟩ := h
  rw [c2]
  exact (tk_stamp c1 hn (by omega)).1
theorem meta_nums {a b c : Nat} (ha : a < 4294967296) (hb : b < 4294967296) (hc : c < 4294967296) : (le a 4 ++ le b 4 ++ le c 4).length = 12 ∧ num (le a 4 ++ le b 4 ++ le c 4) 0 4 = a ∧ num (le a 4 ++ le b 4 ++ le c 4) 4 4 = b ∧ num (le a 4 ++ le b 4 ++ le c 4) 8 4 = c := by
  have l4 : ∀ v, (le v 4).length = 4 := fun v => le_length v 4
  have o4 : ∀ v, v < 4294967296 → ofLE (le v 4) = v := fun v hv => by rw [ofLE_le]; exact Nat.mod_eq_of_lt hv
  simp only [num, List.append_assoc]
  refine ⟨by simp [l4], ?_, ?_, ?_⟩
  · rw [part_append_left (by rw [l4]; omega), part_all (l4 _), o4 a ha]
  · rw [part_append_right (by rw [l4]; omega), l4, part_append_left (by rw [l4]; omega), part_all (l4 _), o4 b hb]
  · rw [part_append_right (by rw [l4]; omega), l4, part_append_right (by rw [l4]; omega), l4, part_all (l4 _), o4 c hc]
theorem flush_hit : ∀ (ws : List (Nat × Sec)) (s : List Sec), (ws.map (·.1)).Nodup → (∀ w ∈ ws, w.1 < s.length) → ∀ w ∈ ws, ring (flush s ws) w.1 = w.2
  | [], _, _, _, _, h => by cases h
  | w :: ws, s, hn, hl, v, hv => by
    simp only [flush]
    simp only [List.map_cons, List.nodup_cons] at hn
    have hl2 : ∀ x ∈ ws, x.1 < (s.set w.1 w.2).length := fun x hx => by rw [List.length_set]; exact hl x (List.mem_cons_of_mem _ hx)
    rcases List.mem_cons.1 hv with rfl | hv
    · rw [flush_other ws _ _ hn.1 hl2, ring_set (hl _ (List.mem_cons_self ..)), if_pos rfl]
    · exact flush_hit ws _ hn.2 hl2 v hv
def frE (E : Nat) (fr : List (List By)) : List (Nat × List By) := fr.map fun b => (E, b)
theorem frE_len (E : Nat) (fr : List (List By)) : (frE E fr).length = fr.length := by simp [frE]
theorem lastE_fr {E : Nat} : ∀ (fr : List (List By)) (low : Nat), fr ≠ [] → lastE low (frE E fr) = E
  | [b], _, _ => rfl
  | _ :: b :: r, _, _ => lastE_fr (b :: r) E (by simp)
  | [], _, h => absurd rfl h
theorem metaB_len (j : JN) : j.metaB.length = 12 := by simp [JN.metaB, le_length]
theorem lastE_held : ∀ (l : List (Nat × List By)) (k low : Nat), 0 < k → k ≤ l.length → ((l[k - 1]?).getD (0, [])).1 = lastE low (l.take k)
  | [], k, _, h, h2 => by simp at h2; omega
  | x :: l, k + 1, low, _, h2 => by
    cases k with
    | zero => rfl
    | succ k =>
      rw [List.take_succ_cons]
      show (((x :: l)[k + 1]?).getD (0, [])).1 = lastE x.1 (l.take (k + 1))
      rw [List.getElem?_cons_succ]
      exact lastE_held l (k + 1) x.1 (by omega) (by simpa using h2)
theorem crash_pl {d : DK} (ps : List Int) : (d.crash ps).pend.length = 0 := rfl
theorem chain_b {s : List Sec} {at_ n E : Nat} : ∀ (l : List (Nat × List By)) (low next : Nat), chain s at_ n E low next l → ∀ x ∈ l, x.2.length ≤ 43
  | [], _, _, _, x, hx => by cases hx
  | y :: l, low, next, hc, x, hx => by
    obtain ⟨c1, -, -, -, c5⟩ := hc
    rcases List.mem_cons.1 hx with rfl | hx
    · exact c1
    · exact chain_b l _ _ c5 x hx
end Go.Sl
/- The journal's invariant anywhere on a disk: saving, opening. -/
namespace Go.Sl.G
open Go Go.Sl
section
variable {N a : Nat}
/-- The slot's other sector has a number that is below. -/
def SInv (a : Nat) (d : DK) : Prop := tkS (ring d.seen (otherI d a)) < (last d (a : Int)).seq
theorem SInv.cong {d d' : DK} (hs : SInv a d) (h : a + 1 < d.seen.length) (hl : d'.seen.length = d.seen.length) (h1 : ring d'.seen a = ring d.seen a) (h2 : ring d'.seen (a + 1) = ring d.seen (a + 1)) : SInv a d' := by
  unfold SInv otherI at hs ⊢
  rw [last_cong (a := a) h hl h1 h2]
  split
  · rename_i hc; rw [if_pos hc] at hs; rw [h2]; exact hs
  · rename_i hc; rw [if_neg hc] at hs; rw [h1]; exact hs
theorem SInv.next {d d' : DK} {xs : List By} (h : a + 1 < d.seen.length) (hs : (last d (a : Int)).seq < 4294967295) (hx : xs.length ≤ 43) (hc : (last d (a : Int)).seq = 0 → tkS (ring d.seen (a + 1)) = 0)
    (hd : d'.seen = d.seen.set (otherI d a) (stampS ((last d (a : Int)).seq + 1) 0 xs)) : SInv a d' := by
  obtain ⟨e1, -, e3⟩ := last_next h hs hx hd
  have hcur := last_cur (a := a) h
  unfold SInv
  rw [e1]
  by_cases hat : (last d (a : Int)).at_ = (a : Int)
  · have ho : otherI d a = a + 1 := by unfold otherI; rw [if_pos hat]
    have ho2 : otherI d' a = a := by unfold otherI; rw [e3, ho, if_neg (by omega)]
    rw [ho2, hd, ring_set (by omega), if_neg (by omega)]
    rcases hcur with h1 | h1
    · omega
    · rw [hat] at h1; omega
  · have ho : otherI d a = a := by unfold otherI; rw [if_neg hat]
    have ho2 : otherI d' a = a + 1 := by unfold otherI; rw [e3, ho, if_pos rfl]
    rw [ho2, hd, ring_set (by omega), if_neg (by omega)]
    rcases hcur with h1 | h1
    · exact absurd h1.1 hat
    · rcases h1.2 with h2 | h2
      · rw [h2]; omega
      · rw [hc h2]; omega
theorem save_up {d : DK} {xs : List By} (h : Up d) (hok : d.ok) (ha : a + 1 < d.seen.length) (hv : d.seen = flush d.sure d.pend) (hs : (last d (a : Int)).seq < 4294967295) (hx : xs.length ≤ 43) :
    ∃ d', save d (a : Int) xs = (d', 0) ∧ Up d' ∧ d'.ok ∧ d'.pend = [] ∧ d'.sure = d'.seen ∧ d'.seen.length = d.seen.length ∧ (∀ p, p ≠ a → p ≠ a + 1 → ring d'.seen p = ring d.seen p) ∧ (last d' (a : Int)).seq = (last d (a : Int)).seq + 1 ∧ (last d' (a : Int)).b = xs ∧ (((last d (a : Int)).seq = 0 → tkS (ring d.seen (a + 1)) = 0) → SInv a d') := by
  have hat := last_at d (a : Int)
  have hoth : otherI d a = a ∨ otherI d a = a + 1 := by unfold otherI; split <;> omega
  have hol : otherI d a < d.seen.length := by omega
  have hidx : 2 * (a : Int) + 1 - (last d (a : Int)).at_ = ((otherI d a : Nat) : Int) := by
    unfold otherI
    split
    · rename_i e; rw [e]; simp; omega
    · rename_i e; rcases hat with h | h
      · exact absurd h e
      · rw [h]; omega
  have hput : put d (a : Int) xs = (d.sync.put (otherI d a) (stampS ((last d (a : Int)).seq + 1) 0 xs), 0) := by
    unfold put
    rw [if_neg (by rw [right_in (by omega)]; simp), if_neg (by omega), if_neg (by omega), hidx, write_up h.sync (by rw [sync_len]; exact hol) (by rw [stamp_length hx]; omega)]
    rfl
  have hup2 : Up (d.sync.put (otherI d a) (stampS ((last d (a : Int)).seq + 1) 0 xs)) := h.sync
  refine ⟨(d.sync.put (otherI d a) (stampS ((last d (a : Int)).seq + 1) 0 xs)).sync, ?_, hup2.sync, ?_, ?_, ?_, ?_, ?_, ?_⟩
  · unfold save
    rw [hput]
    simp only [if_true]
    rw [if_neg]
    rw [hup2.sync.2]; simp
  · have := put_ok hok (a : Int) xs
    rw [hput] at this
    exact this.sync
  · rw [sync_up hup2]
  · rw [sync_up hup2]
    rw [sync_up h]
    simp only [DK.put]
    rw [flush_snoc]
    simp only [flush]
    rw [← hv]
  · rw [sync_len]
    simp only [DK.put, List.length_set]
    rw [sync_len]
  · intro p h1 h2
    rw [sync_up hup2]
    simp only [DK.put]
    rw [ring_set (by rw [sync_len]; exact hol), if_neg (by omega)]
    rw [sync_up h]
  · have hd : (d.sync.put (otherI d a) (stampS ((last d (a : Int)).seq + 1) 0 xs)).sync.seen = d.seen.set (otherI d a) (stampS ((last d (a : Int)).seq + 1) 0 xs) := by
      rw [sync_up hup2, sync_up h]
      rfl
    obtain ⟨e1, e2, -⟩ := last_next ha hs hx hd
    exact ⟨e1, e2, fun hc => SInv.next ha hs hx hc hd⟩
/-- Outside of the journal's sectors nothing is changed. -/
def Fr (a n : Nat) (d d' : DK) : Prop := ∀ p, p < a ∨ a + 2 + n ≤ p → ring d'.seen p = ring d.seen p
/- The invariant: `old` is sure, `fr` is not yet. -/
structure JInv (N a n T : Nat) (d : DK) (j : JN) (old : List (Nat × List By)) (fr : List (List By)) : Prop where
  up : Up d
  ok : d.ok
  len : d.seen.length = N
  at1 : j.at_ = a
  jn : j.n = n
  n1 : 1 ≤ n ∧ n ≤ 100 ∧ a + 2 + n ≤ N
  held : j.held = old ++ fr.map fun b => (j.epoch, b)
  hl : old.length + fr.length ≤ n
  pend : d.pend = freshW a n j.epoch (j.first + old.length) fr
  vis : d.seen = flush d.sure d.pend
  f1 : 1 ≤ j.first
  bnd : j.first + old.length + fr.length ≤ T + 1 ∧ j.epoch ≤ T ∧ (last d (a : Int)).seq ≤ T
  T1 : T ≤ 1000000
  lowE : j.low ≤ j.epoch
  frl : ∀ b ∈ fr, b.length ≤ 43
  ch : chain d.sure a n j.epoch j.low j.first old
  slot : 0 < (last d (a : Int)).seq ∧ (last d (a : Int)).b = j.metaB
  g1 : ∀ p, a + 2 ≤ p → p < a + 2 + n → tkE (ring d.sure p) ≤ j.epoch
  g3 : ∀ p, a + 2 ≤ p → p < a + 2 + n → tkE (ring d.sure p) = j.epoch → tkS (ring d.sure p) < j.first + old.length
  g2 : tkS (ring d.sure (a + 2 + (j.first + old.length) % n)) = j.first + old.length → tkE (ring d.sure (a + 2 + (j.first + old.length) % n)) < lastE j.low old
  so : SInv a d
/-- At the end of a full ring stands its first record. -/
theorem full_end {s : List Sec} {n E low next : Nat} {l : List (Nat × List By)} (hn : 1 ≤ n) (h : chain s a n E low next l) (hl : l.length = n) (h1 : next < 4294967296) (hE : E < 4294967296) : tkS (ring s (a + 2 + (next + l.length) % n)) ≠ next + l.length := by
  cases l with
  | nil => simp at hl; omega
  | cons x r =>
    rw [hl, Nat.add_mod_right, chain_tkS h h1 hE]
    omega
theorem open_inv {n T : Nat} {d : DK} {first epoch low : Nat} {l : List (Nat × List By)} (hup : Up d) (hok : d.ok) (hlen : d.seen.length = N) (hn : 1 ≤ n ∧ n ≤ 100 ∧ a + 2 + n ≤ N) (hvis : d.seen = flush d.sure d.pend)
    (hb : JN.begun d a n = some ⟨a, n, first, epoch, low, []⟩) (hseq : (last d (a : Int)).seq ≤ T) (hT : T + 1 ≤ 1000000) (h1 : 1 ≤ first) (h2 : first + l.length ≤ T + 2) (h3 : epoch ≤ T) (hle : low ≤ epoch)
    (hc : chain d.seen a n epoch low first l) (hl : l.length ≤ n) (hs : l.length = n ∨ stops d.seen a n epoch (lastE low l) (first + l.length)) (hg : ∀ p, a + 2 ≤ p → p < a + 2 + n → tkE (ring d.seen p) ≤ epoch) (h00 : (last d (a : Int)).seq = 0 → tkS (ring d.seen (a + 1)) = 0) :
    ∃ d' j', jopen0 d a n = (d', some j', 0) ∧ JInv N a n (T + 1) d' j' l [] ∧ j'.held = l ∧ Fr a n d d' := by
  have hscan : scanL d a n epoch n low first = l := scan_chain (by omega) (by omega) (by omega) l n low first (by omega) (by omega) hl hc hs
  obtain ⟨j1, hj1⟩ : ∃ j1 : JN, j1 = ⟨a, n, first, epoch, low, l⟩ := ⟨_, rfl⟩
  have hsc : (⟨a, n, first, epoch, low, []⟩ : JN).scanned d = j1 := by rw [hj1]; unfold JN.scanned; simp only; rw [hscan]
  have hnx : j1.next = first + l.length := by rw [hj1]; rfl
  have hpl : j1.place j1.next = a + 2 + (first + l.length) % n := by rw [hnx, hj1]; rfl
  have hmod := Nat.mod_lt (first + l.length) (show 0 < n by omega)
  -- the sector behind
  have hD : ∃ d1, openD d j1 n = d1 ∧ Up d1 ∧ d1.ok ∧ d1.seen.length = N ∧ d1.seen = flush d1.sure d1.pend ∧ (∀ p, (l.length < n → p ≠ a + 2 + (first + l.length) % n) → ring d1.seen p = ring d.seen p) ∧ (l.length < n → ring d1.seen (a + 2 + (first + l.length) % n) = .zero) := by
    obtain ⟨o1, o2, -⟩ := openD_ok hok j1 n
    refine ⟨openD d j1 n, rfl, ?_, o1, by rw [o2, hlen], ?_, ?_, ?_⟩
    all_goals (unfold openD; rw [show j1.held = l by rw [hj1], hpl])
    · split
      · rw [write_up hup (by omega) (by simp)]; exact hup
      · exact hup
    · split
      · rw [write_up hup (by omega) (by simp)]
        simp only [DK.put]
        rw [flush_snoc, ← hvis]
      · exact hvis
    · intro p hp
      split
      · rename_i hlt
        rw [write_up hup (by omega) (by simp)]
        simp only [DK.put]
        rw [ring_set (by omega), if_neg (hp hlt)]
      · rfl
    · intro hlt
      rw [if_pos hlt, write_up hup (by omega) (by simp)]
      simp only [DK.put]
      rw [ring_set (by omega), if_pos rfl, pad_nil]
  obtain ⟨d1, hd1, u1, ok1, len1, vis1, oth1, zer1⟩ := hD
  have hlast : last d1 (a : Int) = last d (a : Int) := last_cong (by omega) (by omega) (oth1 a (fun _ => by omega)) (oth1 (a + 1) (fun _ => by omega))
  have hmb : (openJ j1).metaB.length ≤ 43 := by simp [JN.metaB, le_length]
  obtain ⟨d', hs', up', ok', pe', su', le', ri', sq', bb', so'⟩ := save_up (a := a) (xs := (openJ j1).metaB) u1 ok1 (by omega) vis1 (by rw [hlast]; omega) hmb
  have hjs : jsave (openD d j1 n) (openJ j1) = (d', 0) := by
    rw [hd1]; unfold jsave
    rw [show (openJ j1).at_ = a by rw [hj1]; rfl]
    exact hs'
  have hep : (⟨a, n, first, epoch, low, []⟩ : JN).epoch ≠ 4294967295 := by show epoch ≠ _; omega
  have hJ := jopen0_ok hb hep (by rw [hsc, hjs])
  rw [hsc, hjs] at hJ
  have hring : ∀ p, a + 2 ≤ p → (l.length < n → p ≠ a + 2 + (first + l.length) % n) → ring d'.sure p = ring d.seen p := fun p hp h => by rw [su', ri' p (by omega) (by omega), oth1 p h]
  have hzero : l.length < n → ring d'.sure (a + 2 + (first + l.length) % n) = .zero := fun h => by rw [su', ri' _ (by omega) (by omega), zer1 h]
  have hfull : l.length = n → tkS (ring d.seen (a + 2 + (first + l.length) % n)) ≠ first + l.length := fun h => full_end hn.1 hc h (by omega) (by omega)
  refine ⟨d', openJ j1, hJ, ?_, by rw [hj1]; rfl, fun p hp => by rw [ri' p (by omega) (by omega), oth1 p (fun _ => by omega)]⟩
  subst hj1
  have hE : ∀ p, a + 2 ≤ p → p < a + 2 + n → tkE (ring d'.sure p) ≤ epoch := by
    intro p hp1 hp2
    by_cases hz : l.length < n ∧ p = a + 2 + (first + l.length) % n
    · rw [hz.2, hzero hz.1, tk_zero.2]; omega
    · rw [hring p hp1 (fun h e => hz ⟨h, e⟩)]; exact hg p hp1 hp2
  exact {
    up := up', ok := ok', len := by omega, at1 := rfl, jn := rfl, n1 := hn
    held := by simp [openJ], hl := by simp; omega
    pend := by rw [pe']; rfl
    vis := by rw [pe', su']; rfl
    f1 := h1
    bnd := by
      refine ⟨?_, ?_, ?_⟩
      · show first + l.length + 0 ≤ T + 1 + 1; omega
      · show epoch + 1 ≤ T + 1; omega
      · rw [sq', hlast]; omega
    T1 := hT
    lowE := by show low ≤ epoch + 1; omega
    frl := by simp
    ch := by
      show chain d'.sure a n (epoch + 1) low first l
      refine chain_E (by omega) l low first (chain_cong l low first (fun k hk => ?_) hc)
      refine hring _ (by omega) fun hlt => ?_
      have := mod_ne (a := first + k) (b := first + l.length) (n := n) (by omega) (by omega) (by omega)
      omega
    slot := by rw [sq', bb']; exact ⟨by omega, rfl⟩
    so := so' (by rw [hlast, oth1 (a + 1) (fun _ => by omega)]; exact h00)
    g1 := fun p hp1 hp2 => Nat.le_succ_of_le (hE p hp1 hp2)
    g3 := fun p hp1 hp2 he => by
      have := hE p hp1 hp2
      have he : tkE (ring d'.sure p) = epoch + 1 := he
      omega
    g2 := by
      intro he
      have he : tkS (ring d'.sure (a + 2 + (first + l.length) % n)) = first + l.length := he
      by_cases hlt : l.length < n
      · rw [hzero hlt, tk_zero.1] at he; omega
      · rw [hring _ (by omega) (fun h => absurd h hlt)] at he
        exact absurd he (hfull (by omega)) }
end
end Go.Sl.G
/- The journal's invariant anywhere on a disk: crashes, syncs, appends. -/
namespace Go.Sl.G
open Go Go.Sl
theorem chain_fr {S : List Sec} {a n E : Nat} : ∀ (fr : List (List By)) (s low : Nat), low ≤ E → (∀ b ∈ fr, b.length ≤ 43) → (∀ k b, fr[k]? = some b → ring S (a + 2 + (s + k) % n) = stampS (s + k) E b) → chain S a n E low s (frE E fr)
  | [], _, _, _, _, _ => trivial
  | b :: r, s, low, hl, hb, h => by
    refine ⟨hb b (List.mem_cons_self ..), h 0 b rfl, hl, Nat.le_refl _, chain_fr r (s + 1) E (Nat.le_refl _) (fun x hx => hb x (List.mem_cons_of_mem _ hx)) fun k x hk => ?_⟩
    have := h (k + 1) x (by simpa using hk)
    rw [show s + (k + 1) = s + 1 + k by omega] at this
    exact this
section
variable {N a n T : Nat} {d : DK} {j : JN} {old : List (Nat × List By)} {fr : List (List By)}
theorem JInv.idx (h : JInv N a n T d j old fr) : ∀ w ∈ d.pend, a + 2 ≤ w.1 ∧ w.1 < a + 2 + n ∧ w.1 < d.sure.length := by
  intro w hw
  have h1 := h.ok.idx w hw
  have h2 := h.ok.same
  rw [h.pend] at hw
  obtain ⟨k, b, -, rfl⟩ := freshW_mem _ _ _ hw
  have := Nat.mod_lt (j.first + old.length + k) (show 0 < n by have := h.n1; omega)
  simp only at h1 ⊢
  omega
theorem JInv.nodup (h : JInv N a n T d j old fr) : (d.pend.map (·.1)).Nodup := by
  rw [h.pend]
  have := h.hl
  exact freshW_nodup _ _ (by omega)
/-- A place that is not one of those that are not sure yet. -/
theorem JInv.off (h : JInv N a n T d j old fr) {k : Nat} (hk : k < old.length ∨ (k = old.length + fr.length ∧ old.length + fr.length < n)) : a + 2 + (j.first + k) % n ∉ d.pend.map (·.1) := by
  intro hm
  obtain ⟨w, hw, e⟩ := List.mem_map.1 hm
  rw [h.pend] at hw
  obtain ⟨i, b, hi, rfl⟩ := freshW_mem _ _ _ hw
  have hil := (List.getElem?_eq_some_iff.1 hi).1
  have hl := h.hl
  simp only at e
  have := mod_ne (a := j.first + k) (b := j.first + old.length + i) (n := n) (by omega) (by omega) (by omega)
  omega
theorem JInv.low_slot (h : JInv N a n T d j old fr) {p : Nat} (hp : p < a + 2 ∨ a + 2 + n ≤ p) : p ∉ d.pend.map (·.1) := by
  intro hm
  obtain ⟨w, hw, rfl⟩ := List.mem_map.1 hm
  have := h.idx w hw
  omega
theorem JInv.oldc (h : JInv N a n T d j old fr) {S : List Sec} (hS : ∀ q, q ∉ d.pend.map (·.1) → ring S q = ring d.sure q) : chain S a n j.epoch j.low j.first old :=
  chain_cong old _ _ (fun k hk => hS _ (h.off (.inl hk))) h.ch
/-- What is behind the last one can't be taken for the next. -/
theorem JInv.ghost (h : JInv N a n T d j old fr) (hf : old.length + fr.length < n) : tkS (ring d.sure (a + 2 + (j.first + (old.length + fr.length)) % n)) = j.first + (old.length + fr.length) → tkE (ring d.sure (a + 2 + (j.first + (old.length + fr.length)) % n)) < lastE j.low (old ++ frE j.epoch fr) := by
  intro he
  have hm := Nat.mod_lt (j.first + (old.length + fr.length)) (show 0 < n by omega)
  by_cases hfr : fr = []
  · subst hfr
    simp only [List.length_nil, Nat.add_zero, frE, List.map_nil, List.append_nil] at he ⊢
    exact h.g2 he
  · rw [lastE_append, lastE_fr fr _ hfr]
    have hpos : 0 < fr.length := List.length_pos_iff.2 hfr
    have h1 := h.g1 _ (show a + 2 ≤ a + 2 + (j.first + (old.length + fr.length)) % n by omega) (by omega)
    rcases Nat.lt_or_ge (tkE (ring d.sure (a + 2 + (j.first + (old.length + fr.length)) % n))) j.epoch with h2 | h2
    · exact h2
    · have := h.g3 _ (show a + 2 ≤ a + 2 + (j.first + (old.length + fr.length)) % n by omega) (by omega) (by omega)
      omega
theorem vis_open (h : JInv N a n T d j old fr) (hT : T + 1 ≤ 1000000) {dc : DK} (qs : List Int) (hS : dc.seen = crashL d.sure d.pend qs) (hup : Up dc) (hok : dc.ok) (hvis : dc.seen = flush dc.sure dc.pend) :
    ∃ i d' j', i ≤ fr.length ∧ jopen0 dc a n = (d', some j', 0) ∧ JInv N a n (T + 1) d' j' (old ++ frE j.epoch (fr.take i)) [] ∧ j'.held = old ++ frE j.epoch (fr.take i) ∧ Fr a n d d' := by
  have hn := h.n1
  have hl := h.hl
  have hb := h.bnd
  have hT1 := h.T1
  have hidx : ∀ w ∈ d.pend, w.1 < d.sure.length := fun w hw => (h.idx w hw).2.2
  have hoth : ∀ q, q ∉ d.pend.map (·.1) → ring dc.seen q = ring d.sure q := fun q hq => by rw [hS]; exact crashL_other _ _ _ _ hq hidx
  have hlen : dc.seen.length = N := by rw [hS, crashL_len, h.ok.same, h.len]
  have hsl : ∀ p, (p < a + 2 ∨ a + 2 + n ≤ p) → ring dc.seen p = ring d.seen p := fun p hp => by
    rw [hoth p (h.low_slot hp), h.vis, flush_other _ _ _ (h.low_slot hp) hidx]
  have hlast : last dc (a : Int) = last d (a : Int) := last_cong (by rw [h.len]; omega) (by rw [hlen, h.len]) (hsl a (by omega)) (hsl (a + 1) (by omega))
  have hlow := h.lowE
  have hf1 := h.f1
  obtain ⟨m1, m2, m3, m4⟩ := meta_nums (a := j.first) (b := j.epoch) (c := j.low) (by omega) (by omega) (by omega)
  have hbg : JN.begun dc a n = some ⟨a, n, j.first, j.epoch, j.low, []⟩ := by
    unfold JN.begun
    rw [hlast, if_neg (by have := h.slot.1; omega), h.slot.2]
    unfold JN.metaB
    rw [if_pos ⟨m1, by rw [m2]; omega, by rw [m3, m4]; exact hlow⟩, m2, m3, m4]
  obtain ⟨i, hi, hc, hs⟩ := crash_tail (sure := d.sure) (seen := dc.seen) (at_ := a) (n := n) (E := j.epoch) fr (j.first + old.length) (lastE j.low old) (chain_lastE old _ _ hlow h.ch).2 h.frl
    (fun k b hk => by
      have hw : (a + 2 + (j.first + old.length + k) % n, stampS (j.first + old.length + k) j.epoch b) ∈ d.pend := by rw [h.pend]; exact freshW_get _ _ _ _ hk
      obtain ⟨p, hp, e⟩ := crashL_hit d.pend d.sure qs h.nodup hidx _ hw
      exact ⟨p, hp, by rw [hS]; exact e⟩)
    (fun k hk he => by
      have hm := Nat.mod_lt (j.first + old.length + k) (show 0 < n by omega)
      by_cases h0 : k = 0
      · subst h0
        rw [if_pos rfl]
        exact h.g2 he
      · rw [if_neg h0]
        have h1 := h.g1 _ (show a + 2 ≤ a + 2 + (j.first + old.length + k) % n by omega) (by omega)
        rcases Nat.lt_or_ge (tkE (ring d.sure (a + 2 + (j.first + old.length + k) % n))) j.epoch with h2 | h2
        · exact h2
        · have := h.g3 _ (show a + 2 ≤ a + 2 + (j.first + old.length + k) % n by omega) (by omega) (by omega)
          omega)
  have hlt : (frE j.epoch (fr.take i)).length = i := by rw [frE_len, List.length_take]; omega
  have hcl : chain dc.seen a n j.epoch j.low j.first (old ++ frE j.epoch (fr.take i)) := (chain_append _ _ _ _).2 ⟨h.oldc hoth, hc⟩
  obtain ⟨d', j', r1, r2, r3, r4⟩ := open_inv (n := n) (T := T) (d := dc) (first := j.first) (epoch := j.epoch) (low := j.low) (l := old ++ frE j.epoch (fr.take i)) hup hok hlen hn hvis hbg (by rw [hlast]; omega) hT hf1 (by rw [List.length_append, hlt]; omega) hb.2.1 hlow hcl (by rw [List.length_append, hlt]; omega)
    (by
      rw [List.length_append, hlt]
      by_cases hfull : old.length + i = n
      · exact .inl hfull
      · right
        rw [lastE_append]
        rcases hs with h1 | h1
        · subst h1
          rw [List.take_length]
          intro e' b' hp
          obtain ⟨t1, t2, -⟩ := tk_parse hp
          rw [hoth _ (h.off (.inr ⟨rfl, by omega⟩))] at t1 t2
          have := h.ghost (by omega) t1
          rw [t2, lastE_append] at this
          exact .inl this
        · rw [← Nat.add_assoc]; exact h1)
    (fun p hp1 hp2 => by
      by_cases hm : p ∈ d.pend.map (·.1)
      · obtain ⟨w, hw, rfl⟩ := List.mem_map.1 hm
        obtain ⟨q, hq, e⟩ := crashL_hit d.pend d.sure qs h.nodup hidx w hw
        rw [hS, e]
        have hw2 := hw
        rw [h.pend] at hw2
        obtain ⟨k, b, hk, rfl⟩ := freshW_mem _ _ _ hw2
        have hkl := (List.getElem?_eq_some_iff.1 hk).1
        have ht := tk_stamp (seq := j.first + old.length + k) (e := j.epoch) (h.frl b (List.mem_of_getElem? hk)) (by omega) (by omega)
        have := tkE_torn (p := q) (new := stampS (j.first + old.length + k) j.epoch b) (old := ring d.sure (a + 2 + (j.first + old.length + k) % n)) hq (by rw [ht.2]; exact h.g1 _ hp1 hp2)
        rw [ht.2] at this
        exact this
      · rw [hoth p hm]; exact h.g1 p hp1 hp2)
    (fun h0 => by have := h.slot.1; rw [hlast] at h0; omega)
  exact ⟨i, d', j', hi, r1, r2, r3, fun p hp => by rw [r4 p hp, hsl p (by omega)]⟩
theorem crash_open (h : JInv N a n T d j old fr) (hT : T + 1 ≤ 1000000) (ps : List Int) : ∃ i d' j', i ≤ fr.length ∧ jopen0 (d.crash ps) a n = (d', some j', 0) ∧ JInv N a n (T + 1) d' j' (old ++ frE j.epoch (fr.take i)) [] ∧ j'.held = old ++ frE j.epoch (fr.take i) ∧ Fr a n d d' :=
  vis_open h hT ps rfl ⟨rfl, rfl⟩ (h.ok.crash ps) rfl
theorem only_open (h : JInv N a n T d j old fr) (hT : T + 1 ≤ 1000000) : ∃ i d' j', i ≤ fr.length ∧ jopen0 d a n = (d', some j', 0) ∧ JInv N a n (T + 1) d' j' (old ++ frE j.epoch (fr.take i)) [] ∧ j'.held = old ++ frE j.epoch (fr.take i) ∧ Fr a n d d' :=
  vis_open h hT (List.replicate d.pend.length 64) (by rw [h.vis]; exact flush_crash _ _) h.up h.ok h.vis
theorem sync_inv (h : JInv N a n T d j old fr) : JInv N a n T d.sync j (old ++ frE j.epoch fr) [] := by
  have hn := h.n1
  have hl := h.hl
  have hb := h.bnd
  have hT1 := h.T1
  have hidx : ∀ w ∈ d.pend, w.1 < d.sure.length := fun w hw => (h.idx w hw).2.2
  have hsy := sync_up h.up
  have hoth : ∀ q, q ∉ d.pend.map (·.1) → ring (flush d.sure d.pend) q = ring d.sure q := fun q hq => flush_other _ _ _ hq hidx
  have hlen : (old ++ frE j.epoch fr).length = old.length + fr.length := by rw [List.length_append, frE_len]
  have hch : chain (flush d.sure d.pend) a n j.epoch j.low j.first (old ++ frE j.epoch fr) := (chain_append _ _ _ _).2 ⟨h.oldc hoth, chain_fr fr _ _ (chain_lastE old _ _ h.lowE h.ch).2 h.frl fun k b hk => by
      have hw : (a + 2 + (j.first + old.length + k) % n, stampS (j.first + old.length + k) j.epoch b) ∈ d.pend := by rw [h.pend]; exact freshW_get _ _ _ _ hk
      exact flush_hit d.pend d.sure h.nodup hidx _ hw⟩
  have hpe : ∀ p, p ∈ d.pend.map (·.1) → tkE (ring (flush d.sure d.pend) p) = j.epoch ∧ tkS (ring (flush d.sure d.pend) p) < j.first + (old.length + fr.length) := by
    intro p hm
    obtain ⟨w, hw, rfl⟩ := List.mem_map.1 hm
    rw [flush_hit d.pend d.sure h.nodup hidx w hw]
    rw [h.pend] at hw
    obtain ⟨k, b, hk, rfl⟩ := freshW_mem _ _ _ hw
    have hkl := (List.getElem?_eq_some_iff.1 hk).1
    have ht := tk_stamp (seq := j.first + old.length + k) (e := j.epoch) (h.frl b (List.mem_of_getElem? hk)) (by omega) (by omega)
    exact ⟨ht.2, by rw [ht.1]; omega⟩
  have hsu : d.sync.sure = flush d.sure d.pend := by rw [hsy]
  have hse : d.sync.seen = d.seen := by rw [hsy]
  have hla : last d.sync (a : Int) = last d (a : Int) := last_cong (by rw [h.len]; omega) (by rw [hse]) (by rw [hse]) (by rw [hse])
  exact {
    up := h.up.sync, ok := h.ok.sync, len := by rw [hse]; exact h.len, at1 := h.at1, jn := h.jn, n1 := hn
    held := by rw [h.held]; simp [frE]
    hl := by rw [hlen]; simp; omega
    pend := by rw [hsy]; rfl
    vis := by rw [hsy]; exact h.vis
    f1 := h.f1
    bnd := by rw [hlen, hla]; refine ⟨?_, hb.2.1, hb.2.2⟩; simp only [List.length_nil]; omega
    T1 := hT1, lowE := h.lowE, frl := by simp
    ch := by rw [hsu]; exact hch
    slot := by rw [hla]; exact h.slot
    so := h.so.cong (by rw [h.len]; omega) (by rw [hse]) (by rw [hse]) (by rw [hse])
    g1 := fun p hp1 hp2 => by
      rw [hsu]
      by_cases hm : p ∈ d.pend.map (·.1)
      · exact Nat.le_of_eq (hpe p hm).1
      · rw [hoth p hm]; exact h.g1 p hp1 hp2
    g3 := fun p hp1 hp2 he => by
      rw [hsu] at he ⊢
      rw [hlen]
      by_cases hm : p ∈ d.pend.map (·.1)
      · exact (hpe p hm).2
      · rw [hoth p hm] at he ⊢
        have := h.g3 p hp1 hp2 he
        omega
    g2 := by
      rw [hsu, hlen]
      intro he
      by_cases hf : old.length + fr.length < n
      · rw [hoth _ (h.off (.inr ⟨rfl, hf⟩))] at he ⊢
        exact h.ghost hf he
      · have := full_end (l := old ++ frE j.epoch fr) hn.1 hch (by rw [hlen]; omega) (by omega) (by omega)
        rw [hlen] at this
        exact absurd he this }
theorem JInv.foreign (h : JInv N a n T d j old fr) (ps : List Int) {p : Nat} (hp : p < a + 2 ∨ a + 2 + n ≤ p) : ring (d.crash ps).seen p = ring d.seen p := by
  have hidx : ∀ w ∈ d.pend, w.1 < d.sure.length := fun w hw => (h.idx w hw).2.2
  show ring (crashL d.sure d.pend ps) p = _
  rw [crashL_other _ _ _ _ (h.low_slot hp) hidx, h.vis, flush_other _ _ _ (h.low_slot hp) hidx]
theorem append_inv (h : JInv N a n T d j old fr) (hT : T + 1 ≤ 1000000) (b : List By) : ∃ d' j' e, jappend d j b = (d', j', e) ∧ ((e ≠ 0 ∧ d' = d ∧ j' = j ∧ (43 < b.length ∨ j.held.length = n)) ∨ (e = 0 ∧ b.length ≤ 43 ∧ j'.held = j.held ++ [(j.epoch, b)] ∧ j'.epoch = j.epoch ∧ JInv N a n (T + 1) d' j' old (fr ++ [b]) ∧ Fr a n d d')) := by
  have hn := h.n1
  have hl := h.hl
  have hb := h.bnd
  have hhl : j.held.length = old.length + fr.length := by rw [h.held]; simp
  by_cases h1 : 43 < b.length
  · exact ⟨d, j, 2, by unfold jappend; rw [if_pos h1], .inl ⟨by omega, rfl, rfl, .inl h1⟩⟩
  · by_cases h2 : j.held.length = n
    · exact ⟨d, j, 42, by unfold jappend; rw [if_neg h1, if_pos (.inl (by rw [h.jn]; exact h2))], .inl ⟨by omega, rfl, rfl, .inr h2⟩⟩
    · have hnx : j.next = j.first + old.length + fr.length := by unfold JN.next; rw [hhl]; omega
      have hmod := Nat.mod_lt (j.first + old.length + fr.length) (show 0 < n by omega)
      have hpl : j.place j.next = a + 2 + (j.first + old.length + fr.length) % n := by unfold JN.place; rw [hnx, h.at1, h.jn]
      have hlen := h.len
      have hw := write_up h.up (i := j.place j.next) (b := stamp j.next j.epoch b) (by omega) (by rw [stamp_length (by omega)]; omega)
      have hstep : jappend d j b = (d.put (j.place j.next) (pad (stamp j.next j.epoch b)), { j with held := j.held ++ [(j.epoch, b)] }, 0) := by
        unfold jappend
        rw [if_neg h1, if_neg (by rw [h.jn]; omega), hw]
      refine ⟨_, _, _, hstep, .inr ⟨rfl, by omega, rfl, rfl, ?_, fun p hp => by simp only [DK.put]; rw [ring_set (by omega), if_neg (by omega)]⟩⟩
      have hla : last (d.put (j.place j.next) (pad (stamp j.next j.epoch b))) (a : Int) = last d (a : Int) := last_cong (by omega) (by simp [DK.put]) (by simp only [DK.put]; rw [ring_set (by omega), if_neg (by omega)]) (by simp only [DK.put]; rw [ring_set (by omega), if_neg (by omega)])
      exact {
        up := h.up
        ok := by have := h.ok.write (j.place j.next) (stamp j.next j.epoch b); rw [hw] at this; exact this
        len := by simp only [DK.put, List.length_set]; exact hlen
        at1 := h.at1, jn := h.jn, n1 := hn
        held := by simp [h.held]
        hl := by simp; omega
        pend := by
          show d.pend ++ [(j.place j.next, pad (stamp j.next j.epoch b))] = freshW a n j.epoch (j.first + old.length) (fr ++ [b])
          rw [freshW_append, h.pend, hpl, hnx]
          rfl
        vis := by
          show d.seen.set _ _ = flush d.sure (d.pend ++ [_])
          rw [flush_snoc, ← h.vis]
        f1 := h.f1
        bnd := by rw [hla]; simp only [List.length_append, List.length_singleton]; omega
        T1 := hT, lowE := h.lowE
        frl := fun x hx => by
          rcases List.mem_append.1 hx with hx | hx
          · exact h.frl x hx
          · rw [List.mem_singleton.1 hx]; omega
        ch := h.ch
        slot := by rw [hla]; exact h.slot
        so := h.so.cong (by omega) (by simp [DK.put]) (by simp only [DK.put]; rw [ring_set (by omega), if_neg (by omega)]) (by simp only [DK.put]; rw [ring_set (by omega), if_neg (by omega)])
        g1 := h.g1, g3 := h.g3, g2 := h.g2 }
end
end Go.Sl.G
/- The journal's invariant anywhere on a disk: trims, cuts, the first opening. -/
namespace Go.Sl.G
open Go Go.Sl
section
variable {N a n T : Nat} {d : DK} {j : JN} {old : List (Nat × List By)} {fr : List (List By)}
theorem JInv.heldE (h : JInv N a n T d j old fr) : j.held = old ++ frE j.epoch fr := by rw [h.held]; rfl
theorem JInv.hlen (h : JInv N a n T d j old fr) : j.held.length = old.length + fr.length := by rw [h.heldE, List.length_append, frE_len]
/-- All that is held is sure, once everything is. -/
theorem JInv.sure (h : JInv N a n T d j old fr) (hf : fr = []) : d.pend = [] ∧ d.sure = d.seen ∧ j.held = old := by
  subst hf
  have hp : d.pend = [] := by rw [h.pend]; rfl
  exact ⟨hp, by rw [h.vis, hp]; rfl, by rw [h.held]; simp⟩
theorem trim_inv (h : JInv N a n T d j old fr) (hT : T + 1 ≤ 1000000) (k : Int) : ∃ d' j' e, jtrim d j k = (d', j', e) ∧ ((e ≠ 0 ∧ d' = d ∧ j' = j ∧ (k < 0 ∨ (j.held.length : Int) < k)) ∨ (e = 0 ∧ 0 ≤ k ∧ k ≤ j.held.length ∧ j'.held = j.held.drop k.toNat ∧ JInv N a n (T + 1) d' j' j'.held [] ∧ Fr a n d d')) := by
  by_cases hk : k < 0 ∨ (j.held.length : Int) < k
  · exact ⟨d, j, 1, by unfold jtrim; rw [if_pos hk], .inl ⟨by omega, rfl, rfl, hk⟩⟩
  · obtain ⟨m, rfl⟩ : ∃ m : Nat, k = (m : Int) := ⟨k.toNat, by omega⟩
    have hm : m ≤ j.held.length := by omega
    have hS := sync_inv h
    rw [← h.heldE] at hS
    have hn := h.n1
    have hb := h.bnd
    have hT1 := h.T1
    have hlen := h.len
    have hhl := h.hlen
    obtain ⟨j1, hj1⟩ : ∃ j1 : JN, j1 = { j with low := lastE j.low (j.held.take m), first := j.first + m, held := j.held.drop m } := ⟨_, rfl⟩
    have hlo : (if 0 < (m : Int) then ((j.held[(m : Int).toNat - 1]?).getD (0, [])).1 else j.low) = lastE j.low (j.held.take m) := by
      rw [Int.toNat_natCast]
      by_cases h0 : 0 < m
      · rw [if_pos (by omega), lastE_held _ _ j.low h0 hm]
      · rw [if_neg (by omega), show m = 0 by omega]; rfl
    obtain ⟨d', s1, s2, s3, s4, s5, s6, s7, s8, s9, s10⟩ := save_up (a := a) (xs := j1.metaB) h.up h.ok (by omega) h.vis (by omega) (by rw [metaB_len]; omega)
    have hst : jtrim d j (m : Int) = (d', j1, 0) := by
      unfold jtrim
      rw [if_neg hk, hlo, Int.toNat_natCast, ← hj1]
      unfold jsave
      simp only
      rw [show ((j1.at_ : Nat) : Int) = (a : Int) by rw [hj1]; exact congrArg _ h.at1, s1]
    have hring : ∀ p, a + 2 ≤ p → ring d'.sure p = ring d.sync.sure p := fun p hp => by
      rw [s5, s7 p (by omega) (by omega), (hS.sure rfl).2.1]
      rw [sync_up h.up]
    have hd1 : j1.first + j1.held.length = j.first + j.held.length := by rw [hj1]; simp only [List.length_drop]; omega
    have hla : lastE j1.low j1.held = lastE j.low j.held := by
      rw [hj1]; simp only
      rw [← lastE_append, List.take_append_drop]
    have hch := (chain_append (j.held.take m) (j.held.drop m) j.low j.first).1 (by rw [List.take_append_drop]; exact hS.ch)
    refine ⟨d', j1, 0, hst, .inr ⟨rfl, by omega, by omega, by rw [hj1, Int.toNat_natCast], ?_, fun p hp => s7 p (by omega) (by omega)⟩⟩
    exact {
      up := s2, ok := s3, len := by rw [s6]; exact hlen, at1 := by rw [hj1]; exact h.at1, jn := by rw [hj1]; exact h.jn, n1 := hn
      held := by simp
      hl := by rw [hj1]; simp only [List.length_drop, List.length_nil]; have := h.hl; omega
      pend := by rw [s4]; rfl
      vis := by rw [s4, s5]; rfl
      f1 := by rw [hj1]; show 1 ≤ j.first + m; have := h.f1; omega
      bnd := ⟨by rw [List.length_nil]; omega, by rw [hj1]; show j.epoch ≤ _; omega, by rw [s8]; omega⟩
      T1 := hT
      lowE := by rw [hj1]; exact (chain_lastE _ _ _ h.lowE hch.1).2
      frl := by simp
      ch := by
        have e : j1.held = j.held.drop m ∧ j1.first = j.first + m ∧ j1.low = lastE j.low (j.held.take m) ∧ j1.epoch = j.epoch := by rw [hj1]; exact ⟨rfl, rfl, rfl, rfl⟩
        rw [e.1, e.2.1, e.2.2.1, e.2.2.2]
        have h2 := hch.2
        rw [List.length_take, Nat.min_eq_left hm] at h2
        exact chain_cong _ _ _ (fun i _ => hring _ (by omega)) h2
      slot := by rw [s8, s9]; exact ⟨by omega, rfl⟩
      so := s10 (fun h0 => by have := h.slot.1; omega)
      g1 := fun p hp1 hp2 => by rw [hring p hp1, show j1.epoch = j.epoch by rw [hj1]]; exact hS.g1 p hp1 hp2
      g3 := fun p hp1 hp2 he => by
        rw [hring p hp1] at he ⊢
        rw [hd1]
        exact hS.g3 p hp1 hp2 (by rw [he, hj1])
      g2 := by
        rw [hd1, hring _ (by omega), hla]
        exact hS.g2 }
/-- The places that a cut clears. -/
theorem cutL_up : ∀ (k : Nat) (d : DK) (j : JN), Up d → d.ok → d.seen.length = N → j.at_ = a → j.n = n → 1 ≤ n → a + 2 + n ≤ N → k ≤ j.held.length → d.seen = flush d.sure d.pend →
    ∃ d', cutL d j k = (d', { j with held := j.held.take (j.held.length - k) }) ∧ Up d' ∧ d'.ok ∧ d'.seen.length = N ∧ d'.seen = flush d'.sure d'.pend ∧
      (∀ p, (∀ i, j.held.length - k ≤ i → i < j.held.length → p ≠ a + 2 + (j.first + i) % n) → ring d'.seen p = ring d.seen p) ∧
      (j.held.length ≤ n → ∀ i, j.held.length - k ≤ i → i < j.held.length → ring d'.seen (a + 2 + (j.first + i) % n) = .zero)
  | 0, d, j, h1, h2, h3, _, _, _, _, _, h6 => ⟨d, by simp only [cutL, Nat.sub_zero, List.take_length], h1, h2, h3, h6, fun _ _ => rfl, fun _ i _ _ => by omega⟩
  | k + 1, d, j, h1, h2, h3, h4, h5, hn1, hn2, hk, h6 => by
    obtain ⟨j1, hj1⟩ : ∃ j1 : JN, j1 = { j with held := j.held.dropLast } := ⟨_, rfl⟩
    have hl1 : j1.held.length = j.held.length - 1 := by rw [hj1]; simp
    have hp : j1.place j1.next = a + 2 + (j.first + (j.held.length - 1)) % n := by unfold JN.place JN.next; rw [hl1, hj1]; simp only [h4, h5]
    have hm := Nat.mod_lt (j.first + (j.held.length - 1)) (show 0 < n by omega)
    have hw := write_up h1 (i := j1.place j1.next) (b := []) (by omega) (by simp)
    have hup2 : Up (d.put (j1.place j1.next) (pad [])) := h1
    have hring : ∀ p, ring (d.put (j1.place j1.next) (pad [])).seen p = if p = a + 2 + (j.first + (j.held.length - 1)) % n then .zero else ring d.seen p := fun p => by
      simp only [DK.put]; rw [ring_set (by omega), hp, pad_nil]
    have hok2 : (d.put (j1.place j1.next) (pad [])).ok := by have := h2.write (j1.place j1.next) []; rw [hw] at this; exact this
    obtain ⟨d', c1, c2, c3, c4, c5, c6, c7⟩ := cutL_up k (d.put (j1.place j1.next) (pad [])) j1 hup2 hok2 (by simp only [DK.put, List.length_set]; exact h3) (by rw [hj1]; exact h4) (by rw [hj1]; exact h5) hn1 hn2 (by omega)
      (by simp only [DK.put]; rw [flush_snoc, ← h6])
    have hf : j1.first = j.first := by rw [hj1]
    rw [hl1, hf] at c6 c7
    refine ⟨d', ?_, c2, c3, c4, c5, ?_, ?_⟩
    · simp only [cutL]
      rw [← hj1, hw]
      simp only
      rw [c1, hl1, hj1]
      simp only [JN.mk.injEq, Prod.mk.injEq, true_and]
      rw [List.dropLast_eq_take, List.take_take]
      congr 1
      omega
    · intro p hq
      rw [c6 p (fun i q1 q2 => hq i (by omega) (by omega)), hring, if_neg (hq _ (by omega) (by omega))]
    · intro hn i q1 q2
      by_cases hi : i = j.held.length - 1
      · subst hi
        rw [c6 _ (fun i r1 r2 e => by
          have := mod_ne (a := j.first + (j.held.length - 1)) (b := j.first + i) (n := n) (by omega) (by omega) (by omega)
          omega), hring, if_pos rfl]
      · exact c7 (by omega) i (by omega) (by omega)
theorem cut_inv (h : JInv N a n T d j old fr) (hT : T + 1 ≤ 1000000) (k : Int) : ∃ d' j' e, jcut d j k = (d', j', e) ∧ ((e ≠ 0 ∧ d' = d ∧ j' = j ∧ (k < 0 ∨ (j.held.length : Int) < k)) ∨ (e = 0 ∧ 0 ≤ k ∧ k ≤ j.held.length ∧ j'.held = j.held.take (j.held.length - k.toNat) ∧ JInv N a n (T + 1) d' j' j'.held [] ∧ Fr a n d d')) := by
  by_cases hk : k < 0 ∨ (j.held.length : Int) < k
  · exact ⟨d, j, 1, by unfold jcut; rw [if_pos hk], .inl ⟨by omega, rfl, rfl, hk⟩⟩
  · obtain ⟨m, rfl⟩ : ∃ m : Nat, k = (m : Int) := ⟨k.toNat, by omega⟩
    have hm : m ≤ j.held.length := by omega
    have hS := sync_inv h
    rw [← h.heldE] at hS
    have hn := h.n1
    have hb := h.bnd
    have hT1 := h.T1
    have hlen := h.len
    have hhl := h.hlen
    have hl := h.hl
    obtain ⟨d1, c1, c2, c3, c4, c5, c6, c7⟩ := cutL_up (N := N) (a := a) (n := n) m d.sync j hS.up hS.ok hS.len h.at1 h.jn hn.1 hn.2.2 hm hS.vis
    obtain ⟨j1, hj1⟩ : ∃ j1 : JN, j1 = { j with held := j.held.take (j.held.length - m), epoch := j.epoch + 1 } := ⟨_, rfl⟩
    have hsy := sync_up c2
    have hvis2 : d1.sync.seen = flush d1.sync.sure d1.sync.pend := by rw [hsy]; exact c5
    have hse : d1.sync.seen = d1.seen := by rw [hsy]
    have hS7 := hS.sure rfl
    have hla : last d1.sync (a : Int) = last d (a : Int) := by
      have hx : last d.sync (a : Int) = last d (a : Int) := by
        have : d.sync.seen = d.seen := by rw [sync_up h.up]
        exact last_cong (by omega) (by rw [this]) (by rw [this]) (by rw [this])
      rw [← hx]
      exact last_cong (by have := hS.len; omega) (by rw [hse, c4, hS.len]) (by rw [hse]; exact c6 a (fun i _ _ => by omega)) (by rw [hse]; exact c6 (a + 1) (fun i _ _ => by omega))
    obtain ⟨d', s1, s2, s3, s4, s5, s6, s7, s8, s9, s10⟩ := save_up (a := a) (xs := j1.metaB) c2.sync c3.sync (by rw [hse]; omega) hvis2 (by rw [hla]; omega) (by rw [metaB_len]; omega)
    have hst : jcut d j (m : Int) = (d', j1, 0) := by
      unfold jcut
      rw [if_neg hk, if_neg (by omega), Int.toNat_natCast, c1]
      simp only
      rw [← hj1]
      unfold jsave
      rw [show ((j1.at_ : Nat) : Int) = (a : Int) by rw [hj1]; exact congrArg _ h.at1, s1]
    have hring : ∀ p, a + 2 ≤ p → (∀ i, j.held.length - m ≤ i → i < j.held.length → p ≠ a + 2 + (j.first + i) % n) → ring d'.sure p = ring d.sync.sure p := fun p hp hq => by
      rw [s5, s7 p (by omega) (by omega), hse, c6 p hq, hS7.2.1]
    have hzero : ∀ i, j.held.length - m ≤ i → i < j.held.length → ring d'.sure (a + 2 + (j.first + i) % n) = .zero := fun i q1 q2 => by
      rw [s5, s7 _ (by omega) (by omega), hse, c7 (by omega) i q1 q2]
    have hlt : (j.held.take (j.held.length - m)).length = j.held.length - m := by rw [List.length_take]; omega
    have e : j1.held = j.held.take (j.held.length - m) ∧ j1.first = j.first ∧ j1.low = j.low ∧ j1.epoch = j.epoch + 1 := by rw [hj1]; exact ⟨rfl, rfl, rfl, rfl⟩
    have hch := (chain_append (j.held.take (j.held.length - m)) (j.held.drop (j.held.length - m)) j.low j.first).1 (by rw [List.take_append_drop]; exact hS.ch)
    have hg : ∀ p, a + 2 ≤ p → p < a + 2 + n → tkE (ring d'.sure p) ≤ j.epoch := fun p hp1 hp2 => by
      by_cases hz : ∃ i, j.held.length - m ≤ i ∧ i < j.held.length ∧ p = a + 2 + (j.first + i) % n
      · obtain ⟨i, q1, q2, rfl⟩ := hz
        rw [hzero i q1 q2, tk_zero.2]; omega
      · rw [hring p hp1 (fun i q1 q2 e => hz ⟨i, q1, q2, e⟩)]; exact hS.g1 p hp1 hp2
    refine ⟨d', j1, 0, hst, .inr ⟨rfl, by omega, by omega, by rw [hj1, Int.toNat_natCast], ?_, fun p hp => by rw [s7 p (by omega) (by omega), hse, c6 p (fun i _ _ => by have := Nat.mod_lt (j.first + i) (show 0 < n by omega); omega), sync_up h.up]⟩⟩
    exact {
      up := s2, ok := s3, len := by rw [s6, hse, c4], at1 := by rw [hj1]; exact h.at1, jn := by rw [hj1]; exact h.jn, n1 := hn
      held := by simp
      hl := by rw [e.1, hlt, List.length_nil]; omega
      pend := by rw [s4]; rfl
      vis := by rw [s4, s5]; rfl
      f1 := by rw [e.2.1]; exact h.f1
      bnd := ⟨by rw [e.1, e.2.1, hlt, List.length_nil]; omega, by rw [e.2.2.2]; omega, by rw [s8, hla]; omega⟩
      T1 := hT
      lowE := by rw [e.2.2.1, e.2.2.2]; have := h.lowE; omega
      frl := by simp
      ch := by
        rw [e.1, e.2.1, e.2.2.1, e.2.2.2]
        refine chain_E (by omega) _ _ _ (chain_cong _ _ _ (fun i hi => hring _ (by omega) fun i2 q1 q2 e2 => ?_) hch.1)
        rw [hlt] at hi
        have := mod_ne (a := j.first + i) (b := j.first + i2) (n := n) (by omega) (by omega) (by omega)
        omega
      slot := by rw [s8, s9]; exact ⟨by omega, rfl⟩
      so := s10 (fun h0 => by have := h.slot.1; rw [hla] at h0; omega)
      g1 := fun p hp1 hp2 => by rw [e.2.2.2]; exact Nat.le_succ_of_le (hg p hp1 hp2)
      g3 := fun p hp1 hp2 he => by have := hg p hp1 hp2; rw [he, e.2.2.2] at this; omega
      g2 := by
        rw [e.1, e.2.1, e.2.2.1, hlt]
        intro he
        by_cases h0 : m = 0
        · subst h0
          rw [Nat.sub_zero] at he ⊢
          rw [hring _ (by omega) (fun i q1 q2 => by omega)] at he ⊢
          rw [List.take_length]
          exact hS.g2 he
        · rw [hzero (j.held.length - m) (by omega) (by omega), tk_zero.1] at he
          have := h.f1
          omega }
/-- A journal where all is zero. -/
theorem zero_inv (hn : 1 ≤ n ∧ n ≤ 100 ∧ a + 2 + n ≤ N) (hup : Up d) (hok : d.ok) (hlen : d.seen.length = N) (hvis : d.seen = flush d.sure d.pend) (hz : ∀ p, a ≤ p → p < a + 2 + n → ring d.seen p = .zero) :
    ∃ d' j', jopen0 d a n = (d', some j', 0) ∧ JInv N a n 1 d' j' [] [] ∧ j'.held = [] ∧ Fr a n d d' := by
  have hlast : (last d (a : Int)).seq = 0 := by
    rw [last_ring (by omega), lastStep_ring (by omega), lastStep_ring (by omega), hz _ (by omega) (by omega), hz _ (by omega) (by omega)]
    rfl
  have hst : ∀ E low next, 0 < next → stops d.seen a n E low next := fun E low next h e' b' hp => by
    have := Nat.mod_lt next (show 0 < n by omega)
    rw [hz _ (by omega) (by omega)] at hp
    have := tk_parse hp
    rw [tk_zero.1] at this
    omega
  exact open_inv (n := n) (T := 0) (d := d) (first := 1) (epoch := 0) (low := 0) (l := []) hup hok hlen hn hvis (begun_zero hlast) (by omega) (by omega) (by omega) (by simp) (by omega) (by omega) trivial (by simp) (.inr (hst _ _ _ (by simp))) (fun p _ _ => by rw [hz _ (by omega) (by omega), tk_zero.2]; omega) (fun _ => by rw [hz _ (by omega) (by omega)]; exact tk_zero.1)
theorem new_ring (N p : Nat) : ring (DK.new N).seen p = .zero := by
  unfold ring DK.new
  simp only
  rw [List.getElem?_replicate]
  split <;> rfl
theorem new_ok (hN : N ≤ 512) : (DK.new N).ok := ⟨by simp [DK.new]; omega, by simp [DK.new], by simp [DK.new], by simp [DK.new]⟩
end
end Go.Sl.G
/- The journal's invariant anywhere on a disk: as the statements use it. -/
namespace Go.Sl.G
open Go Go.Sl
section
variable {N a n T T' : Nat} {d : DK} {j : JN} {old : List (Nat × List By)} {fr : List (List By)}
theorem JInv.mono (h : JInv N a n T d j old fr) (hT : T ≤ T') (h2 : T' ≤ 1000000) : JInv N a n T' d j old fr :=
  { h with bnd := ⟨by have := h.bnd; omega, by have := h.bnd; omega, by have := h.bnd; omega⟩, T1 := h2 }
theorem JInv.jok (h : JInv N a n T d j old fr) : j.ok d := by
  have h1 := h.n1; have h2 := h.bnd; have h3 := h.T1; have h4 := h.lowE; have h5 := h.hl; have h6 := h.hlen
  have h7 := h.ok.n; have h8 := h.len
  refine ⟨by rw [h.jn]; omega, by rw [h.jn, h.at1, h.len]; omega, by omega, by omega, by omega, by rw [h.jn]; omega, ?_⟩
  have hE : ∀ (l : List (Nat × List By)) (s : List Sec) (low next : Nat), chain s a n j.epoch low next l → ∀ x ∈ l, x.1 ≤ j.epoch := by
    intro l
    induction l with
    | nil => intro _ _ _ _ x hx; cases hx
    | cons y l ih =>
      intro s low next hc x hx
      obtain ⟨-, -, -, c4, c5⟩ := hc
      rcases List.mem_cons.1 hx with rfl | hx
      · exact c4
      · exact ih s _ _ c5 x hx
  intro x hx
  rw [h.held] at hx
  rcases List.mem_append.1 hx with hx | hx
  · have := hE old _ _ _ h.ch x hx; omega
  · obtain ⟨b, -, rfl⟩ := List.mem_map.1 hx
    show j.epoch < _; omega
theorem JInv.next_lt (h : JInv N a n T d j old fr) : j.next < 4294967296 := by
  have h2 := h.bnd; have h3 := h.T1; have h6 := h.hlen
  unfold JN.next; omega
theorem JInv.pl (h : JInv N a n T d j old fr) : d.pend.length ≤ 100 := by
  have h1 := h.n1; have h5 := h.hl
  rw [h.pend, freshW_len]; omega
theorem crash_sure {H : List (Nat × List By)} (h : JInv N a n T d j H []) (hT : T + 1 ≤ 1000000) (ps : List Int) : ∃ d' j', jopen0 (d.crash ps) a n = (d', some j', 0) ∧ JInv N a n (T + 1) d' j' H [] ∧ j'.held = H ∧ Fr a n d d' := by
  obtain ⟨i, d', j', -, h1, h2, h3, h4⟩ := crash_open h hT ps
  simp only [List.take_nil, frE, List.map_nil, List.append_nil] at h2 h3
  exact ⟨d', j', h1, h2, h3, h4⟩
theorem only_sure {H : List (Nat × List By)} (h : JInv N a n T d j H []) (hT : T + 1 ≤ 1000000) : ∃ d' j', jopen0 d a n = (d', some j', 0) ∧ JInv N a n (T + 1) d' j' H [] ∧ j'.held = H ∧ Fr a n d d' := by
  obtain ⟨i, d', j', -, h1, h2, h3, h4⟩ := only_open h hT
  simp only [List.take_nil, frE, List.map_nil, List.append_nil] at h2 h3
  exact ⟨d', j', h1, h2, h3, h4⟩
theorem sync_sure (h : JInv N a n T d j old fr) : JInv N a n T d.sync j j.held [] := by have := sync_inv h; rwa [← h.heldE] at this
/-- The invariant, whatever is sure. -/
def Inv (N a n T : Nat) (d : DK) (j : JN) : Prop := ∃ old fr, JInv N a n T d j old fr
theorem Inv.append (h : Inv N a n T d j) (hT : T + 1 ≤ 1000000) (b : List By) : Inv N a n (T + 1) (jappend d j b).1 (jappend d j b).2.1 := by
  obtain ⟨old, fr, h⟩ := h
  obtain ⟨d', j', e, h1, h2⟩ := append_inv h hT b
  rw [h1]
  rcases h2 with ⟨-, rfl, rfl, -⟩ | ⟨-, -, -, -, h2, -⟩
  · exact ⟨old, fr, h.mono (by omega) hT⟩
  · exact ⟨_, _, h2⟩
theorem Inv.sync (h : Inv N a n T d j) (hT : T + 1 ≤ 1000000) : Inv N a n (T + 1) d.sync j := by
  obtain ⟨old, fr, h⟩ := h
  exact ⟨_, _, (sync_inv h).mono (by omega) hT⟩
theorem Inv.trim (h : Inv N a n T d j) (hT : T + 1 ≤ 1000000) (k : Int) : Inv N a n (T + 1) (jtrim d j k).1 (jtrim d j k).2.1 := by
  obtain ⟨old, fr, h⟩ := h
  obtain ⟨d', j', e, h1, h2⟩ := trim_inv h hT k
  rw [h1]
  rcases h2 with ⟨-, rfl, rfl, -⟩ | ⟨-, -, -, -, h2, -⟩
  · exact ⟨old, fr, h.mono (by omega) hT⟩
  · exact ⟨_, _, h2⟩
theorem Inv.cut (h : Inv N a n T d j) (hT : T + 1 ≤ 1000000) (k : Int) : Inv N a n (T + 1) (jcut d j k).1 (jcut d j k).2.1 := by
  obtain ⟨old, fr, h⟩ := h
  obtain ⟨d', j', e, h1, h2⟩ := cut_inv h hT k
  rw [h1]
  rcases h2 with ⟨-, rfl, rfl, -⟩ | ⟨-, -, -, -, h2, -⟩
  · exact ⟨old, fr, h.mono (by omega) hT⟩
  · exact ⟨_, _, h2⟩
theorem Inv.crash (h : Inv N a n T d j) (hT : T + 1 ≤ 1000000) (ps : List Int) : ∃ d' j', jopen0 (d.crash ps) a n = (d', some j', 0) ∧ Inv N a n (T + 1) d' j' := by
  obtain ⟨old, fr, h⟩ := h
  obtain ⟨i, d', j', -, h1, h2, -⟩ := crash_open h hT ps
  exact ⟨d', j', h1, _, _, h2⟩
theorem Inv.again (h : Inv N a n T d j) (hT : T + 1 ≤ 1000000) : ∃ d' j', jopen0 d a n = (d', some j', 0) ∧ Inv N a n (T + 1) d' j' := by
  obtain ⟨old, fr, h⟩ := h
  obtain ⟨i, d', j', -, h1, h2, -⟩ := only_open h hT
  exact ⟨d', j', h1, _, _, h2⟩
theorem Inv.new (hN : N ≤ 512) (hn : 1 ≤ n ∧ n ≤ 100 ∧ a + 2 + n ≤ N) : ∃ d' j', jopen0 (DK.new N) a n = (d', some j', 0) ∧ Inv N a n 1 d' j' := by
  obtain ⟨d', j', h1, h2, -⟩ := zero_inv (d := DK.new N) hn ⟨rfl, rfl⟩ (new_ok hN) (by simp [DK.new]) rfl (fun p _ _ => new_ring N p)
  exact ⟨d', j', h1, _, _, h2⟩
theorem Inv.mono (h : Inv N a n T d j) (hT : T ≤ T') (h2 : T' ≤ 1000000) : Inv N a n T' d j := by
  obtain ⟨old, fr, h⟩ := h
  exact ⟨_, _, h.mono hT h2⟩
theorem Inv.jok (h : Inv N a n T d j) : j.ok d := by obtain ⟨_, _, h⟩ := h; exact h.jok
theorem Inv.ok (h : Inv N a n T d j) : d.ok := by obtain ⟨_, _, h⟩ := h; exact h.ok
theorem Inv.pl (h : Inv N a n T d j) : d.pend.length ≤ 100 := by obtain ⟨_, _, h⟩ := h; exact h.pl
theorem Inv.len (h : Inv N a n T d j) : d.seen.length = N := by obtain ⟨_, _, h⟩ := h; exact h.len
theorem Inv.next_lt (h : Inv N a n T d j) : j.next < 4294967296 := by obtain ⟨_, _, h⟩ := h; exact h.next_lt
theorem Inv.hlen (h : Inv N a n T d j) : j.held.length ≤ 100 := by
  obtain ⟨_, _, h⟩ := h
  have h1 := h.n1; have h2 := h.hl; have h3 := h.hlen
  omega
theorem Inv.clen (h : Inv N a n T d j) (ps : List Int) : (d.crash ps).seen.length = N := by
  obtain ⟨_, _, h⟩ := h
  show (crashL d.sure d.pend ps).length = N
  rw [crashL_len, h.ok.same, h.len]
theorem JInv.hb (h : JInv N a n T d j old fr) : ∀ x ∈ j.held, x.2.length ≤ 43 := by
  intro x hx
  rw [h.held] at hx
  rcases List.mem_append.1 hx with hx | hx
  · exact chain_b _ _ _ h.ch x hx
  · obtain ⟨b, hb, rfl⟩ := List.mem_map.1 hx
    exact h.frl b hb
theorem Inv.hb (h : Inv N a n T d j) : ∀ x ∈ j.held, x.2.length ≤ 43 := by obtain ⟨_, _, h⟩ := h; exact h.hb
theorem Inv.up (h : Inv N a n T d j) : Up d := by obtain ⟨_, _, h⟩ := h; exact h.up
theorem Inv.vis (h : Inv N a n T d j) : d.seen = flush d.sure d.pend := by obtain ⟨_, _, h⟩ := h; exact h.vis
theorem Inv.seq (h : Inv N a n T d j) : (last d (a : Int)).seq < 4294967295 ∧ j.at_ = a ∧ j.n = n := by obtain ⟨_, _, h⟩ := h; have := h.bnd; have := h.T1; exact ⟨by omega, h.at1, h.jn⟩
theorem Inv.lastC (h : Inv N a n T d j) (ps : List Int) : last (d.crash ps) (a : Int) = last d (a : Int) := by
  obtain ⟨_, _, h⟩ := h
  have hn := h.n1
  have hl := h.len
  have hs := h.ok.same
  have hc : (d.crash ps).seen.length = d.seen.length := by show (crashL d.sure d.pend ps).length = _; rw [crashL_len]; exact hs
  exact last_cong (by omega) hc (h.foreign ps (by omega)) (h.foreign ps (by omega))
end
end Go.Sl.G
/- Plain models: what a node must not forget, kept in a slot and a journal. -/
namespace Go.Sl
open Go
structure EN3 where
  t : Nat
  k : Int
  b : List By
  deriving DecidableEq
structure LG where
  base : Nat
  bt : Nat
  es : List EN3
  deriving DecidableEq
structure KS where
  term : Nat
  vote : Int
  log : LG
  deriving DecidableEq
def EN3.ok (x : EN3) : Prop := x.t < 18446744073709551616 ∧ 0 ≤ x.k ∧ x.k ≤ 255 ∧ x.b.length ≤ 24
instance (x : EN3) : Decidable x.ok := by unfold EN3.ok; infer_instance
/-- A record's bytes. -/
def recB (r : Nat × EN3) : List By := le r.1 8 ++ le r.2.t 8 ++ le r.2.k.toNat 1 ++ (le r.2.b.length 2 ++ r.2.b)
/-- The slot's bytes. -/
def headB (s : KS) : List By := le s.term 8 ++ le (s.vote + 1).toNat 1 ++ le s.log.base 8 ++ le s.log.bt 8
theorem headB_len (s : KS) : (headB s).length = 25 := by simp [headB, le_length]
theorem recB_len (r : Nat × EN3) : (recB r).length = 19 + r.2.b.length := by simp [recB, le_length]; omega
def LG.last (l : LG) : Nat := l.base + l.es.length
def LG.add (l : LG) (x : EN3) : LG := { l with es := l.es ++ [x] }
def LG.lastTerm (l : LG) : Nat := match l.es.getLast? with
  | some x => x.t
  | none => l.bt
/-- The log that records make. -/
def foldLog (l : LG) : List (Nat × EN3) → LG
  | [] => l
  | r :: rs => if l.base < r.1 then (if r.1 = l.last + 1 then foldLog (l.add r.2) rs else l) else foldLog l rs
def bump (s : KS) : KS := if s.term < s.log.lastTerm then { s with term := s.log.lastTerm, vote := -1 } else s
structure KP where
  j : JN
  at_ : Nat
  ring : Nat
  slot : List By
  base : Nat
  held : List (Nat × EN3)
def KS.zero : KS := ⟨0, -1, ⟨0, 0, []⟩⟩
/-- May it be kept? -/
def KS.right (s : KS) : Prop := s.term < 1152921504606846976 ∧ s.log.base < 1152921504606846976 ∧ -1 ≤ s.vote ∧ s.vote < 16 ∧ ∀ x ∈ s.log.es, 0 ≤ x.k ∧ x.k ≤ 255 ∧ x.b.length ≤ 24
instance (s : KS) : Decidable s.right := by unfold KS.right; infer_instance
def kmark (d : DK) (K : KP) (s : KS) : DK × KP × Int :=
  if headB s = K.slot then (d, { K with base := s.log.base }, 0)
  else ((save d K.at_ (headB s)).1, { K with base := s.log.base, slot := headB s }, (save d K.at_ (headB s)).2)
def ktrimN (K : KP) (l : LG) : Nat := (K.held.findIdx? fun r => decide (l.base < r.1)).getD K.held.length
def ktrim (d : DK) (K : KP) (l : LG) : DK × KP × Int :=
  if ktrimN K l = 0 then (d, K, 0)
  else ((jtrim d K.j (ktrimN K l)).1, { K with held := K.held.drop (ktrimN K l), j := (jtrim d K.j (ktrimN K l)).2.1 }, (jtrim d K.j (ktrimN K l)).2.2)
/-- How many records are the log's first ones. -/
def sameN (base : Nat) : List (Nat × EN3) → List EN3 → Nat → Nat
  | r :: rs, x :: xs, i => if r.1 = base + 1 + i ∧ r.2 = x then sameN base rs xs (i + 1) else i
  | _, _, i => i
def kcut (d : DK) (K : KP) (l : LG) : DK × KP × Int :=
  if K.held.length - sameN l.base K.held l.es 0 = 0 then (d, K, 0)
  else ((jcut d K.j ((K.held.length - sameN l.base K.held l.es 0 : Nat) : Int)).1, { K with held := K.held.take (sameN l.base K.held l.es 0), j := (jcut d K.j ((K.held.length - sameN l.base K.held l.es 0 : Nat) : Int)).2.1 }, (jcut d K.j ((K.held.length - sameN l.base K.held l.es 0 : Nat) : Int)).2.2)
def kaddL (base : Nat) : DK → KP → List EN3 → DK × KP × Int
  | d, K, [] => (d, K, 0)
  | d, K, x :: xs =>
    let r : Nat × EN3 := (base + 1 + K.held.length, x)
    let a := jappend d K.j (recB r)
    let K1 := { K with held := K.held ++ [r], j := a.2.1 }
    if a.2.2 ≠ 0 then (a.1, K1, a.2.2) else kaddL base a.1 K1 xs
def kadd (d : DK) (K : KP) (l : LG) : DK × KP × Int :=
  let a := kaddL l.base d K (l.es.drop K.held.length)
  if a.2.2 ≠ 0 then a else if l.es.drop K.held.length = [] then a else (a.1.sync, a.2.1, 0)
def ksteps (d : DK) (K : KP) (s : KS) : DK × KP × Int :=
  let a := kmark d K s
  if a.2.2 ≠ 0 then a else
  let b := ktrim a.1 a.2.1 s.log
  if b.2.2 ≠ 0 then b else
  let c := kcut b.1 b.2.1 s.log
  if c.2.2 ≠ 0 then c else
  let e := kadd c.1 c.2.1 s.log
  if e.2.2 ≠ 0 then e else (e.1, e.2.1, if e.1.down then 43 else 0)
def ksave (d : DK) (K : KP) (s : KS) : DK × KP × Int :=
  if ¬ s.right ∨ s.log.base < K.base then (d, K, 1)
  else if K.ring < s.log.es.length then (d, K, 42)
  else ksteps d K s
/-- What a slot may bear. -/
structure HOk (s : KS) : Prop where
  t : s.term < 18446744073709551616
  v : -1 ≤ s.vote ∧ s.vote < 16
  b : s.log.base < 1152921504606846976
  bt : s.log.bt < 18446744073709551616
/-- What is opened. -/
def openSt (sl : KS) (rs : List (Nat × EN3)) : KS := bump { sl with log := foldLog sl.log rs }
end Go.Sl
/- The keeper's invariant: saving, refusing, opening. -/
namespace Go.Sl
open Go
def numR (b : Nat) : List EN3 → List (Nat × EN3)
  | [] => []
  | x :: xs => (b + 1, x) :: numR (b + 1) xs
theorem numR_len : ∀ (xs : List EN3) (b : Nat), (numR b xs).length = xs.length
  | [], _ => rfl
  | x :: xs, b => by simp [numR, numR_len xs]
theorem numR_append : ∀ (xs ys : List EN3) (b : Nat), numR b (xs ++ ys) = numR b xs ++ numR (b + xs.length) ys
  | [], _, _ => rfl
  | x :: xs, ys, b => by simp only [List.cons_append, numR, numR_append xs ys, List.length_cons]; rw [show b + 1 + xs.length = b + (xs.length + 1) by omega]
theorem numR_drop : ∀ (xs : List EN3) (b m : Nat), (numR b xs).drop m = numR (b + m) (xs.drop m)
  | [], _, m => by simp [numR]
  | x :: xs, b, 0 => rfl
  | x :: xs, b, m + 1 => by simp only [numR, List.drop_succ_cons]; rw [numR_drop xs, show b + 1 + m = b + (m + 1) by omega]
theorem numR_take : ∀ (xs : List EN3) (b m : Nat), (numR b xs).take m = numR b (xs.take m)
  | [], _, m => by simp [numR]
  | x :: xs, b, 0 => rfl
  | x :: xs, b, m + 1 => by simp only [numR, List.take_succ_cons]; rw [numR_take xs]
theorem numR_nil_drop (xs : List EN3) (b c m : Nat) (h : xs.length ≤ m) : numR b (xs.drop m) = numR c (xs.drop m) := by rw [List.drop_eq_nil_of_le h]; rfl
theorem find_numR {B : Nat} : ∀ (xs : List EN3) (b : Nat), b ≤ B → ((numR b xs).findIdx? fun r => decide (B < r.1)) = if B - b < xs.length then some (B - b) else none
  | [], _, _ => by simp [numR]
  | x :: xs, b, h => by
    simp only [numR, List.findIdx?_cons]
    by_cases hb : B = b
    · subst hb
      rw [show decide (B < B + 1) = true by simp]
      simp
    · rw [show decide (B < b + 1) = false by simp; omega]
      simp only [Bool.false_eq_true, if_false, List.length_cons]
      rw [find_numR xs (b + 1) (by omega)]
      by_cases hl : B - (b + 1) < xs.length
      · rw [if_pos hl, if_pos (by omega), Option.map_some]; congr 1; omega
      · rw [if_neg hl, if_neg (by omega)]; rfl
def common : List EN3 → List EN3 → Nat
  | x :: xs, y :: ys => if x = y then common xs ys + 1 else 0
  | _, _ => 0
theorem common_le : ∀ (xs ys : List EN3), common xs ys ≤ xs.length ∧ common xs ys ≤ ys.length ∧ xs.take (common xs ys) = ys.take (common xs ys)
  | [], _ => by simp [common]
  | _ :: _, [] => by simp [common]
  | x :: xs, y :: ys => by
    simp only [common]
    split
    · rename_i h
      subst h
      obtain ⟨h1, h2, h3⟩ := common_le xs ys
      simp only [List.length_cons, List.take_succ_cons, h3]
      exact ⟨by omega, by omega, trivial⟩
    · simp
theorem sameN_eq {base : Nat} : ∀ (xs ys : List EN3) (i : Nat), sameN base (numR (base + i) xs) ys i = i + common xs ys
  | [], ys, i => by cases ys <;> simp [numR, sameN, common]
  | x :: xs, [], i => by simp [numR, sameN, common]
  | x :: xs, y :: ys, i => by
    simp only [numR, sameN, common]
    by_cases h : x = y
    · rw [if_pos ⟨by omega, h⟩, if_pos h, show base + i + 1 = base + (i + 1) by omega, sameN_eq xs ys (i + 1)]; omega
    · rw [if_neg (fun hh => h hh.2), if_neg h]; rfl
theorem le_inj {v w k : Nat} (hv : v < 2 ^ (8 * k)) (hw : w < 2 ^ (8 * k)) (h : le v k = le w k) : v = w := by
  have := congrArg ofLE h
  rw [ofLE_le, ofLE_le, Nat.mod_eq_of_lt hv, Nat.mod_eq_of_lt hw] at this
  exact this
theorem headB_inj {s s' : KS} (h : HOk s) (h' : HOk s') (e : headB s = headB s') : s.term = s'.term ∧ s.vote = s'.vote ∧ s.log.base = s'.log.base ∧ s.log.bt = s'.log.bt := by
  unfold headB at e
  simp only [List.append_assoc] at e
  obtain ⟨e1, e⟩ := List.append_inj e (by rw [le_length, le_length])
  obtain ⟨e2, e⟩ := List.append_inj e (by rw [le_length, le_length])
  obtain ⟨e3, e4⟩ := List.append_inj e (by rw [le_length, le_length])
  have h1 := h.t; have h2 := h.v; have h3 := h.b; have h4 := h.bt
  have g1 := h'.t; have g2 := h'.v; have g3 := h'.b; have g4 := h'.bt
  have k1 := le_inj (k := 8) (by omega) (by omega) e1
  have k2 := le_inj (k := 1) (by omega) (by omega) e2
  have k3 := le_inj (k := 8) (by omega) (by omega) e3
  have k4 := le_inj (k := 8) (by omega) (by omega) e4
  exact ⟨k1, by omega, k3, k4⟩
def KS.bare (s : KS) : KS := { s with log := { s.log with es := [] } }
structure KInv (N a n T : Nat) (d : DK) (K : KP) (sl : KS) (es : List EN3) : Prop where
  ji : G.JInv N (a + 2) n T d K.j K.j.held []
  jh : K.j.held.map (·.2) = (numR sl.log.base es).map recB
  sle : sl.log.es = []
  slot : ((last d (a : Int)).seq = 0 ∧ sl = .zero) ∨ ((last d (a : Int)).seq ≠ 0 ∧ (last d (a : Int)).b = headB sl)
  seq : (last d (a : Int)).seq ≤ T
  so : G.SInv a d ∨ (ring d.seen a = .zero ∧ ring d.seen (a + 1) = .zero)
  hok : HOk sl
  kslot : K.slot = headB sl
  kbase : K.base = sl.log.base
  kheld : K.held = numR sl.log.base es
  kat : K.at_ = a
  kring : K.ring = n
  esok : ∀ x ∈ es, x.ok
section
variable {N a n T : Nat} {d : DK} {K : KP} {sl : KS} {es : List EN3}
theorem KInv.len (h : KInv N a n T d K sl es) : K.j.held.length = es.length ∧ es.length ≤ n := by
  have h1 := congrArg List.length h.jh
  rw [List.length_map, List.length_map, numR_len] at h1
  have h2 := h.ji.hl
  simp only [List.length_nil] at h2
  omega
theorem KInv.mono {T' : Nat} (h : KInv N a n T d K sl es) (hT : T ≤ T') (h2 : T' ≤ 1000000) : KInv N a n T' d K sl es :=
  { h with ji := h.ji.mono hT h2, seq := by have := h.seq; omega }
/-- A journal that something else beside it was written. -/
theorem _root_.Go.Sl.G.JInv.beside {d' : DK} {j : JN} {b : Nat} (h : G.JInv N b n T d j j.held []) (hup : Up d') (hok : d'.ok) (hlen : d'.seen.length = N) (hp : d'.pend = []) (hs : d'.sure = d'.seen) (hr : ∀ p, b ≤ p → p < b + 2 + n → ring d'.seen p = ring d.seen p) : G.JInv N b n T d' j j.held [] := by
  obtain ⟨e1, e2, -⟩ := h.sure rfl
  have hn := h.n1
  have hl := h.len
  have hm : ∀ i, (j.first + i) % n < n := fun i => Nat.mod_lt _ (by omega)
  have hrS : ∀ p, b ≤ p → p < b + 2 + n → ring d'.sure p = ring d.sure p := fun p h1 h2 => by rw [hs, hr p h1 h2, e2]
  have hla : last d' (b : Int) = last d (b : Int) := last_cong (by omega) (by omega) (hr b (by omega) (by omega)) (hr (b + 1) (by omega) (by omega))
  have hb := h.bnd
  exact {
    up := hup, ok := hok, len := hlen, at1 := h.at1, jn := h.jn, n1 := hn
    held := h.held, hl := h.hl
    pend := by rw [hp]; rfl
    vis := by rw [hp, hs]; rfl
    f1 := h.f1
    bnd := by rw [hla]; exact hb
    T1 := h.T1, lowE := h.lowE, frl := h.frl
    ch := chain_cong _ _ _ (fun k _ => by have := hm k; exact hrS _ (by omega) (by omega)) h.ch
    slot := by rw [hla]; exact h.slot
    g1 := fun p h1 h2 => by rw [hrS p (by omega) h2]; exact h.g1 p h1 h2
    g3 := fun p h1 h2 he => by rw [hrS p (by omega) h2] at he ⊢; exact h.g3 p h1 h2 he
    g2 := by have := hm j.held.length; rw [hrS _ (by omega) (by omega)]; exact h.g2
    so := h.so.cong (by omega) (by omega) (hr b (by omega) (by omega)) (hr (b + 1) (by omega) (by omega)) }
theorem HOk.bare {s : KS} (h : HOk s) : HOk s.bare := ⟨h.t, h.v, h.b, h.bt⟩
/-- The slot is marked. -/
theorem kmark_ok (h : KInv N a n T d K sl es) (hT : T + 1 ≤ 1000000) (ha : a + 2 + 2 + n ≤ N) {s : KS} (hs : HOk s) :
    ∃ d', kmark d K s = (d', { K with base := s.log.base, slot := headB s }, 0) ∧ G.JInv N (a + 2) n (T + 1) d' K.j K.j.held [] ∧
      (((last d' (a : Int)).seq = 0 ∧ s.bare = .zero) ∨ ((last d' (a : Int)).seq ≠ 0 ∧ (last d' (a : Int)).b = headB s)) ∧ (last d' (a : Int)).seq ≤ T + 1 ∧ (G.SInv a d' ∨ (ring d'.seen a = .zero ∧ ring d'.seen (a + 1) = .zero)) := by
  have hseq := h.seq
  unfold kmark
  by_cases he : headB s = K.slot
  · rw [if_pos he]
    rw [h.kslot] at he
    obtain ⟨e1, e2, e3, e4⟩ := headB_inj hs h.hok he
    refine ⟨d, by rw [he, ← h.kslot], h.ji.mono (by omega) hT, ?_, by omega, h.so⟩
    rcases h.slot with ⟨h1, h2⟩ | ⟨h1, h2⟩
    · left
      refine ⟨h1, ?_⟩
      rw [h2] at e1 e2 e3 e4
      obtain ⟨st, sv, ⟨sb, sbt, ses⟩⟩ := s
      simp only at e1 e2 e3 e4
      subst e1 e2 e3 e4
      rfl
    · right; exact ⟨h1, by rw [h2, he]⟩
  · rw [if_neg he, h.kat]
    have hl := h.ji.len
    obtain ⟨d', s1, s2, s3, s4, s5, s6, s7, s8, s9, s10⟩ := G.save_up (a := a) (xs := headB s) h.ji.up h.ji.ok (by omega) h.ji.vis (by omega) (by rw [headB_len]; omega)
    rw [s1]
    refine ⟨d', rfl, (h.ji.beside s2 s3 (by omega) s4 s5 (fun p _ _ => s7 p (by omega) (by omega))).mono (by omega) hT, .inr ⟨by omega, s9⟩, by omega, .inl (s10 fun h0 => ?_)⟩
    rcases h.so with h1 | h1
    · unfold G.SInv at h1; omega
    · rw [h1.2]; exact tk_zero.1
end
end Go.Sl
/- The keeper's invariant: trims, cuts, appends, whole saves, opening. -/
namespace Go.Sl
open Go
/-- What the journal bears, sure; the slot apart. -/
structure Part (N a n T : Nat) (d : DK) (K : KP) (b : Nat) (es : List EN3) : Prop where
  ji : G.JInv N (a + 2) n T d K.j K.j.held []
  jh : K.j.held.map (·.2) = (numR b es).map recB
  kheld : K.held = numR b es
/-- The keeper's own numbers, that a call leaves. -/
def KP.same (K K' : KP) : Prop := K'.at_ = K.at_ ∧ K'.ring = K.ring ∧ K'.slot = K.slot ∧ K'.base = K.base
section
variable {N a n T b : Nat} {d : DK} {K : KP} {sl : KS} {es : List EN3}
theorem Part.len (h : Part N a n T d K b es) : K.j.held.length = es.length ∧ es.length ≤ n := by
  have h1 := congrArg List.length h.jh
  rw [List.length_map, List.length_map, numR_len] at h1
  have h2 := h.ji.hl
  simp only [List.length_nil] at h2
  omega
theorem Part.mono {T' : Nat} (h : Part N a n T d K b es) (hT : T ≤ T') (h2 : T' ≤ 1000000) : Part N a n T' d K b es := ⟨h.ji.mono hT h2, h.jh, h.kheld⟩
theorem ktrimN_eq {l : LG} (h : K.held = numR b es) (hb : b ≤ l.base) : ktrimN K l = min (l.base - b) es.length := by
  unfold ktrimN
  rw [h, find_numR es b hb, numR_len]
  split
  · rw [Option.getD_some]; omega
  · rw [Option.getD_none]; omega
theorem drop_num {m B : Nat} (hb : b ≤ B) (hm : m = min (B - b) es.length) : (numR b es).drop m = numR B (es.drop (B - b)) := by
  rw [numR_drop]
  rcases Nat.lt_or_ge (B - b) es.length with h | h
  · rw [show m = B - b by omega, show b + (B - b) = B by omega]
  · rw [show m = es.length by omega, List.drop_eq_nil_of_le (Nat.le_refl _), List.drop_eq_nil_of_le h]; rfl
theorem ktrim_ok (h : Part N a n T d K b es) (hT : T + 1 ≤ 1000000) {l : LG} (hb : b ≤ l.base) :
    ∃ d' K', ktrim d K l = (d', K', 0) ∧ Part N a n (T + 1) d' K' l.base (es.drop (l.base - b)) ∧ K.same K' ∧ G.Fr (a + 2) n d d' := by
  have hm := ktrimN_eq (l := l) h.kheld hb
  have hlen := h.len
  have hd := drop_num (es := es) hb hm
  unfold ktrim
  by_cases h0 : ktrimN K l = 0
  · rw [if_pos h0]
    rw [h0, List.drop_zero] at hd
    exact ⟨d, K, rfl, ⟨h.ji.mono (by omega) hT, by rw [h.jh, hd], by rw [h.kheld, hd]⟩, ⟨rfl, rfl, rfl, rfl⟩, fun _ _ => rfl⟩
  · rw [if_neg h0]
    obtain ⟨d', j', e, h1, h2⟩ := G.trim_inv h.ji hT ((ktrimN K l : Nat) : Int)
    rw [h1]
    rcases h2 with ⟨-, -, -, h2⟩ | ⟨rfl, -, -, h2, h3, h4⟩
    · omega
    · refine ⟨d', _, rfl, ⟨h3, ?_, ?_⟩, ⟨rfl, rfl, rfl, rfl⟩, h4⟩
      · rw [h2, Int.toNat_natCast, List.map_drop, h.jh, ← List.map_drop, hd]
      · show K.held.drop _ = _; rw [h.kheld, hd]
theorem kcut_ok {l : LG} (h : Part N a n T d K l.base es) (hT : T + 1 ≤ 1000000) :
    ∃ d' K', kcut d K l = (d', K', 0) ∧ Part N a n (T + 1) d' K' l.base (l.es.take (common es l.es)) ∧ K.same K' ∧ G.Fr (a + 2) n d d' := by
  have hs : sameN l.base K.held l.es 0 = common es l.es := by
    have := sameN_eq (base := l.base) es l.es 0
    rw [Nat.add_zero, Nat.zero_add] at this
    rw [h.kheld]; exact this
  obtain ⟨c1, c2, c3⟩ := common_le es l.es
  have hlen := h.len
  have hkl : K.held.length = es.length := by rw [h.kheld, numR_len]
  unfold kcut
  rw [hs, hkl]
  by_cases h0 : es.length - common es l.es = 0
  · rw [if_pos h0]
    have he : l.es.take (common es l.es) = es := by rw [← c3]; exact List.take_of_length_le (by omega)
    rw [he]
    exact ⟨d, K, rfl, h.mono (by omega) hT, ⟨rfl, rfl, rfl, rfl⟩, fun _ _ => rfl⟩
  · rw [if_neg h0]
    obtain ⟨d', j', e, h1, h2⟩ := G.cut_inv h.ji hT ((es.length - common es l.es : Nat) : Int)
    rw [h1]
    rcases h2 with ⟨-, -, -, h2⟩ | ⟨rfl, -, -, h2, h3, h4⟩
    · omega
    · have hlt : K.j.held.length - (es.length - common es l.es) = common es l.es := by omega
      rw [Int.toNat_natCast, hlt] at h2
      refine ⟨d', _, rfl, ⟨h3, ?_, ?_⟩, ⟨rfl, rfl, rfl, rfl⟩, h4⟩
      · rw [h2, List.map_take, h.jh, ← List.map_take, numR_take, c3]
      · show K.held.take _ = _; rw [h.kheld, numR_take, c3]
theorem rec_le {r : Nat × EN3} (h : r.2.ok) : (recB r).length ≤ 43 := by rw [recB_len]; have := h.2.2.2; omega
theorem kaddL_ok {base : Nat} : ∀ (xs : List EN3) (T : Nat) (d : DK) (K : KP) (pre : List EN3) (old : List (Nat × List By)) (fr : List (List By)), G.JInv N (a + 2) n T d K.j old fr → K.j.held.map (·.2) = (numR base pre).map recB → K.held = numR base pre →
    pre.length + xs.length ≤ n → T + xs.length ≤ 1000000 → (∀ x ∈ xs, x.ok) →
    ∃ d' K' fr', kaddL base d K xs = (d', K', 0) ∧ G.JInv N (a + 2) n (T + xs.length) d' K'.j old fr' ∧ K'.j.held.map (·.2) = (numR base (pre ++ xs)).map recB ∧ K'.held = numR base (pre ++ xs) ∧ K.same K' ∧ G.Fr (a + 2) n d d'
  | [], T, d, K, pre, old, fr, h1, h2, h3, _, _, _ => ⟨d, K, fr, rfl, h1, by rw [List.append_nil]; exact h2, by rw [List.append_nil]; exact h3, ⟨rfl, rfl, rfl, rfl⟩, fun _ _ => rfl⟩
  | x :: xs, T, d, K, pre, old, fr, h1, h2, h3, h4, h5, h6 => by
    simp only [List.length_cons] at h4 h5
    have hx := h6 x (List.mem_cons_self ..)
    have hkl : K.held.length = pre.length := by rw [h3, numR_len]
    have hjl : K.j.held.length = pre.length := by have := congrArg List.length h2; rw [List.length_map, List.length_map, numR_len] at this; exact this
    obtain ⟨d1, j1, e, q1, q2⟩ := G.append_inv h1 (by omega) (recB (base + 1 + K.held.length, x))
    have hrl := rec_le (r := (base + 1 + K.held.length, x)) hx
    rcases q2 with ⟨-, -, -, q2⟩ | ⟨rfl, -, q3, -, q5, q6⟩
    · exfalso; omega
    · obtain ⟨d', K', fr', r1, r2, r3, r4, r5, r6⟩ := kaddL_ok (base := base) xs (T + 1) d1 { K with held := K.held ++ [(base + 1 + K.held.length, x)], j := j1 } (pre ++ [x]) old _ q5
        (by show j1.held.map _ = _; rw [q3, List.map_append, h2, numR_append, List.map_append, hkl]; simp [numR, Nat.add_right_comm]) (by show K.held ++ _ = _; rw [h3, numR_append, numR_len]; simp [numR, Nat.add_right_comm]) (by simp; omega) (by omega) (fun y hy => h6 y (List.mem_cons_of_mem _ hy))
      refine ⟨d', K', fr', ?_, by rw [List.length_cons, show T + (xs.length + 1) = T + 1 + xs.length by omega]; exact r2, by rw [r3, List.append_assoc]; rfl, by rw [r4, List.append_assoc]; rfl, r5, fun p hp => by rw [r6 p hp, q6 p hp]⟩
      simp only [kaddL, q1, ne_eq, not_true_eq_false, if_false]
      exact r1
theorem kadd_ok {l : LG} {c : Nat} (hc : c ≤ l.es.length) (h : Part N a n T d K l.base (l.es.take c)) (hn : l.es.length ≤ n) (hT : T + n ≤ 1000000) (hok : ∀ x ∈ l.es, x.ok) :
    ∃ d' K', kadd d K l = (d', K', 0) ∧ Part N a n (T + n) d' K' l.base l.es ∧ K.same K' ∧ G.Fr (a + 2) n d d' ∧ d'.down = false := by
  have htl : (l.es.take c).length = c := by rw [List.length_take]; omega
  have hkl : K.held.length = c := by rw [h.kheld, numR_len, htl]
  obtain ⟨d1, K1, fr, q1, q2, q3, q4, q5, q6⟩ := kaddL_ok (base := l.base) (l.es.drop c) T d K (l.es.take c) K.j.held [] h.ji h.jh h.kheld (by rw [htl, List.length_drop]; omega) (by rw [List.length_drop]; omega) (fun x hx => hok x (List.mem_of_mem_drop hx))
  rw [List.take_append_drop] at q3 q4
  unfold kadd
  rw [hkl, q1]
  simp only [ne_eq, not_true_eq_false, if_false]
  have hS := G.sync_sure q2
  have hle : T + (l.es.drop c).length ≤ T + n := by rw [List.length_drop]; omega
  by_cases he : l.es.drop c = []
  · rw [if_pos he]
    have hcl : l.es.length ≤ c := List.drop_eq_nil_iff.1 he
    have hte : l.es.take c = l.es := List.take_of_length_le hcl
    rw [he] at q1
    simp only [kaddL, Prod.mk.injEq, and_true] at q1
    obtain ⟨rfl, rfl⟩ := q1
    rw [hte] at h
    exact ⟨d, K, rfl, h.mono (by omega) hT, ⟨rfl, rfl, rfl, rfl⟩, fun _ _ => rfl, h.ji.up.2⟩
  · rw [if_neg he]
    refine ⟨d1.sync, K1, rfl, ⟨hS.mono hle hT, q3, q4⟩, q5, fun p hp => ?_, hS.up.2⟩
    rw [show d1.sync.seen = d1.seen by rw [sync_up q2.up]]
    exact q6 p hp
/-- All that may be kept is. -/
theorem ksave_ok (h : KInv N a n T d K sl es) (hT : T + n + 3 ≤ 1000000) (ha : a + 2 + 2 + n ≤ N) {s : KS} (hs : HOk s) (hr : s.right) (hb : sl.log.base ≤ s.log.base) (hl : s.log.es.length ≤ n) (hes : ∀ x ∈ s.log.es, x.ok) :
    ∃ d' K', ksave d K s = (d', K', 0) ∧ KInv N a n (T + n + 3) d' K' s.bare s.log.es := by
  obtain ⟨d1, m1, m2, m3, m4, m5⟩ := kmark_ok h (by omega) ha hs
  have hN := m2.len
  have P1 : Part N a n (T + 1) d1 { K with base := s.log.base, slot := headB s } sl.log.base es := ⟨m2, h.jh, h.kheld⟩
  obtain ⟨d2, K2, t1, t2, t3, t4⟩ := ktrim_ok P1 (by omega) hb
  obtain ⟨d3, K3, c1, c2, c3, c4⟩ := kcut_ok t2 (by omega)
  obtain ⟨d4, K4, a1, a2, a3, a4, a5⟩ := kadd_ok (common_le _ _).2.1 c2 hl (by omega) hes
  have hfr : ∀ p, p < a + 2 → ring d4.seen p = ring d1.seen p := fun p hp => by rw [a4 p (.inl hp), c4 p (.inl hp), t4 p (.inl hp)]
  have hla : last d4 (a : Int) = last d1 (a : Int) := last_cong (by omega) (by have := a2.ji.len; omega) (hfr a (by omega)) (hfr (a + 1) (by omega))
  refine ⟨d4, K4, ?_, ?_⟩
  · unfold ksave
    rw [if_neg (by rw [h.kbase]; exact fun hh => hh.elim (fun h => h hr) (by omega)), if_neg (by rw [h.kring]; omega)]
    unfold ksteps
    simp only [m1, t1, c1, a1, ne_eq, not_true_eq_false, if_false, a5, Bool.false_eq_true]
  · obtain ⟨x1, x2, x3, x4⟩ := a3
    obtain ⟨y1, y2, y3, y4⟩ := c3
    obtain ⟨z1, z2, z3, z4⟩ := t3
    exact {
      ji := a2.ji.mono (by omega) (by omega)
      jh := a2.jh
      sle := rfl
      slot := by rw [hla]; exact m3
      seq := by rw [hla]; omega
      so := by
        rcases m5 with m5 | m5
        · exact .inl (m5.cong (by omega) (by have := a2.ji.len; omega) (hfr a (by omega)) (hfr (a + 1) (by omega)))
        · exact .inr ⟨by rw [hfr a (by omega)]; exact m5.1, by rw [hfr (a + 1) (by omega)]; exact m5.2⟩
      hok := hs.bare
      kslot := by rw [x3, y3, z3]; rfl
      kbase := by rw [x4, y4, z4]; rfl
      kheld := a2.kheld
      kat := by rw [x1, y1, z1]; exact h.kat
      kring := by rw [x2, y2, z2]; exact h.kring
      esok := hes }
theorem foldLog_num {bt : Nat} : ∀ (xs pre : List EN3) (b : Nat), foldLog ⟨b, bt, pre⟩ (numR (b + pre.length) xs) = ⟨b, bt, pre ++ xs⟩
  | [], pre, b => by simp [numR, foldLog]
  | x :: xs, pre, b => by
    simp only [numR, foldLog]
    rw [if_pos (by omega), if_pos (by unfold LG.last; rfl)]
    have := foldLog_num (bt := bt) xs (pre ++ [x]) b
    rw [List.length_append, List.length_singleton, ← Nat.add_assoc] at this
    unfold LG.add
    rw [this, List.append_assoc]; rfl
theorem openSt_num (h : KInv N a n T d K sl es) : openSt sl (numR sl.log.base es) = bump { sl with log := { sl.log with es := es } } := by
  unfold openSt
  obtain ⟨st, sv, ⟨sb, sbt, ses⟩⟩ := sl
  have hs := h.sle
  simp only at hs
  subst hs
  have := foldLog_num (bt := sbt) es [] sb
  rw [List.length_nil, Nat.add_zero, List.nil_append] at this
  simp only [this]
def KP.opened (j : JN) (a n : Nat) (sl : KS) (es : List EN3) : KP := ⟨j, a, n, headB sl, sl.log.base, numR sl.log.base es⟩
theorem kopen_ok (h : KInv N a n T d K sl es) (hT : T + 1 ≤ 1000000) (ha : a + 2 + 2 + n ≤ N) (ps : List Int) : ∃ d' j', jopen0 (d.crash ps) (a + 2) n = (d', some j', 0) ∧ j'.held = K.j.held ∧ KInv N a n (T + 1) d' (KP.opened j' a n sl es) sl es := by
  obtain ⟨d', j', h1, h2, h3, h4⟩ := G.crash_sure h.ji hT ps
  have hl := h.ji.len
  have hfr : ∀ p, p < a + 2 → ring d'.seen p = ring d.seen p := fun p hp => h4 p (.inl hp)
  have hla : last d' (a : Int) = last d (a : Int) := last_cong (by omega) (by have := h2.len; omega) (hfr a (by omega)) (hfr (a + 1) (by omega))
  refine ⟨d', j', h1, h3, ?_⟩
  have h2' : G.JInv N (a + 2) n (T + 1) d' j' j'.held [] := by rw [h3]; exact h2
  exact {
    ji := h2', jh := by show j'.held.map _ = _; rw [h3]; exact h.jh
    sle := h.sle
    slot := by rw [hla]; exact h.slot
    seq := by rw [hla]; have := h.seq; omega
    so := by
      rcases h.so with m5 | m5
      · exact .inl (m5.cong (by omega) (by have := h2.len; omega) (hfr a (by omega)) (hfr (a + 1) (by omega)))
      · exact .inr ⟨by rw [hfr a (by omega)]; exact m5.1, by rw [hfr (a + 1) (by omega)]; exact m5.2⟩
    hok := h.hok, kslot := rfl, kbase := rfl, kheld := rfl, kat := rfl, kring := rfl, esok := h.esok }
/-- A new disk's keeper. -/
theorem knew_ok (hN : N ≤ 512) (hn : 1 ≤ n ∧ n ≤ 100) (ha : a + 2 + 2 + n ≤ N) : ∃ d' j', jopen0 (DK.new N) (a + 2) n = (d', some j', 0) ∧ j'.held = [] ∧ KInv N a n 1 d' (KP.opened j' a n .zero []) .zero [] := by
  obtain ⟨d', j', h1, h2, h3, h4⟩ := G.zero_inv (d := DK.new N) (a := a + 2) (n := n) (N := N) ⟨hn.1, hn.2, by omega⟩ ⟨rfl, rfl⟩ (G.new_ok hN) (by simp [DK.new]) rfl (fun p _ _ => G.new_ring N p)
  have hz : ∀ p, p < a + 2 → ring d'.seen p = .zero := fun p hp => by rw [h4 p (.inl hp)]; exact G.new_ring N p
  have hla : (last d' (a : Int)).seq = 0 := by
    have := h2.len
    rw [last_ring (by omega), lastStep_ring (by omega), lastStep_ring (by omega), hz _ (by omega), hz _ (by omega)]
    rfl
  refine ⟨d', j', h1, h3, ?_⟩
  have h2' : G.JInv N (a + 2) n 1 d' j' j'.held [] := by rw [h3]; exact h2
  exact {
    ji := h2', jh := by show j'.held.map _ = _; rw [h3]; rfl
    sle := rfl, slot := .inl ⟨hla, rfl⟩, seq := by rw [hla]; omega
    so := .inr ⟨hz a (by omega), hz (a + 1) (by omega)⟩
    hok := ⟨by show 0 < _; omega, by show (-1 : Int) ≤ -1 ∧ (-1 : Int) < 16; omega, by show 0 < _; omega, by show 0 < _; omega⟩
    kslot := rfl, kbase := rfl, kheld := rfl, kat := rfl, kring := rfl, esok := by simp }
end
end Go.Sl
/- Strings: from bytes, one behind the other, compared. -/
namespace Go.Sl
open Go Go.RowKit
def pushB (s : ByteArray) (b : By) : ByteArray := s.push (UInt8.ofNat b.val)
def strOf (bs : List By) : ByteArray := bs.foldl pushB .empty
theorem fold_size : ∀ (bs : List By) (s : ByteArray), (bs.foldl pushB s).size = s.size + bs.length
  | [], _ => rfl
  | b :: r, s => by
    rw [List.foldl_cons, fold_size r, pushB, ByteArray.size_push, List.length_cons]; omega
theorem strOf_size (bs : List By) : (strOf bs).size = bs.length := by
  unfold strOf
  rw [fold_size]
  simp
section
variable {P : Program} {n : Nat} {s : St} {Γ Δ Θ : List A} {d : Option Tmp} {ty : TypeId} {pos : String} {af : Array Edge} {g : Option (Nat × Bool)} {v u : Value} {x y z : Operand} {T : TypeId}
theorem q_bytesStr {T' e : TypeId} {p : Bool} {a : Option Addr} {n c : Nat} {xs : List By} (h1 : P.underlying T = some (.slice e)) (h2 : P.underlying e = some (.int .u8)) (h3 : P.underlying T' = some .string) (hs : Sok 1 a n c (xs.map u8)) (hm : sl p a (xs.map u8) ∈ Γ)
    (hx : ev s x = some (.slice a n c)) : Q1 P ⟨d, .convert T T' x, ty, pos, af, g⟩ s Γ (.string (strOf xs)) := fun F w ρ ee t => by
  obtain ⟨Θ, t⟩ := Sat.mem hm t
  have hl : xs.length = n := by have := hs.len; simpa using this
  cases a with
  | none =>
    have h0 : xs = [] := by
      rcases hs.pl with h | h
      · simpa using h
      · simp [Pl] at h
    subst h0
    simp [execOp, ee _ _ hx, convert, underlying, h1, h2, h3, Conv.bytesToString, strOf]
  | some ad =>
    have hr := run_first (P := P) hs t (by simp)
    simp only [Builtin.firstCells, Nat.mul_one] at hr
    simp [execOp, ee _ _ hx, convert, underlying, h1, h2, h3, Conv.bytesToString, hr, strOf]
    rw [show pushB = fun b a => b.push (UInt8.ofFin a) by funext b a; simp [pushB]]
theorem Trip.post {P : Program} {f : FuncId} {args : Array Value} {Γ : List A} {R R' : Value → List A → Prop} (h : Trip P f args Γ R) (g : ∀ v Δ, R v Δ → ∃ Δ', R' v Δ' ∧ Imp Δ Δ') : Trip P f args Γ R' :=
  fun F w t => (h F w t).mono fun _ w' ⟨v, Δ, a, b, c, d⟩ => let ⟨Δ', e, i⟩ := g v Δ b; ⟨v, Δ', a, e, i F w' c, d⟩
theorem Trip.bufOpen {P : Program} {f : FuncId} {args : Array Value} {Γ : List A} {R : Value → List A → Prop} {sz m k : Nat} {a : Option Addr} {cs : List Value} (h : ∀ sp : List Value, Sok sz a m k cs → sp.length = (k - m) * sz ∧ (Pl a ∨ k = 0) → Trip P f args (sl true a cs :: cells true (blk a) (off a + cs.length) sp :: Γ) R) : Trip P f args (buf sz a m k cs :: Γ) R := fun F w t => by
  obtain ⟨h1, sp, h2, t⟩ := Sat.buf.1 t
  exact h sp h1 h2 F w (Imp.split true (blk a) (off a) cs sp Γ F w t)
end
theorem Imp.slTake {p : Bool} {a : Option Addr} {cs : List Value} (m : Nat) {Γ : List A} : Imp (sl p a cs :: Γ) (sl p a (cs.take m) :: Γ) := fun F w t => by
  have h := Imp.split p (blk a) (off a) (cs.take m) (cs.drop m) Γ F w (by rw [List.take_append_drop]; exact t)
  exact Imp.cons _ (Imp.drop _ _) F w h
theorem Sok.take {sz : Nat} {a : Option Addr} {n c m : Nat} {cs : List Value} (h : Sok sz a n c cs) (hm : m ≤ n) : Sok sz a m c (cs.take (m * sz)) := by
  refine ⟨?_, Nat.le_trans hm h.cap, ?_⟩
  · rw [List.length_take, h.len]; exact Nat.min_eq_left (Nat.mul_le_mul_right _ hm)
  · rcases h.pl with h | h
    · left; rw [h]; simp
    · exact .inr h
theorem Imp.slCut {p : Bool} {sz : Nat} {a : Option Addr} {n c l : Nat} {cs : List Value} (h : Sok sz a n c cs) (hl : l ≤ n) {Γ : List A} : Imp (sl p a cs :: Γ) (sl p (cut a c l (l * sz)) (cs.drop (l * sz)) :: Γ) := fun F w t => by
  have e0 : ∀ h0 : cs.drop (l * sz) = [], Sat (sl p (cut a c l (l * sz)) (cs.drop (l * sz)) :: Γ) F w := fun h0 => by
    rw [h0]; exact Imp.slEmpty F w (Imp.drop _ _ F w t)
  have hlen := h.len
  have hcap := h.cap
  by_cases hc : c = l
  · exact e0 (List.drop_eq_nil_of_le (by rw [hlen]; exact Nat.mul_le_mul_right _ (by omega)))
  · rcases h.pl with h1 | h1
    · exact e0 (by rw [h1]; simp)
    · rw [cut_pl h1 hc]
      have h2 := Imp.split p (blk a) (off a) (cs.take (l * sz)) (cs.drop (l * sz)) Γ F w (by rw [List.take_append_drop]; exact t)
      have h3 : (cs.take (l * sz)).length = l * sz := by rw [List.length_take, hlen]; exact Nat.min_eq_left (Nat.mul_le_mul_right _ hl)
      rw [h3] at h2
      exact Imp.drop _ _ F w h2
theorem sokCut {sz : Nat} {a : Option Addr} {n c l : Nat} {cs : List Value} (h : Sok sz a n c cs) (hl : l ≤ n) : Sok sz (cut a c l (l * sz)) (n - l) (c - l) (cs.drop (l * sz)) := by
  refine ⟨?_, ?_, ?_⟩
  · rw [List.length_drop, h.len, Nat.sub_mul]
  · have := h.cap; omega
  · rcases h.pl with h1 | h1
    · left; rw [h1]; simp
    · exact .inr h1.cut.1
theorem Sok.bsTake {a : Option Addr} {n c m : Nat} {zs : List BS} (h : Sok 1 a n c (zs.map bsV)) (hm : m ≤ n) : Sok 1 a m c ((zs.take m).map bsV) := by
  have := h.take hm
  rwa [Nat.mul_one, ← List.map_take] at this
theorem sokBsDrop {a : Option Addr} {n c m : Nat} {zs : List BS} (h : Sok 1 a n c (zs.map bsV)) (hm : m ≤ n) : Sok 1 (cut a c m (m * 1)) (n - m) (c - m) ((zs.drop m).map bsV) := by
  have := sokCut h hm
  simp only [Nat.mul_one, ← List.map_drop] at this ⊢
  exact this
theorem Imp.bsTake {p : Bool} {a : Option Addr} {zs : List BS} (m : Nat) {Γ : List A} : Imp (sl p a (zs.map bsV) :: Γ) (sl p a ((zs.take m).map bsV) :: Γ) := by
  rw [List.map_take]; exact Imp.slTake m
theorem Imp.bsDrop {p : Bool} {a : Option Addr} {n c m : Nat} {zs : List BS} (h : Sok 1 a n c (zs.map bsV)) (hm : m ≤ n) {Γ : List A} : Imp (sl p a (zs.map bsV) :: Γ) (sl p (cut a c m (m * 1)) ((zs.drop m).map bsV) :: Γ) := by
  have := Imp.slCut (p := p) (Γ := Γ) h hm
  simp only [Nat.mul_one, ← List.map_drop] at this ⊢
  exact this
theorem bytes_cong {xs ys : List BS} (h : ∀ y ∈ ys, y ∈ xs) {Γ : List A} : Imp (bytes xs :: Γ) (bytes ys :: Γ) := (bytes_sub h).trans (Imp.cons _ (Imp.drop _ _))
end Go.Sl
/- Where entries, states and keepers lie. -/
namespace Go.Sl
open Go
structure RE where
  t : Nat
  k : Int
  b : BS
def RE.zero : RE := ⟨0, 0, ⟨[], none, 0, 0⟩⟩
abbrev encE (e : RE) : List Value := [.int .u64 (e.t : Int), .int .i64 e.k, bsV e.b]
theorem encE_len (e : RE) : (encE e).length = 3 := rfl
def RE.pl (e : RE) : EN3 := ⟨e.t, e.k, e.b.bs⟩
structure RR where
  at_ : Nat
  x : RE
abbrev encRR (r : RR) : List Value := [.int .u64 (r.at_ : Int), .int .u64 (r.x.t : Int), .int .i64 r.x.k, bsV r.x.b]
theorem encRR_len (r : RR) : (encRR r).length = 4 := rfl
theorem encRR_one (l : List RR) : ∀ q ∈ l.flatMap encRR, q.oneCell' = true := by
  intro q hq
  obtain ⟨m, -, hm⟩ := List.mem_flatMap.1 hq
  simp only [encRR, List.mem_cons, List.not_mem_nil, or_false] at hm
  rcases hm with rfl | rfl | rfl | rfl <;> rfl
theorem encE_one (l : List RE) : ∀ q ∈ l.flatMap encE, q.oneCell' = true := by
  intro q hq
  obtain ⟨m, -, hm⟩ := List.mem_flatMap.1 hq
  simp only [encE, List.mem_cons, List.not_mem_nil, or_false] at hm
  rcases hm with rfl | rfl | rfl <;> rfl
def RR.pl (r : RR) : Nat × EN3 := (r.at_, r.x.pl)
/- Logs. -/
def lgEntry (base : Int) (es : List RE) (i : Int) : Option RE := if base < i then es[(i - base - 1).toNat]? else none
def lgTerm (base bt : Int) (es : List RE) (i : Int) : Option Int := if i = base then some bt else (lgEntry base es i).map (fun e => (e.t : Int))
def lgLastTerm (bt : Int) (es : List RE) : Int := match es.getLast? with
  | some e => e.t
  | none => bt
theorem lgEntry_none {base : Int} {es : List RE} {i : Int} (h : ¬ (base < i ∧ i ≤ base + es.length)) : lgEntry base es i = none := by
  unfold lgEntry
  split
  · rw [List.getElem?_eq_none]; omega
  · rfl
theorem lgTerm_last (base bt : Int) (es : List RE) : lgTerm base bt es (base + es.length) = some (lgLastTerm bt es) := by
  unfold lgTerm lgLastTerm lgEntry
  cases es with
  | nil => simp
  | cons e r =>
    rw [if_neg (by simp; omega), if_pos (by simp; omega)]
    have h : (base + ((e :: r).length : Int) - base - 1).toNat = (e :: r).length - 1 := by simp; omega
    rw [h, ← List.getLast?_eq_getElem?]
    cases hl : (e :: r).getLast? with
    | none => simp at hl
    | some x => rfl
theorem idx_of {α : Type} {f : α → Bool} {xs : List α} {i : Int} (h : (i = -1 ∧ ∀ x ∈ xs, f x = false) ∨ ∃ (j : Nat) (x : α), i = (j : Int) ∧ xs[j]? = some x ∧ f x = true ∧ ∀ x ∈ xs.take j, f x = false) :
    (i = -1 ∧ xs.findIdx? f = none ∧ xs.any f = false) ∨ ∃ j : Nat, i = (j : Int) ∧ xs.findIdx? f = some j ∧ j < xs.length ∧ xs.any f = true := by
  rcases h with ⟨h1, h2⟩ | ⟨j, x, h1, h2, h3, h4⟩
  · exact .inl ⟨h1, by rw [List.findIdx?_eq_none_iff]; exact h2, by rw [List.any_eq_false]; exact fun x hx => by rw [h2 x hx]; simp⟩
  · obtain ⟨hj, hx⟩ := List.getElem?_eq_some_iff.1 h2
    refine .inr ⟨j, h1, ?_, hj, by rw [List.any_eq_true]; exact ⟨x, List.mem_of_getElem? h2, h3⟩⟩
    rw [List.findIdx?_eq_some_iff_getElem]
    refine ⟨hj, by rw [hx]; exact h3, fun k hk => ?_⟩
    have := h4 (xs[k]'(by omega)) (List.mem_take_iff_getElem.2 ⟨k, by omega, rfl⟩)
    simp [this]
/- States. -/
structure SV where
  term : Nat
  vote : Int
  base : Nat
  bt : Nat
  es : List RE
  a : Option Addr
  n : Nat
  c : Nat
abbrev lgV (s : SV) : List Value := [.int .u64 (s.base : Int), .int .u64 (s.bt : Int), .slice s.a s.n s.c]
abbrev stV (s : SV) : List Value := [.int .u64 (s.term : Int), .int .i64 s.vote, .int .u64 (s.base : Int), .int .u64 (s.bt : Int), .slice s.a s.n s.c]
def SV.lg (s : SV) : LG := ⟨s.base, s.bt, s.es.map RE.pl⟩
def SV.ks (s : SV) : KS := ⟨s.term, s.vote, s.lg⟩
structure SV.ok (s : SV) : Prop where
  sk : Sok 3 s.a s.n s.c (s.es.flatMap encE)
  n : s.n < 9223372036854775808
  b : ∀ e ∈ s.es, e.b.ok
  u : s.term < 18446744073709551616 ∧ s.base < 18446744073709551616 ∧ s.bt < 18446744073709551616
  t : ∀ e ∈ s.es, e.t < 18446744073709551616
theorem SV.ok.len {s : SV} (h : s.ok) : s.es.length = s.n := by have := h.sk.len; rw [flat_length encE_len] at this; omega
abbrev SV.ents (s : SV) : A := sl false s.a (s.es.flatMap encE)
abbrev SV.dat (s : SV) : A := bytes (s.es.map RE.b)
theorem lgLastTerm_eq (s : SV) : lgLastTerm (s.bt : Int) s.es = ((s.lg.lastTerm : Nat) : Int) := by
  unfold lgLastTerm LG.lastTerm SV.lg
  simp only [List.getLast?_map]
  cases s.es.getLast? <;> rfl
theorem SV.ok.last {s : SV} (h : s.ok) : s.lg.lastTerm < 18446744073709551616 := by
  unfold LG.lastTerm SV.lg
  simp only [List.getLast?_map]
  cases hl : s.es.getLast? with
  | none => exact h.u.2.2
  | some x => exact h.t x (List.mem_of_getLast? hl)
theorem foldLog_step {l : LG} {rs : List (Nat × EN3)} {i : Nat} {r : Nat × EN3} (h : rs[i]? = some r) : foldLog l (rs.drop i) = if l.base < r.1 then (if r.1 = l.last + 1 then foldLog (l.add r.2) (rs.drop (i + 1)) else l) else foldLog l (rs.drop (i + 1)) := by
  rw [drop_step h]; rfl
/-- What no entry may be. -/
def RE.bad (e : RE) : Bool := decide (e.k < 0) || decide (e.k > 255) || decide ((e.b.n : Int) > 24)
theorem right_of {s : SV} (h : s.ok) : s.ks.right ↔ s.term < 1152921504606846976 ∧ s.base < 1152921504606846976 ∧ -1 ≤ s.vote ∧ s.vote < 16 ∧ s.es.any RE.bad = false := by
  unfold KS.right SV.ks SV.lg
  simp only [List.any_eq_false, List.mem_map, forall_exists_index, and_imp, forall_apply_eq_imp_iff₂]
  refine and_congr_right fun _ => and_congr_right fun _ => and_congr_right fun _ => and_congr_right fun _ => forall_congr' fun e => forall_congr' fun he => ?_
  have hb := (h.b e he).n
  unfold RE.bad RE.pl
  simp only [Bool.or_eq_true, decide_eq_true_eq]
  rw [hb]
  omega
theorem rightE_eq {s : SV} (h : s.ok) : (decide ((s.term : Int) < 1152921504606846976) && decide ((s.base : Int) < 1152921504606846976) && decide (s.vote ≥ -1) && decide (s.vote < 16) && !s.es.any RE.bad) = decide s.ks.right := by
  rw [Bool.eq_iff_iff, decide_eq_true_iff, right_of h]
  simp only [Bool.and_eq_true, decide_eq_true_eq, Bool.not_eq_true', and_assoc]
  exact and_congr (by omega) (and_congr (by omega) Iff.rfl)
theorem flat_dropE (es : List RE) (l : Nat) (h : l ≤ es.length) : (es.flatMap encE).drop (l * 3) = (es.drop l).flatMap encE := by
  have := congrArg (List.flatMap encE) (List.take_append_drop l es)
  rw [List.flatMap_append] at this
  rw [← this]
  exact List.drop_left' (by rw [flat_length encE_len, List.length_take]; congr 1; omega)
theorem SV.ok.drop {s : SV} (h : s.ok) {l : Nat} (hl : l ≤ s.n) : Sok 3 (cut s.a s.c l (l * 3)) (s.n - l) (s.c - l) ((s.es.drop l).flatMap encE) ∧ ∀ Γ, Imp (s.ents :: Γ) (sl false (cut s.a s.c l (l * 3)) ((s.es.drop l).flatMap encE) :: s.ents :: Γ) := by
  have hlen := h.len
  have hcap := h.sk.cap
  refine ⟨⟨?_, by omega, ?_⟩, fun Γ => ?_⟩
  · rw [flat_length encE_len, List.length_drop, hlen]
  · by_cases hc : l = s.n
    · left; rw [List.drop_eq_nil_of_le (by omega)]; rfl
    · right
      have hp : Pl s.a := h.sk.at (by omega) (by omega)
      rw [cut_pl hp (by omega)]
      exact Pl.mk _ _
  · rw [← flat_dropE _ _ (by omega)]
    exact fun F w t => Imp.slCut h.sk hl F w (Sat.dup (Pers.cells _ _ _) t)
theorem lgEntry_mem {base i : Int} {es : List RE} {e : RE} (h : lgEntry base es i = some e) : e ∈ es := by
  unfold lgEntry at h
  split at h
  · exact List.mem_of_getElem? h
  · cases h
theorem SV.ok.get {s : SV} (h : s.ok) (i : Int) : ((lgEntry s.base s.es i).getD RE.zero).b.ok ∧ ∀ Γ, Imp (s.dat :: Γ) (((lgEntry s.base s.es i).getD RE.zero).b.at_ :: s.dat :: Γ) := by
  cases he : lgEntry s.base s.es i with
  | none => exact ⟨⟨rfl, Nat.le_refl _, .inl rfl⟩, fun Γ => Imp.slEmpty⟩
  | some e => exact ⟨h.b e (lgEntry_mem he), fun Γ => bytes_one (List.mem_map.2 ⟨e, lgEntry_mem he, rfl⟩)⟩
/-- Is an entry the log's? -/
def sameE (s : SV) (r : RR) : Bool := match lgEntry s.base s.es r.at_ with
  | some e => decide (e.pl = r.x.pl)
  | none => false
theorem sameE_eq (s : SV) (r : RR) : ((lgEntry s.base s.es r.at_).isSome && (((lgEntry s.base s.es r.at_).getD RE.zero).t : Int) == (r.x.t : Int) && ((lgEntry s.base s.es r.at_).getD RE.zero).k == r.x.k && decide (((lgEntry s.base s.es r.at_).getD RE.zero).b.bs = r.x.b.bs)) = sameE s r := by
  unfold sameE
  cases lgEntry s.base s.es r.at_ with
  | none => rfl
  | some e =>
    simp only [Option.isSome_some, Option.getD_some, Bool.true_and]
    rw [Bool.eq_iff_iff, decide_eq_true_iff]
    unfold RE.pl
    simp only [Bool.and_eq_true, beq_iff_eq, decide_eq_true_eq, EN3.mk.injEq, Int.natCast_inj, and_assoc]
theorem same09_eq {b bt b2 bt2 : Nat} {x y : List RE} : (((b : Int) == (b2 : Int)) && ((bt : Int) == (bt2 : Int)) && decide (x.map RE.pl = y.map RE.pl)) = decide ((⟨b, bt, x.map RE.pl⟩ : LG) = ⟨b2, bt2, y.map RE.pl⟩) := by
  rw [Bool.eq_iff_iff, decide_eq_true_iff]
  simp only [Bool.and_eq_true, beq_iff_eq, decide_eq_true_eq, LG.mk.injEq, Int.natCast_inj, and_assoc]
theorem same14_eq {s t : SV} : (((s.term : Int) == (t.term : Int)) && (s.vote == t.vote) && decide (s.lg = t.lg)) = decide (s.ks = t.ks) := by
  rw [Bool.eq_iff_iff, decide_eq_true_iff]
  unfold SV.ks
  simp only [Bool.and_eq_true, beq_iff_eq, decide_eq_true_eq, KS.mk.injEq, Int.natCast_inj, and_assoc]
theorem pl_ne {x y : RE} (h : x.pl = y.pl) : x.t = y.t ∧ x.k = y.k ∧ x.b.bs = y.b.bs := by
  unfold RE.pl at h
  simp only [EN3.mk.injEq] at h
  exact h
/- Keepers. -/
theorem rd_cutR {P : Program} {Γ : List A} {ab ao c k n : Nat} {rs : List RR} {sp : List Value} (hm : cells true ab ao (rs.flatMap encRR ++ sp) ∈ Γ) (hk : k ≤ n) (hn : rs.length = n) (hc : n ≤ c) : Rd P 4 Γ (.slice (cut (some ⟨ab, ao, none⟩) c k (k * 4)) (n - k) (c - k)) (n - k) ((rs.drop k).flatMap encRR) := by
  by_cases h : k = n
  · subst h
    rw [List.drop_eq_nil_of_le (by omega), Nat.sub_self]
    exact Rd.zero
  · rw [cut_pl (Pl.mk _ _) (by omega)]
    refine Rd.part (i := k * 4) hm rfl (by rw [flat_length encRR_len, List.length_drop, hn]) ?_
    have e : (rs.flatMap encRR ++ sp).drop (k * 4) = (rs.drop k).flatMap encRR ++ sp := by
      rw [List.drop_append_of_le_length (by rw [flat_length encRR_len]; omega)]
      congr 1
      have := congrArg (List.flatMap encRR) (List.take_append_drop k rs)
      rw [List.flatMap_append] at this
      rw [← this, List.drop_left' (by rw [flat_length encRR_len, List.length_take]; congr 1; omega)]
    rw [e, List.take_left]
theorem del_listR {k n : Nat} {rs : List RR} {sp Z : List Value} (hk : k ≤ n) (hn : rs.length = n) :
    ((rs.drop k).flatMap encRR ++ (rs.flatMap encRR ++ sp).drop ((n - k) * 4)).take ((n - k) * 4) ++ Z ++ ((rs.drop k).flatMap encRR ++ (rs.flatMap encRR ++ sp).drop ((n - k) * 4)).drop ((n - k) * 4 + k * 4) = (rs.drop k).flatMap encRR ++ (Z ++ sp) := by
  have hD : ((rs.drop k).flatMap encRR).length = (n - k) * 4 := by rw [flat_length encRR_len, List.length_drop, hn]
  have hL : (rs.flatMap encRR).length = n * 4 := by rw [flat_length encRR_len, hn]
  rw [List.take_left' hD, List.append_assoc]
  congr 2
  rw [← List.drop_drop, List.drop_left' hD, List.drop_drop]
  exact List.drop_left' (by rw [hL]; omega)
theorem sameN_step {s : SV} {held : List (Nat × EN3)} {r : RR} {k : Nat} (hr : held[k]? = some r.pl) : sameN s.base (held.drop k) ((s.es.map RE.pl).drop k) k = if r.at_ = s.base + 1 + k ∧ sameE s r = true then sameN s.base (held.drop (k + 1)) ((s.es.map RE.pl).drop (k + 1)) (k + 1) else k := by
  rw [drop_step hr]
  have hE : r.at_ = s.base + 1 + k → lgEntry s.base s.es r.at_ = s.es[k]? := by
    intro h
    unfold lgEntry
    rw [if_pos (by omega), show ((r.at_ : Int) - (s.base : Int) - 1).toNat = k by omega]
  cases hx : s.es[k]? with
  | none =>
    have hk : s.es.length ≤ k := List.getElem?_eq_none_iff.1 hx
    rw [List.drop_eq_nil_of_le (show (s.es.map RE.pl).length ≤ k by rw [List.length_map]; exact hk), if_neg]
    · rfl
    · rintro ⟨h1, h2⟩
      unfold sameE at h2
      rw [hE h1, hx] at h2
      cases h2
  | some e =>
    have hx2 : (s.es.map RE.pl)[k]? = some e.pl := by rw [List.getElem?_map, hx]; rfl
    rw [drop_step hx2]
    simp only [sameN]
    refine ite_congr (propext ?_) (fun _ => rfl) (fun _ => rfl)
    show r.at_ = s.base + 1 + k ∧ r.x.pl = e.pl ↔ _
    refine and_congr_right fun h1 => ?_
    unfold sameE
    rw [hE h1, hx]
    simp only [decide_eq_true_eq]
    exact eq_comm
theorem sameN_done {s : SV} {held : List (Nat × EN3)} {xs : List EN3} {k : Nat} (h : held.length ≤ k) : sameN s.base (held.drop k) xs k = k := by rw [List.drop_eq_nil_of_le h]; rfl
theorem ktrimN_of {K : KP} {hs : List RR} {s : SV} {i : Int} (hheld : hs.map RR.pl = K.held) (hi : (i = -1 ∧ ∀ x ∈ hs, decide ((x.at_ : Int) > (s.base : Int)) = false) ∨ ∃ (j : Nat) (x : RR), i = (j : Int) ∧ hs[j]? = some x ∧ decide ((x.at_ : Int) > (s.base : Int)) = true ∧ ∀ x ∈ hs.take j, decide ((x.at_ : Int) > (s.base : Int)) = false) :
    (i = -1 ∧ ktrimN K s.lg = hs.length) ∨ (i = (ktrimN K s.lg : Int) ∧ ktrimN K s.lg ≤ hs.length) := by
  have h := idx_of (f := fun x : RR => decide ((x.at_ : Int) > (s.base : Int))) hi
  have e : K.held.findIdx? (fun r => decide (s.lg.base < r.1)) = hs.findIdx? (fun x : RR => decide ((x.at_ : Int) > (s.base : Int))) := by
    rw [← hheld, List.findIdx?_map]
    congr 1
    funext x
    simp only [Function.comp_apply]
    exact decide_eq_decide.2 (by show s.base < x.at_ ↔ _; omega)
  have hl : K.held.length = hs.length := by rw [← hheld, List.length_map]
  unfold ktrimN
  rw [e, hl]
  rcases h with ⟨h1, h2, -⟩ | ⟨j, h1, h2, h3, -⟩
  · left; rw [h2]; exact ⟨h1, rfl⟩
  · right; rw [h2]; exact ⟨h1, by rw [Option.getD_some]; omega⟩

structure KL where
  sa : Option Addr
  sc : Nat
  hs : List RR
  ha : Option Addr
  hc : Nat
abbrev kprC (db jb : Nat) (K : KP) (L : KL) : List Value := [.pointer (some ⟨db, 0, none⟩), .pointer (some ⟨jb, 0, none⟩), .int .i64 (K.at_ : Int), .int .i64 (K.ring : Int), .slice L.sa K.slot.length L.sc, .int .u64 (K.base : Int), .slice L.ha L.hs.length L.hc]
structure KOk (K : KP) (L : KL) : Prop where
  s : Sok 1 L.sa K.slot.length L.sc (K.slot.map u8)
  held : L.hs.map RR.pl = K.held
  ok : ∀ r ∈ L.hs, r.x.b.ok
abbrev kprL (b db jb : Nat) (K : KP) (L : KL) : List A := [pu (KOk K L), cells true b 0 (kprC db jb K L), sl false L.sa (K.slot.map u8), buf 4 L.ha L.hs.length L.hc (L.hs.flatMap encRR), bytes (L.hs.map (·.x.b))]
def kpr (b db jb : Nat) (K : KP) : A := ex fun L => grp (kprL b db jb K L)
theorem kpr_close {b db jb : Nat} {K : KP} (L : KL) (h : KOk K L) {Γ : List A} : Imp (cells true b 0 (kprC db jb K L) :: sl false L.sa (K.slot.map u8) :: buf 4 L.ha L.hs.length L.hc (L.hs.flatMap encRR) :: bytes (L.hs.map (·.x.b)) :: Γ) (kpr b db jb K :: Γ) :=
  (Imp.pu h).trans (Imp.packg (L := fun L => kprL b db jb K L) L)
theorem kpr_open {P : Program} {f : FuncId} {args : Array Value} {b db jb : Nat} {K : KP} {Γ : List A} {R : Value → List A → Prop} (h : ∀ L, KOk K L → Trip P f args (cells true b 0 (kprC db jb K L) :: sl false L.sa (K.slot.map u8) :: buf 4 L.ha L.hs.length L.hc (L.hs.flatMap encRR) :: bytes (L.hs.map (·.x.b)) :: Γ) R) : Trip P f args (kpr b db jb K :: Γ) R :=
  Trip.exg (L := fun L => kprL b db jb K L) fun L => Trip.pure (h L)
/- Bytes as records and heads have them. -/
theorem rtake_app (xs ys : List By) : rtake (xs ++ ys) false xs.length = (xs, ys, false) := by
  unfold rtake
  rw [if_neg (by simp), List.take_left, List.drop_left]
theorem rtake_le (v k : Nat) (ys : List By) : rtake (le v k ++ ys) false k = (le v k, ys, false) := by
  have := rtake_app (le v k) ys
  rwa [le_length] at this
theorem strOf_inj {xs ys : List By} : ((strOf xs).toList == (strOf ys).toList) = decide (xs = ys) := by
  have hl : ∀ (zs : List By) (s : ByteArray), (zs.foldl pushB s).data.toList = s.data.toList ++ zs.map fun b => UInt8.ofNat b.val := by
    intro zs
    induction zs with
    | nil => simp
    | cons z zs ih => intro s; rw [List.foldl_cons, ih]; simp [pushB]
  have hi : ∀ a b : By, UInt8.ofNat a.val = UInt8.ofNat b.val → a = b := by
    intro a b h
    have := congrArg UInt8.toNat h
    simp only [UInt8.toNat_ofNat'] at this
    have ha := a.2; have hb := b.2
    exact Fin.ext (by omega)
  rw [Bool.eq_iff_iff, beq_iff_eq, decide_eq_true_iff]
  refine ⟨fun h => ?_, fun h => by rw [h]⟩
  have h2 : (strOf xs).data.toList = (strOf ys).data.toList := by
    rw [ByteArray.toList_eq, ByteArray.toList_eq] at h; exact h
  unfold strOf at h2
  rw [hl, hl] at h2
  simp only [List.append_cancel_left_eq] at h2
  exact List.map_inj_right (fun a b h => hi a b h) |>.1 h2
end Go.Sl
/- What every call keeps, also on a disk that goes down. -/
namespace Go.Sl
open Go
theorem kadd_err {d : DK} {K : KP} {l : LG} {X : DK × KP × Int} (h : X = kaddL l.base d K (l.es.drop K.held.length)) (e : X.2.2 ≠ 0) : kadd d K l = X := by
  unfold kadd; simp only [← h, if_pos e]
theorem kadd_sync {d d' : DK} {K K' : KP} {l : LG} (h : (d', K', 0) = kaddL l.base d K (l.es.drop K.held.length)) (e : l.es.drop K.held.length ≠ []) : kadd d K l = (d'.sync, K', 0) := by
  unfold kadd; simp only [← h, if_neg e, ne_eq, not_true_eq_false, if_false]
theorem kadd_nil {d d' : DK} {K K' : KP} {l : LG} (h : (d', K', 0) = kaddL l.base d K (l.es.drop K.held.length)) (e : l.es.drop K.held.length = []) : kadd d K l = (d', K', 0) := by
  unfold kadd; simp only [← h, if_pos e, ne_eq, not_true_eq_false, if_false]
structure Fit (N : Nat) (d : DK) (j : JN) (m : Nat) : Prop where
  ok : d.ok
  len : d.seen.length = N
  jok : j.ok d
  pend : d.pend.length ≤ m
theorem JN.ok.to {j : JN} {d d' : DK} (h : j.ok d) (e : d'.seen.length = d.seen.length) : j.ok d' := ⟨h.n, by rw [e]; exact h.at_, h.first, h.epoch, h.low, h.held, h.eps⟩
section
variable {N m : Nat} {d : DK} {j : JN}
theorem Fit.mono {m' : Nat} (h : Fit N d j m) (hm : m ≤ m') : Fit N d j m' := ⟨h.ok, h.len, h.jok, Nat.le_trans h.pend hm⟩
theorem Fit.write (h : Fit N d j m) (i : Int) (b : List By) : Fit N (d.write i b).1 j (m + 1) := ⟨h.ok.write i b, by rw [write_len]; exact h.len, h.jok.to (write_len _ _ _), by have := write_pend d i b; have := h.pend; omega⟩
theorem Fit.save (h : Fit N d j m) (i : Int) (b : List By) : Fit N (save d i b).1 j (m + 1) := ⟨save_ok h.ok i b, by rw [save_len]; exact h.len, h.jok.to (save_len _ _ _), by have := save_pend d i b; have := h.pend; omega⟩
theorem Fit.sync (h : Fit N d j m) : Fit N d.sync j m := ⟨h.ok.sync, by rw [sync_len]; exact h.len, h.jok.to (sync_len _), by have := sync_pend d; have := h.pend; omega⟩
theorem Fit.trim (h : Fit N d j m) (hn : j.next < 4294967296) (k : Int) : Fit N (jtrim d j k).1 (jtrim d j k).2.1 (m + 1) ∧ (jtrim d j k).2.1.next = j.next := by
  unfold jtrim
  split
  · exact ⟨h.mono (by omega), rfl⟩
  · rename_i hk
    have hd : (j.held.drop k.toNat).length = j.held.length - k.toNat := List.length_drop
    have hj := h.jok
    unfold JN.next at hn ⊢
    have hh : Fit N d { j with low := if 0 < k then ((j.held[k.toNat - 1]?).getD (0, [])).1 else j.low, first := j.first + k.toNat, held := j.held.drop k.toNat } m :=
      ⟨h.ok, h.len, ⟨hj.n, hj.at_, by show j.first + k.toNat < _; omega, hj.epoch, by show (if 0 < k then _ else _) < _; split; exact getD_lt hj.eps _; exact hj.low, by show (j.held.drop _).length ≤ _; rw [hd]; have := hj.held; show _ ≤ j.n; omega, fun x hx => hj.eps x (List.mem_of_mem_drop hx)⟩, h.pend⟩
    exact ⟨hh.save _ _, by show j.first + k.toNat + (j.held.drop k.toNat).length = _; rw [hd]; omega⟩
theorem Fit.cutL : ∀ (k : Nat) (d : DK) (j : JN) (m : Nat), Fit N d j m → k ≤ j.held.length → Fit N (cutL d j k).1 (cutL d j k).2 (m + k) ∧ (Sl.cutL d j k).2.epoch = j.epoch ∧ (Sl.cutL d j k).2.next ≤ j.next
  | 0, d, j, m, h, _ => ⟨h, rfl, Nat.le_refl _⟩
  | k + 1, d, j, m, h, hk => by
    have hj := h.jok
    have h1 : Fit N d { j with held := j.held.dropLast } m := ⟨h.ok, h.len, ⟨hj.n, hj.at_, hj.first, hj.epoch, hj.low, by show j.held.dropLast.length ≤ _; rw [List.length_dropLast]; have := hj.held; show _ ≤ j.n; omega, fun x hx => hj.eps x (List.dropLast_subset _ hx)⟩, h.pend⟩
    obtain ⟨e1, e2, e3⟩ := Fit.cutL k _ _ (m + 1) (h1.write ((({ j with held := j.held.dropLast } : JN).place ({ j with held := j.held.dropLast } : JN).next : Nat) : Int) []) (by show k ≤ j.held.dropLast.length; rw [List.length_dropLast]; omega)
    refine ⟨e1.mono (by omega), e2, Nat.le_trans e3 ?_⟩
    show j.first + j.held.dropLast.length ≤ j.first + j.held.length
    rw [List.length_dropLast]; omega
theorem Fit.cut (h : Fit N d j m) (k : Int) : Fit N (jcut d j k).1 (jcut d j k).2.1 (m + 101) ∧ (jcut d j k).2.1.next ≤ j.next := by
  unfold jcut
  split
  · exact ⟨h.mono (by omega), Nat.le_refl _⟩
  · rename_i hk
    split
    · exact ⟨h.mono (by omega), Nat.le_refl _⟩
    · rename_i he
      have hj := h.jok
      obtain ⟨e1, e2, e3⟩ := Fit.cutL k.toNat d.sync j m h.sync (by omega)
      have hh := hj.held
      have hn := hj.n
      have hep := hj.epoch
      have h1 : Fit N (Sl.cutL d.sync j k.toNat).1.sync { (Sl.cutL d.sync j k.toNat).2 with epoch := (Sl.cutL d.sync j k.toNat).2.epoch + 1 } (m + k.toNat) := by
        have q := e1.sync
        have hj1 := q.jok
        exact ⟨q.ok, q.len, ⟨hj1.n, hj1.at_, hj1.first, by show (Sl.cutL d.sync j k.toNat).2.epoch + 1 < _; rw [e2]; omega, hj1.low, hj1.held, hj1.eps⟩, q.pend⟩
      exact ⟨(h1.save _ _).mono (by omega), e3⟩
theorem Fit.append (h : Fit N d j m) (b : List By) : Fit N (jappend d j b).1 (jappend d j b).2.1 (m + 1) := by
  unfold jappend
  split
  · exact h.mono (by omega)
  · split
    · exact h.mono (by omega)
    · rename_i h2
      have hj := h.jok
      have hh := hj.held
      have h1 : Fit N d { j with held := j.held ++ [(j.epoch, b)] } m := ⟨h.ok, h.len, ⟨hj.n, hj.at_, hj.first, hj.epoch, hj.low, by show (j.held ++ _).length ≤ j.n; simp; omega, fun x hx => by rcases List.mem_append.1 hx with hx | hx; exact hj.eps x hx; rw [List.mem_singleton.1 hx]; exact hj.epoch⟩, h.pend⟩
      exact h1.write _ _
end
section
variable {N m : Nat} {d : DK} {K : KP}
theorem Fit.kmark (h : Fit N d K.j m) (s : KS) : Fit N (kmark d K s).1 (kmark d K s).2.1.j (m + 1) ∧ (Sl.kmark d K s).2.1.j = K.j ∧ (Sl.kmark d K s).2.1.held = K.held ∧ (Sl.kmark d K s).2.1.at_ = K.at_ ∧ (Sl.kmark d K s).2.1.ring = K.ring := by
  unfold Sl.kmark
  split
  · exact ⟨h.mono (by omega), rfl, rfl, rfl, rfl⟩
  · exact ⟨h.save _ _, rfl, rfl, rfl, rfl⟩
theorem Fit.ktrim (h : Fit N d K.j m) (hn : K.j.next < 4294967296) (l : LG) : Fit N (ktrim d K l).1 (ktrim d K l).2.1.j (m + 1) ∧ (Sl.ktrim d K l).2.1.j.next = K.j.next ∧ (Sl.ktrim d K l).2.1.held.length ≤ K.held.length ∧ (Sl.ktrim d K l).2.1.at_ = K.at_ ∧ (Sl.ktrim d K l).2.1.ring = K.ring := by
  unfold Sl.ktrim
  split
  · exact ⟨h.mono (by omega), rfl, Nat.le_refl _, rfl, rfl⟩
  · obtain ⟨e1, e2⟩ := h.trim hn (ktrimN K l : Int)
    exact ⟨e1, e2, by show (K.held.drop _).length ≤ _; rw [List.length_drop]; omega, rfl, rfl⟩
theorem sameN_le {base : Nat} : ∀ (rs : List (Nat × EN3)) (xs : List EN3) (i : Nat), sameN base rs xs i ≤ i + rs.length ∧ sameN base rs xs i ≤ i + xs.length
  | [], xs, i => by cases xs <;> simp [sameN]
  | r :: rs, [], i => by simp [sameN]
  | r :: rs, x :: xs, i => by
    simp only [sameN]
    split
    · have := sameN_le (base := base) rs xs (i + 1)
      simp only [List.length_cons]; omega
    · simp
theorem Fit.kcut (h : Fit N d K.j m) (l : LG) : Fit N (kcut d K l).1 (kcut d K l).2.1.j (m + 101) ∧ (Sl.kcut d K l).2.1.j.next ≤ K.j.next ∧ (Sl.kcut d K l).2.1.held.length ≤ l.es.length ∧ (Sl.kcut d K l).2.1.held.length ≤ K.held.length ∧ (Sl.kcut d K l).2.1.at_ = K.at_ ∧ (Sl.kcut d K l).2.1.ring = K.ring := by
  have hs := sameN_le (base := l.base) K.held l.es 0
  unfold Sl.kcut
  split
  · exact ⟨h.mono (by omega), Nat.le_refl _, by show K.held.length ≤ _; omega, Nat.le_refl _, rfl, rfl⟩
  · obtain ⟨e1, e2⟩ := h.cut ((K.held.length - sameN l.base K.held l.es 0 : Nat) : Int)
    exact ⟨e1, e2, by show (K.held.take _).length ≤ _; rw [List.length_take]; omega, by show (K.held.take _).length ≤ _; rw [List.length_take]; omega, rfl, rfl⟩
end
def kst (i : Nat) (d : DK) (K : KP) (s : KS) : DK × KP × Int := match i with
  | 0 => kmark d K s
  | 1 => ktrim d K s.log
  | 2 => kcut d K s.log
  | _ => kadd d K s.log
def kgo (s : KS) : List Nat → DK → KP → DK × KP × Int
  | [], d, K => (d, K, if d.down then 43 else 0)
  | i :: is, d, K => if (kst i d K s).2.2 ≠ 0 then kst i d K s else kgo s is (kst i d K s).1 (kst i d K s).2.1
theorem ksteps_go (d : DK) (K : KP) (s : KS) : ksteps d K s = kgo s [0, 1, 2, 3] d K := by simp only [ksteps, kgo, kst]
theorem drop4 : ∀ {i : Nat}, i < 4 → [0, 1, 2, 3].drop i = i :: [0, 1, 2, 3].drop (i + 1)
  | 0, _ => rfl
  | 1, _ => rfl
  | 2, _ => rfl
  | 3, _ => rfl
  | i + 4, h => by omega
structure Good (N m : Nat) (s : KS) (i : Nat) (d : DK) (K : KP) : Prop where
  fit : Fit N d K.j (m + 101 * i)
  nx : K.j.next < 4294967296
  hl : K.held.length ≤ 1000
  at_ : K.at_ + 2 ≤ N
  le : i = 3 → K.held.length ≤ s.log.es.length
theorem Good.step {N m i : Nat} {s : KS} {d : DK} {K : KP} (h : Good N m s i d K) (hi : i < 3) : Good N m s (i + 1) (kst i d K s).1 (kst i d K s).2.1 := by
  have h1 := h.nx; have h2 := h.hl; have h3 := h.at_
  match i, hi with
  | 0, _ =>
    obtain ⟨e1, e2, e3, e4, e5⟩ := h.fit.kmark s
    exact ⟨e1.mono (by omega), by show (kmark d K s).2.1.j.next < _; rw [e2]; exact h1, by show (kmark d K s).2.1.held.length ≤ _; rw [e3]; exact h2, by show (kmark d K s).2.1.at_ + 2 ≤ _; rw [e4]; exact h3, fun hh => by omega⟩
  | 1, _ =>
    obtain ⟨e1, e2, e3, e4, e5⟩ := h.fit.ktrim h1 s.log
    exact ⟨e1.mono (by omega), by show (ktrim d K s.log).2.1.j.next < _; rw [e2]; exact h1, by show (ktrim d K s.log).2.1.held.length ≤ _; omega, by show (ktrim d K s.log).2.1.at_ + 2 ≤ _; rw [e4]; exact h3, fun hh => by omega⟩
  | 2, _ =>
    obtain ⟨e1, e2, e3, e4, e5, e6⟩ := h.fit.kcut s.log
    exact ⟨e1.mono (by omega), by show (kcut d K s.log).2.1.j.next < _; omega, by show (kcut d K s.log).2.1.held.length ≤ _; omega, by show (kcut d K s.log).2.1.at_ + 2 ≤ _; rw [e5]; exact h3, fun _ => e3⟩
end Go.Sl
/- Keepers in memory by the invariant: what a save and an opening do. -/
namespace Go.Sl
open Go
section
variable {N a n T : Nat} {d : DK} {K : KP} {sl : KS} {es : List EN3}
theorem KInv.fit (h : KInv N a n T d K sl es) : Fit N d K.j 100 := ⟨h.ji.ok, h.ji.len, h.ji.jok, h.ji.pl⟩
theorem KInv.hl (h : KInv N a n T d K sl es) : K.held.length ≤ 100 := by have := h.len; rw [h.kheld, numR_len]; have := h.ji.n1; omega
theorem KS.right.hok {s : SV} (h : s.ks.right) (hok : s.ok) : HOk s.ks := ⟨hok.u.1, ⟨h.2.2.1, h.2.2.2.1⟩, h.2.1, hok.u.2.2⟩
theorem KS.right.ents {s : SV} (h : s.ks.right) (hok : s.ok) : ∀ x ∈ s.es.map RE.pl, x.ok := by
  intro x hx
  have h1 := h.2.2.2.2 x hx
  obtain ⟨e, he, rfl⟩ := List.mem_map.1 hx
  exact ⟨hok.t e he, h1.1, h1.2.1, h1.2.2⟩
/-- What a save does: all, or nothing. -/
theorem save_keep (h : KInv N a n T d K sl es) (hT : T + n + 3 ≤ 1000000) (ha : a + 2 + 2 + n ≤ N) (s : SV) (hok : s.ok) :
    (∃ d' K', ksave d K s.ks = (d', K', 0) ∧ KInv N a n (T + n + 3) d' K' s.ks.bare (s.es.map RE.pl) ∧ s.ks.right) ∨ ksave d K s.ks = (d, K, 1) ∨ (ksave d K s.ks = (d, K, 42) ∧ n < s.es.length) := by
  by_cases h1 : ¬ s.ks.right ∨ s.ks.log.base < K.base
  · right; left; unfold ksave; rw [if_pos h1]
  · have hr : s.ks.right := Decidable.byContradiction fun hh => h1 (.inl hh)
    have hb : ¬ s.ks.log.base < K.base := fun hh => h1 (.inr hh)
    have hl : s.ks.log.es.length = s.es.length := List.length_map ..
    by_cases h2 : n < s.es.length
    · right; right
      exact ⟨by unfold ksave; rw [if_neg h1, if_pos (by rw [h.kring, hl]; exact h2)], h2⟩
    · left
      rw [h.kbase] at hb
      obtain ⟨d', K', e1, e2⟩ := ksave_ok h hT ha (hr.hok hok) hr (by omega) (by rw [hl]; omega) (hr.ents hok)
      exact ⟨d', K', e1, e2, hr⟩
theorem numR_mem : ∀ {xs : List EN3} {b : Nat} {r : Nat × EN3}, r ∈ numR b xs → r.1 ≤ b + xs.length ∧ r.2 ∈ xs
  | x :: xs, b, r, h => by
    rcases List.mem_cons.1 h with rfl | h
    · exact ⟨by simp, List.mem_cons_self ..⟩
    · obtain ⟨h1, h2⟩ := numR_mem h
      exact ⟨by simp; omega, List.mem_cons_of_mem _ h2⟩
/-- What is opened: the state that was saved, its term not below its last entry's. -/
def opened (sl : KS) (es : List EN3) : KS := bump { sl with log := { sl.log with es := es } }
theorem opened_log (sl : KS) (es : List EN3) : (opened sl es).log = { sl.log with es := es } := by unfold opened bump; split <;> rfl
theorem opened_term (sl : KS) (es : List EN3) : (opened sl es).term = max sl.term (LG.lastTerm { sl.log with es := es }) := by
  unfold opened bump
  split
  · rename_i h; simp only at h ⊢; omega
  · rename_i h; simp only at h ⊢; omega
theorem bare_log (s : KS) : { s.bare.log with es := s.log.es } = s.log := rfl
/-- The state that was saved, or opened, last. -/
structure Last (S : SV) (sl : KS) (es : List EN3) : Prop where
  ok : S.ok
  lg : S.lg = { sl.log with es := es }
  t : max S.term S.lg.lastTerm = max sl.term S.lg.lastTerm
theorem Last.saved {S : SV} (h : S.ok) : Last S S.ks.bare (S.es.map RE.pl) := ⟨h, rfl, rfl⟩
theorem Last.open {S : SV} (h : S.ok) (e : S.ks = opened sl es) : Last S sl es := by
  have h1 : S.lg = { sl.log with es := es } := (congrArg KS.log e).trans (opened_log _ _)
  have h2 : S.term = max sl.term (LG.lastTerm { sl.log with es := es }) := (congrArg KS.term e).trans (opened_term _ _)
  rw [← h1] at h2
  exact ⟨h, h1, by omega⟩
theorem len_of {S : SV} {xs : List EN3} (h : S.es.map RE.pl = xs) (hx : ∀ x ∈ xs, x.ok) : ∀ e ∈ S.es, e.b.bs.length ≤ 1000 := by
  intro e he
  have := (hx e.pl (by rw [← h]; exact List.mem_map.2 ⟨e, he, rfl⟩)).2.2.2
  exact Nat.le_trans this (by omega)
/-- What a state is that was saved, once it is opened. -/
theorem opened_of (s : KS) : opened s.bare s.log.es = bump s := rfl
end
/- What the statements are handed. -/
structure KOp where
  do_ : Int
  n : Int
  s : SV
  p : IS
abbrev encKO (o : KOp) : List Value := [.int .i64 o.do_, .int .i64 o.n, .int .u64 (o.s.term : Int), .int .i64 o.s.vote, .int .u64 (o.s.base : Int), .int .u64 (o.s.bt : Int), .slice o.s.a o.s.n o.s.c, .slice o.p.a o.p.n o.p.c]
theorem encKO_len (o : KOp) : (encKO o).length = 8 := rfl
structure StD (D : A) (s : SV) : Prop where
  ok : s.ok
  e : ∀ Γ, Imp (D :: Γ) (s.ents :: D :: Γ)
  d : ∀ Γ, Imp (D :: Γ) (s.dat :: D :: Γ)
def KOpsD (D : A) (ops : List KOp) : Prop := ∀ o ∈ ops, StD D o.s ∧ o.p.ok ∧ (∀ Γ, Imp (D :: Γ) (o.p.at_ :: D :: Γ))
theorem flat_part {α : Type} {enc : α → List Value} {i j k m : Nat} {xs : List α} {e : α} (hk : ∀ x, (enc x).length = k) (hi : xs[i]? = some e) (hj : j + m ≤ k) : ((xs.flatMap enc).drop (i * k + j)).take m = ((enc e).drop j).take m := by
  rw [← flat_drop hk hi, List.drop_take, List.take_take, List.drop_drop, Nat.min_eq_left (by omega)]
theorem SV.mem2 {s : SV} : bump s.ks = opened s.ks.bare (s.es.map RE.pl) := rfl
theorem KInv.pend0 {N a n T : Nat} {d : DK} {K : KP} {sl : KS} {es : List EN3} (h : KInv N a n T d K sl es) : d.pend = [] := by rw [h.ji.pend]; rfl
theorem KInv.sync_eq {N a n T : Nat} {d : DK} {K : KP} {sl : KS} {es : List EN3} (h : KInv N a n T d K sl es) : d.sync = d := by
  have hp := h.pend0
  rw [sync_up h.ji.up, hp]
  obtain ⟨a, b, c, e, f⟩ := d
  simp only at hp
  subst hp
  rfl
/- The examples' states. -/
def exSV (t : Nat) (v : Int) (c : By) (bA bB : Nat) : SV := ⟨t, v, 0, 0, [⟨t, 1, ⟨[c], some ⟨bA, 0, none⟩, 1, 1⟩⟩], some ⟨bB, 0, none⟩, 1, 1⟩
theorem exSV_imp {t : Nat} {v : Int} {c : By} {bA bB : Nat} {Γ : List A} : Imp (cells true bA 0 [u8 c] :: cells true bB 0 [.int .u64 (t : Int), .int .i64 1, .slice (some ⟨bA, 0, none⟩) 1 1] :: Γ) ((exSV t v c bA bB).ents :: (exSV t v c bA bB).dat :: Γ) := by
  refine (Imp.freeze _ _ _ _).trans ((Imp.perm (.swap _ _ _)).trans ((Imp.freeze _ _ _ _).trans (Imp.cons _ ?_)))
  exact (Imp.cons _ bytes_nil).trans (bytes_snoc (xs := []) (x := ⟨[c], some ⟨bA, 0, none⟩, 1, 1⟩))
theorem exSV_ok {t : Nat} {v : Int} {c : By} {bA bB : Nat} (ht : t < 1000) : (exSV t v c bA bB).ok := by
  refine ⟨⟨rfl, Nat.le_refl _, .inr (Pl.mk _ _)⟩, by show 1 < _; omega, fun e he => ?_, ⟨by show t < _; omega, by show 0 < _; omega, by show 0 < _; omega⟩, fun e he => ?_⟩
  · rw [List.mem_singleton.1 he]; exact ⟨rfl, Nat.le_refl _, .inr (Pl.mk _ _)⟩
  · rw [List.mem_singleton.1 he]; show t < _; omega
theorem exSV_right {t : Nat} {v : Int} {c : By} {bA bB : Nat} (ht : t < 1000) (hv : -1 ≤ v ∧ v < 16) : (exSV t v c bA bB).ks.right := by
  refine ⟨by show t < _; omega, by show 0 < _; omega, hv.1, hv.2, fun x hx => ?_⟩
  obtain rfl : x = ⟨t, 1, [c]⟩ := List.mem_singleton.1 hx
  exact ⟨by show (0 : Int) ≤ 1; omega, by show (1 : Int) ≤ 255; omega, by show 1 ≤ 24; omega⟩
theorem exSV_opened {t : Nat} {v : Int} {c : By} {bA bB : Nat} : opened (exSV t v c bA bB).ks.bare ((exSV t v c bA bB).es.map RE.pl) = (exSV t v c bA bB).ks := by
  show bump (exSV t v c bA bB).ks = _
  unfold bump
  rw [if_neg]
  show ¬ t < t
  omega
theorem exSV_len {t : Nat} {v : Int} {c : By} {bA bB : Nat} : ∀ e ∈ (exSV t v c bA bB).es, e.b.bs.length ≤ 1000 := by
  intro e he
  rw [List.mem_singleton.1 he]; show 1 ≤ 1000; omega
/-- What is opened behind a save. -/
def SV.wish (s : SV) : SV := { s with term := max s.term s.lg.lastTerm, vote := if max s.term s.lg.lastTerm = s.term then s.vote else -1 }
theorem wish_eq (s : SV) : s.wish.ks = opened s.ks.bare (s.es.map RE.pl) := by
  show _ = bump s.ks
  unfold bump
  split
  · rename_i h
    have h2 : s.term < s.lg.lastTerm := h
    unfold SV.wish SV.ks
    show (⟨_, _, _⟩ : KS) = ⟨_, _, _⟩
    rw [if_neg (by omega), show max s.term s.lg.lastTerm = s.lg.lastTerm by omega]
    rfl
  · rename_i h
    have h2 : ¬ s.term < s.lg.lastTerm := h
    unfold SV.wish SV.ks
    show (⟨_, _, _⟩ : KS) = ⟨_, _, _⟩
    rw [if_pos (by omega), show max s.term s.lg.lastTerm = s.term by omega]
theorem wish_ok {s : SV} (h : s.ok) : s.wish.ok := ⟨h.sk, h.n, h.b, ⟨by show max _ _ < _; have := h.u.1; have := h.last; omega, h.u.2⟩, h.t⟩
end Go.Sl
/- From the arguments that a caller hands over to cells that may be read. -/
namespace Go.Sl
open Go Go.RowKit
theorem Imp.ofWhole {w0 : World} {b o : Nat} {vs : List Value} {Γ : List A} (h : ∀ i v, vs[i]? = some v → w0.cell? ⟨b, o + i, none⟩ = some v) : Imp (whole w0 :: Γ) (cells false b o vs :: whole w0 :: Γ) := fun _ _ t =>
  Sat.cons (c := whole w0) (d := cells false b o vs) (fun _ hH i v hv => hH.1 b (o + i) v (h i v hv)) (Sat.dup (Pers.whole w0) t)
theorem cell_spot {w : World} {a : Addr} {v : Value} (h : w.cell? a = some v) : a.spot = none := by
  unfold World.cell? at h
  split at h
  · split at h
    · cases h
    · rename_i e; simpa using e
  · cases h
/-- What a slice's address leads to. -/
def ReadAt (w : World) (a : Option Addr) (cs : List Value) : Prop := ∀ i v, cs[i]? = some v → w.cell? ⟨blk a, off a + i, none⟩ = some v
section
variable {H : Type} {enc : TypeId × Value → H} {P : Program} {w : World} {base : Nat} {spare : Nat → Bool} {held : Bool}
theorem open_slice {α : Type} {f : α → List Value} {φ : α → Prop} {k : Nat} {t e : TypeId} (ht : P.underlying t = some (.slice e)) (hc : P.cellsOf e = k) (hk : 0 < k)
    (hop : ∀ fuel cs y, DataW.trod enc P w base spare held fuel e cs = some y → ∃ x : α, cs = f x ∧ φ x) (hf : ∀ x, (f x).length = k) {fuel : Nat} {cs : List Value} {x : DataW H × List MemPlace}
    (h : DataW.trod enc P w base spare held fuel t cs = some x) :
    ∃ (a : Option Addr) (n c : Nat) (xs : List α), cs = [.slice a n c] ∧ Sok k a n c (xs.flatMap f) ∧ c ≤ maxLen ∧ (∀ x ∈ xs, φ x) ∧ ReadAt w a (xs.flatMap f) := by
  rcases DataW.trod_slice ht h with ⟨rfl, -⟩ | ⟨a, len, cap, elems, rest, m, -, rfl, -, -, hl, hm, hlen, hel, -, -⟩
  · exact ⟨none, 0, 0, [], rfl, ⟨by simp, Nat.le_refl _, .inl rfl⟩, by simp [maxLen], by simp, by intro i v hv; simp at hv⟩
  have each : ∀ i, i < len → ∃ x : α, φ x ∧ ∀ j, j < k → w.cell? (a.add (i * k + j)) = (f x)[j]? := by
    intro i hi
    have h1 := hel i hi
    rw [List.getElem?_eq_getElem (by omega), hc, Option.bind_eq_some_iff] at h1
    obtain ⟨cs', hcs, hy⟩ := h1
    obtain ⟨x, rfl, hx⟩ := hop _ _ _ hy
    refine ⟨x, hx, fun j hj => ?_⟩
    have := (World.cells?_some hcs).2.2 j hj
    rw [← this]
    congr 1
    unfold Addr.add
    by_cases h0 : i * k = 0 <;> by_cases h1 : j = 0 <;> simp [h0, h1, Nat.add_assoc]
  have hxs : ∀ n, n ≤ len → ∃ xs : List α, xs.length = n ∧ (∀ x ∈ xs, φ x) ∧ ∀ i, i < n → ∃ x, xs[i]? = some x ∧ ∀ j, j < k → w.cell? (a.add (i * k + j)) = (f x)[j]? := by
    intro n
    induction n with
    | zero => intro _; exact ⟨[], rfl, by simp, by intro i hi; omega⟩
    | succ n ih =>
      intro hn
      obtain ⟨xs, h1, h2, h3⟩ := ih (by omega)
      obtain ⟨x, hx, hx'⟩ := each n (by omega)
      refine ⟨xs ++ [x], by simp [h1], ?_, ?_⟩
      · intro y hy
        rcases List.mem_append.1 hy with hy | hy
        · exact h2 y hy
        · rw [List.mem_singleton.1 hy]; exact hx
      · intro i hi
        by_cases e : i < n
        · obtain ⟨y, hy, hy'⟩ := h3 i e
          exact ⟨y, by rw [List.getElem?_append_left (by omega)]; exact hy, hy'⟩
        · have : i = n := by omega
          subst this
          exact ⟨x, by rw [List.getElem?_append_right (by omega)]; simp [h1], hx'⟩
  obtain ⟨xs, h1, h2, h3⟩ := hxs len (Nat.le_refl _)
  have hall : ∀ p, p < len * k → w.cell? (a.add p) = (xs.flatMap f)[p]? := by
    intro p hp
    have hi : p / k < len := Nat.div_lt_of_lt_mul (by rw [Nat.mul_comm]; exact hp)
    obtain ⟨x, hx, hx'⟩ := h3 (p / k) hi
    have := hx' (p % k) (Nat.mod_lt _ hk)
    rw [Nat.mul_comm, Nat.div_add_mod] at this
    rw [this, ← flat_get hf xs (p / k) (p % k) hx (Nat.mod_lt _ hk), Nat.mul_comm, Nat.div_add_mod]
  have hL : (xs.flatMap f).length = len * k := by rw [flat_length hf, h1]
  have hspot : 0 < len → a.spot = none := fun h0 => by
    have h2 : 0 < len * k := Nat.mul_pos h0 hk
    have := hall 0 h2
    rw [List.getElem?_eq_getElem (by omega)] at this
    have := cell_spot this
    simpa [Addr.add] using this
  refine ⟨some a, len, cap, xs, rfl, ⟨hL, hl, ?_⟩, hm, h2, ?_⟩
  · rcases Nat.eq_zero_or_pos len with h0 | h0
    · left; apply List.eq_nil_of_length_eq_zero; rw [hL, h0]; simp
    · right; unfold Pl; have := hspot h0; cases a; simp_all [blk, off]
  · intro i v hv
    have hi : i < len * k := by rw [← hL]; exact (List.getElem?_eq_some_iff.1 hv).1
    have h0 : 0 < len := by rcases Nat.eq_zero_or_pos len with h0 | h0; (rw [h0] at hi; simp at hi); exact h0
    have h5 := hall i hi
    rw [hv] at h5
    have h6 := hspot h0
    rw [← h5]
    cases a with
    | mk b o s =>
      simp only at h6
      subst h6
      unfold Addr.add blk off
      by_cases h7 : i = 0 <;> simp [h7]
theorem trod_field {fs : Array Field} {t : TypeId} {fuel : Nat} {cs : List Value} {x : DataW H × List MemPlace} (ht : P.underlying t = some (.struct fs)) (h : DataW.trod enc P w base spare held fuel t cs = some x) :
    cs.length = P.cellsOf t ∧ ∀ (i T o : Nat), fs[i]?.map (fun f => (f.type, f.offset)) = some (T, o) → ∃ (n : Nat) (y : DataW H × List MemPlace), DataW.trod enc P w base spare held n T ((cs.drop o).take (P.cellsOf T)) = some y := by
  obtain ⟨xs, n, rfl, -, hl, hs, hf⟩ := DataW.trod_struct ht h
  refine ⟨hl, fun i T o hi => ?_⟩
  obtain ⟨f, hi', e⟩ := Option.map_eq_some_iff.1 hi
  obtain ⟨rfl, rfl⟩ := Prod.mk.inj e
  have h1 := hf i f hi'
  have h2 : i < xs.length := by rw [hs]; exact (Array.getElem?_eq_some_iff.1 hi').1
  exact ⟨n, xs[i], by rw [h1, List.getElem?_eq_getElem h2]⟩
theorem flat_one {α β : Type} (f : α → β) : ∀ xs : List α, xs.flatMap (fun x => [f x]) = xs.map f
  | [] => rfl
  | x :: xs => by simp [List.flatMap_cons, flat_one f xs]
/-- A slice of integers that came in. -/
theorem open_sl_ints {t e : TypeId} {k : IntKind} {fuel : Nat} {cs : List Value} {x : DataW H × List MemPlace} (ht : P.underlying t = some (.slice e)) (he : P.underlying e = some (.int k)) (hc : P.cellsOf e = 1) (h : DataW.trod enc P w base spare held fuel t cs = some x) :
    ∃ (a : Option Addr) (n c : Nat) (xs : List Int), cs = [.slice a n c] ∧ Sok 1 a n c (xs.map (.int k)) ∧ c ≤ maxLen ∧ (∀ x ∈ xs, (Lit.int k x).wf = true) ∧ ReadAt w a (xs.map (.int k)) := by
  obtain ⟨a, n, c, xs, h1, h2, h3, h4, h5⟩ := open_slice (f := fun x : Int => [Value.int k x]) (φ := fun x => (Lit.int k x).wf = true) ht hc (by omega) (fun fuel cs y hy => by
    obtain ⟨m, h1, -, h2⟩ := DataW.trod_int he hy; exact ⟨m, h1, h2⟩) (fun _ => rfl) h
  have e1 : xs.flatMap (fun x : Int => [Value.int k x]) = xs.map (.int k) := flat_one _ xs
  rw [e1] at h2 h5
  exact ⟨a, n, c, xs, h1, h2, h3, h4, h5⟩
end
end Go.Sl
/- What the arguments of chapter 14's statements are; the table that the program's text lays. -/
namespace Go.Proofs.YtacgammmpkibpaaDoor
open Go.ChangeShapes Go.WideShapes Go.ChangeAt Go.RowKit Go.Sl
theorem own : ownKnob Tryd.prog.godebug = none := by kernel_rfl
theorem laidOut : laidOutB Tryd.prog = true := by kernel_rfl
theorem co3 : Tryd.prog.cellsOf 3 = 1 := by kernel_rfl
theorem co5 : Tryd.prog.cellsOf 5 = 1 := by kernel_rfl
theorem co23 : Tryd.prog.cellsOf 23 = 1 := by kernel_rfl
theorem co24 : Tryd.prog.cellsOf 24 = 1 := by kernel_rfl
theorem co26 : Tryd.prog.cellsOf 26 = 3 := by kernel_rfl
theorem co28 : Tryd.prog.cellsOf 28 = 5 := by kernel_rfl
theorem co29 : Tryd.prog.cellsOf 29 = 1 := by kernel_rfl
theorem co56 : Tryd.prog.cellsOf 56 = 1 := by kernel_rfl
theorem co58 : Tryd.prog.cellsOf 58 = 3 := by kernel_rfl
theorem co61 : Tryd.prog.cellsOf 61 = 8 := by kernel_rfl
abbrev laidL : List (String × DataW Unit) := [("pursuivant/check.table", Rows.laid_pursuivant_check_table)]
theorem gTab : Tryd.prog.globalNamed "pursuivant/check.table" = some 0 := by kernel_rfl
theorem tab_cells {W : World} (h : laidMetH Tryd.prog laidL W) : ∀ i v, (tblN.map fun x : Nat => Value.int .u32 (x : Int))[i]? = some v → W.cell? ⟨0, i, none⟩ = some v := by
  rw [MakeChecks.laidMetH_plain _ _ _ (by kernel_rfl)] at h
  have hT : Lib.TabIs Tryd.prog W "pursuivant/check.table" .u32 (tblN.map fun x : Nat => (x : Int)) := Lib.tabIs_of_head (rest := []) gTab (show (Tryd.prog.globals[0]?).map (·.type) = some 150 by kernel_rfl) (show Tryd.prog.underlying 150 = some (.array 16 105) by kernel_rfl) (show Tryd.prog.underlying 105 = some (.int .u32) by kernel_rfl) (by kernel_rfl) (by kernel_rfl) h
  intro i v hv
  rw [List.getElem?_map] at hv
  obtain ⟨x, hx, rfl⟩ := Option.map_eq_some_iff.1 hv
  have hi : i < tblN.length := (List.getElem?_eq_some_iff.1 hx).1
  rw [hT.cell gTab i (by rw [List.length_map]; exact hi)]
  simp [List.getD, hx]
theorem door_met (os : Os) (args : Array Value) : laidMetH Tryd.prog laidL ((World.doorLaid Tryd.prog 400 os).forCall (fun _ _ => 0) ⟨#[], args, []⟩).memory :=
  laidMetH_of_parts3 (fuel := 8) (laidMet_of_run' 8 (by kernel_rfl) (by kernel_rfl)) (by kernel_rfl) (by kernel_rfl)
theorem three : ∀ {l : List Value}, l.length = 3 → ∃ a b c, l = [a, b, c]
  | [a, b, c], _ => ⟨a, b, c, rfl⟩
theorem five : ∀ {l : List Value}, l.length = 5 → ∃ a b c d e, l = [a, b, c, d, e]
  | [a, b, c, d, e], _ => ⟨a, b, c, d, e, rfl⟩
theorem eight : ∀ {l : List Value}, l.length = 8 → ∃ a b c d e f g h, l = [a, b, c, d, e, f, g, h]
  | [a, b, c, d, e, f, g, h], _ => ⟨a, b, c, d, e, f, g, h, rfl⟩
section
variable {H : Type} {enc : TypeId × Value → H} {w : World} {base : Nat} {spare : Nat → Bool} {held : Bool}
theorem wf_u8 {x : Int} (h : (Lit.int .u8 x).wf = true) : 0 ≤ x ∧ x ≤ 255 := by
  simpa [Lit.wf, IntKind.has, IntKind.min, IntKind.max, IntKind.signed, IntKind.bits] using h
theorem wf_u64 {x : Int} (h : (Lit.int .u64 x).wf = true) : 0 ≤ x ∧ x ≤ 18446744073709551615 := by
  simpa [Lit.wf, IntKind.has, IntKind.min, IntKind.max, IntKind.signed, IntKind.bits] using h
theorem open_bytes {fuel : Nat} {cs : List Value} {x : DataW H × List MemPlace} (h : DataW.trod enc Tryd.prog w base spare held fuel 56 cs = some x) : ∃ b : BS, cs = [bsV b] ∧ b.ok ∧ ReadAt w b.a (b.bs.map u8) := by
  obtain ⟨a, n, c, xs, e, k1, k2, k3, k4⟩ := open_sl_ints Tryd.underlying56 Tryd.underlying5 co5 h
  have hx : xs.map (Value.int .u8) = (xs.map fun x => by_ x.toNat).map u8 := by
    rw [List.map_map]
    refine List.map_congr_left fun x hx => ?_
    have := wf_u8 (k3 x hx)
    simp only [Function.comp, u8, by_, Value.int.injEq, true_and]
    omega
  rw [hx] at k1 k4
  exact ⟨⟨xs.map fun x : Int => by_ x.toNat, a, n, c⟩, e, k1, k4⟩
theorem open_ints {fuel : Nat} {cs : List Value} {x : DataW H × List MemPlace} (h : DataW.trod enc Tryd.prog w base spare held fuel 29 cs = some x) : ∃ b : IS, cs = [.slice b.a b.n b.c] ∧ b.ok ∧ ReadAt w b.a (b.xs.map (.int .i64)) := by
  obtain ⟨a, n, c, xs, e, k1, k2, k3, k4⟩ := open_sl_ints Tryd.underlying29 Tryd.underlying3 co3 h
  exact ⟨⟨xs, a, n, c⟩, e, k1, k4⟩
theorem open_u64 {fuel : Nat} {cs : List Value} {x : DataW H × List MemPlace} (h : DataW.trod enc Tryd.prog w base spare held fuel 23 cs = some x) : ∃ m : Nat, cs = [.int .u64 (m : Int)] ∧ m < 18446744073709551616 := by
  obtain ⟨m, h1, -, h2⟩ := DataW.trod_int Tryd.underlying23 h
  have := wf_u64 h2
  exact ⟨m.toNat, by rw [h1, show ((m.toNat : Nat) : Int) = m by omega], by omega⟩
structure EOk (w : World) (e : RE) : Prop where
  t : e.t < 18446744073709551616
  b : e.b.ok
  r : ReadAt w e.b.a (e.b.bs.map u8)
theorem open_entry {fuel : Nat} {cs : List Value} {x : DataW H × List MemPlace} (h : DataW.trod enc Tryd.prog w base spare held fuel 58 cs = some x) : ∃ e : RE, cs = encE e ∧ EOk w e := by
  obtain ⟨hl, hf⟩ := trod_field Tryd.underlying58 h
  rw [co58] at hl
  obtain ⟨c0, c1, c2, rfl⟩ := three hl
  · skip
    obtain ⟨_, _, h0⟩ := hf 0 23 0 rfl
    obtain ⟨_, _, h1⟩ := hf 1 3 1 rfl
    obtain ⟨_, _, h2⟩ := hf 2 56 2 rfl
    simp only [co23, co3, co56, List.drop_zero, List.take_succ_cons, List.take_zero, List.drop_succ_cons] at h0 h1 h2
    obtain ⟨n0, e0, w0⟩ := open_u64 h0
    obtain ⟨n1, e1, -, -⟩ := DataW.trod_int Tryd.underlying3 h1
    obtain ⟨b, e2, k1, k2⟩ := open_bytes h2
    simp only [List.cons.injEq, and_true] at e0 e1 e2
    subst e0 e1 e2
    exact ⟨⟨n0, n1, b⟩, rfl, w0, k1, k2⟩
structure SOk (w : World) (s : SV) : Prop where
  ok : s.ok
  re : ReadAt w s.a (s.es.flatMap encE)
  rb : ∀ e ∈ s.es, ReadAt w e.b.a (e.b.bs.map u8)
theorem open_state {fuel : Nat} {cs : List Value} {x : DataW H × List MemPlace} (h : DataW.trod enc Tryd.prog w base spare held fuel 28 cs = some x) : ∃ s : SV, cs = stV s ∧ SOk w s := by
  obtain ⟨hl, hf⟩ := trod_field Tryd.underlying28 h
  rw [co28] at hl
  obtain ⟨c0, c1, c2, c3, c4, rfl⟩ := five hl
  · skip
    obtain ⟨_, _, h0⟩ := hf 0 23 0 rfl
    obtain ⟨_, _, h1⟩ := hf 1 3 1 rfl
    obtain ⟨_, _, h2⟩ := hf 2 26 2 rfl
    simp only [co23, co3, co26, List.drop_zero, List.take_succ_cons, List.take_zero, List.drop_succ_cons] at h0 h1 h2
    obtain ⟨-, hg⟩ := trod_field Tryd.underlying26 h2
    obtain ⟨_, _, g0⟩ := hg 0 23 0 rfl
    obtain ⟨_, _, g1⟩ := hg 1 23 1 rfl
    obtain ⟨_, _, g2⟩ := hg 2 24 2 rfl
    simp only [co23, co24, List.drop_zero, List.take_succ_cons, List.take_zero, List.drop_succ_cons] at g0 g1 g2
    obtain ⟨n0, e0, w0⟩ := open_u64 h0
    obtain ⟨n1, e1, -, -⟩ := DataW.trod_int Tryd.underlying3 h1
    obtain ⟨n2, e2, w2⟩ := open_u64 g0
    obtain ⟨n3, e3, w3⟩ := open_u64 g1
    obtain ⟨a, n, c, es, e4, k1, k2, k3, k4⟩ := open_slice Tryd.underlying24 co58 (by omega) (fun _ _ _ hy => open_entry hy) encE_len g2
    simp only [List.cons.injEq, and_true] at e0 e1 e2 e3 e4
    subst e0 e1 e2 e3 e4
    have hc := k1.cap
    exact ⟨⟨n0, n1, n2, n3, es, a, n, c⟩, rfl, ⟨k1, by have : maxLen = 9223372036854775807 := rfl; show n < _; omega, fun e he => (k3 e he).b, ⟨w0, w2, w3⟩, fun e he => (k3 e he).t⟩, k4, fun e he => (k3 e he).r⟩
structure OpOk (w : World) (o : KOp) : Prop where
  s : SOk w o.s
  p : o.p.ok
  rp : ReadAt w o.p.a (o.p.xs.map (.int .i64))
theorem open_op {fuel : Nat} {cs : List Value} {x : DataW H × List MemPlace} (h : DataW.trod enc Tryd.prog w base spare held fuel 61 cs = some x) : ∃ o : KOp, cs = encKO o ∧ OpOk w o := by
  obtain ⟨hl, hf⟩ := trod_field Tryd.underlying61 h
  rw [co61] at hl
  obtain ⟨c0, c1, c2, c3, c4, c5, c6, c7, rfl⟩ := eight hl
  · skip
    obtain ⟨_, _, h0⟩ := hf 0 3 0 rfl
    obtain ⟨_, _, h1⟩ := hf 1 3 1 rfl
    obtain ⟨_, _, h2⟩ := hf 2 28 2 rfl
    obtain ⟨_, _, h3⟩ := hf 3 29 7 rfl
    simp only [co3, co28, co29, List.drop_zero, List.take_succ_cons, List.take_zero, List.drop_succ_cons] at h0 h1 h2 h3
    obtain ⟨n0, e0, -, -⟩ := DataW.trod_int Tryd.underlying3 h0
    obtain ⟨n1, e1, -, -⟩ := DataW.trod_int Tryd.underlying3 h1
    obtain ⟨s, e2, k1⟩ := open_state h2
    obtain ⟨p, e3, k2, k3⟩ := open_ints h3
    simp only [stV, List.cons.injEq, and_true] at e0 e1 e2 e3
    obtain ⟨e20, e21, e22, e23, e24⟩ := e2
    subst e0 e1 e20 e21 e22 e23 e24 e3
    exact ⟨⟨n0, n1, s, p⟩, rfl, k1, k2, k3⟩
theorem open_ops {fuel : Nat} {cs : List Value} {x : DataW H × List MemPlace} (h : DataW.trod enc Tryd.prog w base spare held fuel 22 cs = some x) :
    ∃ (a : Option Addr) (c : Nat) (ops : List KOp), cs = [.slice a ops.length c] ∧ Sok 8 a ops.length c (ops.flatMap encKO) ∧ ops.length < 9223372036854775808 ∧ (∀ o ∈ ops, OpOk w o) ∧ ReadAt w a (ops.flatMap encKO) := by
  obtain ⟨a, n, c, ops, e, k1, k2, k3, k4⟩ := open_slice Tryd.underlying22 co61 (by omega) (fun _ _ _ hy => open_op hy) encKO_len h
  have hn : ops.length = n := by have := k1.len; rw [flat_length encKO_len] at this; omega
  subst hn
  have hc := k1.cap
  exact ⟨a, c, ops, e, k1, by have : maxLen = 9223372036854775807 := rfl; omega, k3, k4⟩
end
theorem bytes_whole {w : World} : ∀ (bs : List BS), (∀ b ∈ bs, ReadAt w b.a (b.bs.map u8)) → ∀ Γ, Imp (whole w :: Γ) (Sl.bytes bs :: whole w :: Γ)
  | [], _, Γ => bytes_nil
  | b :: bs, h, Γ => by
    have i1 := bytes_whole bs (fun x hx => h x (List.mem_cons_of_mem _ hx)) Γ
    refine i1.trans ((Imp.perm (.swap _ _ _)).trans ((Imp.ofWhole (h b (List.mem_cons_self ..))).trans ?_))
    refine (Imp.perm (show (b.at_ :: whole w :: Sl.bytes bs :: Γ).Perm (b.at_ :: Sl.bytes bs :: whole w :: Γ) from (List.Perm.swap _ _ _).cons _)).trans ?_
    exact bytes_snoc.trans (bytes_cong fun y hy => by rw [List.mem_append, List.mem_singleton]; rcases List.mem_cons.1 hy with h | h; exact .inr h; exact .inl h)
theorem stD {w : World} {s : SV} (h : SOk w s) : StD (whole w) s := ⟨h.ok, fun _ => Imp.ofWhole h.re, bytes_whole _ fun b hb => by obtain ⟨e, he, rfl⟩ := List.mem_map.1 hb; exact h.rb e he⟩
theorem opsD {w : World} {ops : List KOp} (h : ∀ o ∈ ops, OpOk w o) : KOpsD (whole w) ops := fun o ho => ⟨stD (h o ho).s, (h o ho).p, fun _ => Imp.ofWhole (h o ho).rp⟩
theorem Imp.tbl {w : World} (h : laidMetH Tryd.prog laidL w) {Γ : List A} : Imp (whole w :: Γ) (tblA :: whole w :: Γ) := Imp.ofWhole fun i v hv => by rw [Nat.zero_add]; exact tab_cells h i v hv
theorem of_trip {f : FuncId} {args : Array Value} {Γ : List A} {w : World} (h : Trip Tryd.prog f args Γ (fun r Δ => r = .bool true ∧ Δ = [])) (i : Imp [whole w] Γ) :
    Calls Tryd.prog f args w fun e w' => e = .returned (.bool true) ∧ Below w.heap.size w w' := by
  refine (h (whole w) w (i _ _ (Sat.whole w))).mono fun e w' q => ?_
  obtain ⟨v, Δ, rfl, ⟨rfl, rfl⟩, s, ad⟩ := q
  exact ⟨rfl, Sat.below s ad⟩
end Go.Proofs.YtacgammmpkibpaaDoor
