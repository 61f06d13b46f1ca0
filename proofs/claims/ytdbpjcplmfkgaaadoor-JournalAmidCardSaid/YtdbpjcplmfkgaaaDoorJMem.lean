/- Where writers, readers, disks and journals lie. -/
import Derived.Test.YtdbpjcplmfkgaaaDoorJModel
namespace Go.Sl
open Go
abbrev tblA : A := cells false 0 0 (tblN.map fun x : Nat => Value.int .u32 (x : Int))
structure L3 where
  a : Option Addr
  n : Nat
  c : Nat
abbrev wrL (b o : Nat) (xs : List By) (L : L3) : List A := [cells true b o [.slice L.a L.n L.c], buf 1 L.a L.n L.c (xs.map u8)]
def wr (b o : Nat) (xs : List By) : A := ex fun L => grp (wrL b o xs L)
theorem wr_close {b o : Nat} {xs : List By} (a : Option Addr) (n c : Nat) {Γ : List A} : Imp (cells true b o [.slice a n c] :: buf 1 a n c (xs.map u8) :: Γ) (wr b o xs :: Γ) := Imp.packg (L := fun L => wrL b o xs L) ⟨a, n, c⟩
theorem wr_open {P : Program} {f : FuncId} {args : Array Value} {b o : Nat} {xs : List By} {Γ : List A} {R : Value → List A → Prop} (h : ∀ a c, Sok 1 a xs.length c (xs.map u8) → Trip P f args (cells true b o [.slice a xs.length c] :: buf 1 a xs.length c (xs.map u8) :: Γ) R) : Trip P f args (wr b o xs :: Γ) R :=
  Trip.exg (L := fun L => wrL b o xs L) fun L => Trip.bufFact (.tail _ (.head _)) fun hs => by
    obtain ⟨a, n, c⟩ := L
    have hl : xs.length = n := by have := hs.len; simpa using this
    subst hl
    exact h a c hs
abbrev rdL (b o : Nat) (xs : List By) (sh : Bool) (L : L3) : List A := [pu (Sok 1 L.a L.n L.c (xs.map u8)), cells true b o [.slice L.a L.n L.c, .bool sh], sl false L.a (xs.map u8)]
def rd (b o : Nat) (xs : List By) (sh : Bool) : A := ex fun L => grp (rdL b o xs sh L)
theorem rd_close {b o : Nat} {xs : List By} {sh : Bool} (a : Option Addr) (n c : Nat) (h : Sok 1 a n c (xs.map u8)) {Γ : List A} : Imp (cells true b o [.slice a n c, .bool sh] :: sl false a (xs.map u8) :: Γ) (rd b o xs sh :: Γ) :=
  (Imp.pu h).trans (Imp.packg (L := fun L => rdL b o xs sh L) ⟨a, n, c⟩)
theorem rd_open {P : Program} {f : FuncId} {args : Array Value} {b o : Nat} {xs : List By} {sh : Bool} {Γ : List A} {R : Value → List A → Prop} (h : ∀ a c, Sok 1 a xs.length c (xs.map u8) → Trip P f args (cells true b o [.slice a xs.length c, .bool sh] :: sl false a (xs.map u8) :: Γ) R) : Trip P f args (rd b o xs sh :: Γ) R :=
  Trip.exg (L := fun L => rdL b o xs sh L) fun L => Trip.pure fun hs => by
    obtain ⟨a, n, c⟩ := L
    have hl : xs.length = n := by have := hs.len; simpa using this
    subst hl
    exact h a c hs
/-- A part of bytes that are only read. -/
theorem Imp.cutRo {a : Option Addr} {n c : Nat} {xs : List By} (h : Sok 1 a n c (xs.map u8)) {l k m : Nat} (h1 : l ≤ k) (h2 : k ≤ n) (h3 : k ≤ m) {Γ : List A} : Imp (sl false a (xs.map u8) :: Γ) (sl false (cut a m l (l * 1)) (((xs.drop l).take (k - l)).map u8) :: sl false a (xs.map u8) :: Γ) := by
  by_cases he : (xs.drop l).take (k - l) = []
  · rw [he]; exact Imp.slEmpty
  have hl : xs.length = n := by have := h.len; simpa using this
  have hlt : l < n := by
    rcases Nat.lt_or_ge l n with h | h
    · exact h
    · exact absurd (by rw [List.drop_eq_nil_of_le (by omega)]; simp) he
  have hlk : l < k := by
    rcases Nat.lt_or_ge l k with h | h
    · exact h
    · exact absurd (by rw [Nat.sub_eq_zero_of_le h]; rfl) he
  have hp : Pl a := h.at (by omega) (by omega)
  rw [cut_pl hp (by omega)]
  intro F w t
  have t2 := Sat.dup (Pers.cells _ _ _) t
  refine Sat.cons (fun hh hc => ?_) t2
  intro i v hv
  simp only [blk, off] at hc ⊢
  have hv2 : (xs.map u8)[l + i]? = some v := by
    rw [List.map_take, List.map_drop, List.getElem?_take] at hv
    split at hv
    · rw [List.getElem?_drop] at hv; exact hv
    · cases hv
  have := hc (l + i) v hv2
  rw [← Nat.add_assoc] at this
  simpa using this
theorem Sok.cutB {a : Option Addr} {n c : Nat} {xs : List By} (h : Sok 1 a n c (xs.map u8)) {l k m : Nat} (h1 : l ≤ k) (h2 : k ≤ n) (h3 : k ≤ m) : Sok 1 (Sl.cut a m l (l * 1)) (k - l) (m - l) (((xs.drop l).take (k - l)).map u8) := by
  have := h.cut h1 h2 h3
  simpa only [List.map_take, List.map_drop, Nat.mul_one] using this
/- One element of many. -/
def flatBut {α : Type} (p : Bool) (b o i k : Nat) (xs : List α) (enc : α → List Value) : A := grp [cells p b o ((xs.take i).flatMap enc), cells p b (o + i * k + k) ((xs.drop (i + 1)).flatMap enc)]
theorem flat_focus {α : Type} {p : Bool} {b o i k : Nat} {xs : List α} {enc : α → List Value} {x : α} (hk : ∀ x, (enc x).length = k) (h : xs[i]? = some x) {Γ : List A} : Imp (cells p b o (xs.flatMap enc) :: Γ) (cells p b (o + i * k) (enc x) :: flatBut p b o i k xs enc :: Γ) := by
  obtain ⟨hi, rfl⟩ := List.getElem?_eq_some_iff.1 h
  have e1 : xs.flatMap enc = (xs.take i).flatMap enc ++ (enc xs[i] ++ (xs.drop (i + 1)).flatMap enc) := by
    have := congrArg (List.flatMap enc) (List.take_append_drop i xs)
    rw [List.flatMap_append, List.drop_eq_getElem_cons hi, List.flatMap_cons] at this
    exact this.symm
  have l1 : ((xs.take i).flatMap enc).length = i * k := by rw [flat_length hk, List.length_take, Nat.min_eq_left (by omega)]
  rw [e1]
  refine (Imp.split p b o _ _ Γ).trans ?_
  rw [l1]
  refine (Imp.perm (.swap _ _ _)).trans ((Imp.split p b (o + i * k) _ _ _).trans ?_)
  rw [hk]
  refine Imp.cons _ ((Imp.perm (.swap _ _ _)).trans ?_)
  exact fun F w t => Sat.grp.2 t
theorem flat_put {α : Type} {p : Bool} {b o i k : Nat} {xs : List α} {enc : α → List Value} {y : α} (hk : ∀ x, (enc x).length = k) (hi : i < xs.length) {Γ : List A} : Imp (cells p b (o + i * k) (enc y) :: flatBut p b o i k xs enc :: Γ) (cells p b o ((xs.set i y).flatMap enc) :: Γ) := by
  have e1 : (xs.set i y).flatMap enc = (xs.take i).flatMap enc ++ (enc y ++ (xs.drop (i + 1)).flatMap enc) := by
    rw [List.set_eq_take_append_cons_drop, if_pos hi]
    simp
  have l1 : ((xs.take i).flatMap enc).length = i * k := by rw [flat_length hk, List.length_take, Nat.min_eq_left (by omega)]
  rw [e1]
  refine (Imp.cons _ (fun F w t => Sat.grp.1 t)).trans ?_
  refine (Imp.perm (show (cells p b (o + i * k) (enc y) :: ([cells p b o ((xs.take i).flatMap enc), cells p b (o + i * k + k) ((xs.drop (i + 1)).flatMap enc)] ++ Γ)).Perm (cells p b (o + i * k) (enc y) :: cells p b (o + i * k + k) ((xs.drop (i + 1)).flatMap enc) :: cells p b o ((xs.take i).flatMap enc) :: Γ) from (List.Perm.swap _ _ _).cons _)).trans ?_
  have j1 := Imp.join p b (o + i * k) (enc y) ((xs.drop (i + 1)).flatMap enc) (cells p b o ((xs.take i).flatMap enc) :: Γ)
  rw [hk] at j1
  refine j1.trans ((Imp.perm (.swap _ _ _)).trans ?_)
  have j2 := Imp.join p b o ((xs.take i).flatMap enc) (enc y ++ (xs.drop (i + 1)).flatMap enc) Γ
  rw [l1] at j2
  exact j2
theorem set_self {α : Type} {xs : List α} {i : Nat} {x : α} (h : xs[i]? = some x) : xs.set i x = xs := by
  obtain ⟨hi, rfl⟩ := List.getElem?_eq_some_iff.1 h
  simp
section
variable {P : Program} {s : St} {Γ Δ : List A} {d : Option Tmp} {ty : TypeId} {pos : String} {af : Array Edge} {g : Option (Nat × Bool)} {x y : Operand} {T : TypeId}
theorem q_loadAll {p : Bool} {b o k : Nat} {vs : List Value} (hT : ldB P T = some (some k)) (hx : ev s x = some (.pointer (some ⟨b, o, none⟩))) (hm : cells p b o vs ∈ Γ) (hk : vs.length = k) :
    Q1 P ⟨d, .load T x, ty, pos, af, g⟩ s Γ (.agg vs.toArray) := q_loadN (i := 0) hT hx hm rfl hk (by subst hk; simp)
theorem s_storeAll {b o k : Nat} {vs us : List Value} (hT : szB P T = some k) (hx : ev s x = some (.pointer (some ⟨b, o, none⟩))) (hy : ev s y = some (.agg us.toArray)) (hu : ∀ u ∈ us, u.oneCell' = true) (hk : us.length = k) (hv : vs.length = k)
    (hm : Upd Γ (cells true b o vs) (cells true b o us) Δ) : S1 P ⟨d, .store T x y, ty, pos, af, g⟩ s Γ Δ :=
  s_storeN (vs := vs) (us := us) (i := 0) hT hx hy hu hk rfl (by omega) (by rw [List.take_zero, List.nil_append, Nat.zero_add, List.drop_eq_nil_of_le (Nat.le_of_eq hv), List.append_nil]; exact hm)
end
theorem splice_all : ∀ (l pre zs : List Value), l.length = zs.length → splice (pre ++ zs) pre.length l = pre ++ l
  | [], pre, zs, h => by
    have : zs = [] := List.eq_nil_of_length_eq_zero h.symm
    simp [this, splice]
  | c :: l, pre, z :: zs, h => by
    have := splice_all l (pre ++ [c]) zs (by simpa using h)
    simp only [splice]
    rw [show (pre ++ z :: zs).set pre.length c = (pre ++ [c]) ++ zs by simp]
    rw [show pre.length + 1 = (pre ++ [c]).length by simp, this]
    simp
theorem splice_one {zs l : List Value} (h : l.length = zs.length) : splice (repZ zs 1) (0 * zs.length) (Value.agg l.toArray).cells.toList = l := by
  have := splice_all l [] zs h
  simp only [List.nil_append, List.length_nil] at this
  rw [show repZ zs 1 = zs by simp [repZ], Nat.zero_mul]
  exact this
section
variable {P : Program} {s : St} {Γ Δ : List A} {d : Option Tmp} {ty : TypeId} {pos : String} {af : Array Edge} {g : Option (Nat × Bool)} {x y z u : Operand} {T : TypeId}
/-- A slice of one aggregate. -/
theorem e_buildOne {zs cs : List Value} {by_ : Nat} (hT : mkB P T = some (zs, by_)) (hz : 0 < zs.length) (hn : Nat.ble (1 * zs.length) 16777216 = true) (hx : ev s x = some (.agg cs.toArray)) (hl : cs.length = zs.length) :
    E1 P ⟨d, .buildSlice T 1 #[(0, x)], ty, pos, af, g⟩ s Γ (newR Γ cs fun b => .slice (some ⟨b, 0, none⟩) 1 1) := by
  refine e_buildSlice (ps := [(0, x)]) (vs := [(0, .agg cs.toArray)]) hT hz hn (by simp [evp, hx]) ?_
  have h1 : (Value.agg cs.toArray).cells.size = zs.length := by show cs.toArray.size = _; simp [hl]
  have h2 : Nat.ble (0 * zs.length + zs.length) (repZ zs 1).length = true := by rw [Nat.ble_eq, repZ_length]; omega
  simp only [fillL, h1, h2, beq_self_eq_true, Bool.and_self]
  rw [splice_one hl]
theorem q_sliceAll {b o sz n : Nat} (hT : arB P T = some (n, sz)) (hx : ev s x = some (.pointer (some ⟨b, o, none⟩))) :
    Q1 P ⟨d, .slice T x none none none, ty, pos, af, g⟩ s Γ (.slice (some ⟨b, o, none⟩) n n) := by
  have := q_sliceA (P := P) (d := d) (ty := ty) (pos := pos) (af := af) (g := g) (Γ := Γ) (lo := none) (hi := none) (mx := none) (l := none) (h := none) (m := none) hT hx rfl rfl rfl (by simp) (by simp) (by simp) (by simp) (by simp)
  simp only [Option.getD_none, Int.toNat_natCast, Int.toNat_zero, Nat.zero_mul, Nat.sub_zero, cut_zero] at this
  exact this
theorem q_sliceAHi {b o sz n j : Nat} {hi : Operand} {k : IntKind} (hT : arB P T = some (n, sz)) (hx : ev s x = some (.pointer (some ⟨b, o, none⟩))) (hh : ev s hi = some (.int k (j : Int))) (h1 : j ≤ n) :
    Q1 P ⟨d, .slice T x none (some hi) none, ty, pos, af, g⟩ s Γ (.slice (some ⟨b, o, none⟩) j n) := by
  have := q_sliceA (P := P) (d := d) (ty := ty) (pos := pos) (af := af) (g := g) (Γ := Γ) (lo := none) (hi := some hi) (mx := none) (l := none) (h := some (j : Int)) (m := none) hT hx rfl (by simp [optV, hh]) rfl (by simp) (by simp) (by simp; omega) (by simp) (by simp)
  simp only [Option.getD_none, Option.getD_some, Int.toNat_natCast, Int.toNat_zero, Nat.zero_mul, Nat.sub_zero, cut_zero] at this
  exact this
theorem e_copyRd {e sz : Nat} {b o i n c m : Nat} {sT : TypeId} {v : Value} {vs news : List Value} (hT : slB P T = some (e, sz)) (hx : ev s x = some (.slice (some ⟨b, o + i, none⟩) n c)) (hy : ev s y = some v) (hr : Rd P sz Γ v m news) (hmn : m ≤ n)
    (h1 : ∀ q ∈ news, q.oneCell' = true) (hl : i + m * sz ≤ vs.length) (hm : Upd Γ (cells true b o vs) (cells true b o (vs.take i ++ news ++ vs.drop (i + m * sz))) Δ) :
    E1 P ⟨d, .call { callee := .builtin .copy, args := #[x, y], argTypes := #[T, sT] }, ty, pos, af, g⟩ s Γ (fun v Δ' => v = .int .i64 (m : Nat) ∧ Δ' = Δ) := by
  obtain ⟨⟨a', c', rfl⟩, h2, h3⟩ := hr
  have hmin : min m n = m := Nat.min_eq_left hmn
  have := e_copy (d := d) (ty := ty) (pos := pos) (af := af) (g := g) (sT := sT) (vs := vs) (news := news) hT hx hy (by rw [hmin]; exact h3) (by rw [hmin]; exact h2) h1 (by rw [h2]; exact hl) (by rw [h2]; exact hm)
  rw [hmin] at this
  exact this
end
theorem drop_step {α : Type} {xs : List α} {k : Nat} {x : α} (h : xs[k]? = some x) : xs.drop k = x :: xs.drop (k + 1) := by
  obtain ⟨hi, rfl⟩ := List.getElem?_eq_some_iff.1 h
  exact List.drop_eq_getElem_cons hi
theorem pickOf_le (ps : List Int) : pickOf ps ≤ 64 := by
  cases ps with
  | nil => simp [pickOf]
  | cons x r => simp only [pickOf]; omega
theorem take_one (k : Nat) (vs : List Value) (h : ∀ q ∈ vs, q.oneCell' = true) : ∀ q ∈ vs.take k, q.oneCell' = true := fun q hq => h q (List.mem_of_mem_take hq)
theorem take_part (w : Nat × Sec) (p : Nat) : ((encW w).drop 1).take ((encS w.2).take p).length = (encS w.2).take p := by
  show (encS w.2).take _ = _
  rw [List.length_take, encS_len]
  by_cases h : p ≤ 64
  · rw [Nat.min_eq_left h]
  · rw [Nat.min_eq_right (by omega), List.take_of_length_le (by rw [encS_len]; omega), List.take_of_length_le (by rw [encS_len]; omega)]
theorem torn_enc (p : Nat) (w s : Sec) : (encS w).take p ++ (encS s).drop p = encS (torn p w s) := by
  simp only [encS, torn, List.map_append, List.map_take, List.map_drop]
/- Disks. -/
structure DL where
  sa : Option Addr
  sc : Nat
  ua : Option Addr
  uc : Nat
  pa : Option Addr
  pc : Nat
abbrev diskC (d : DK) (L : DL) : List Value := [.slice L.sa d.seen.length L.sc, .slice L.ua d.sure.length L.uc, .slice L.pa d.pend.length L.pc, .int .i64 d.fuse, .bool d.down]
structure DOk (d : DK) (L : DL) : Prop where
  s : Sok 64 L.sa d.seen.length L.sc (d.seen.flatMap encS)
  u : Sok 64 L.ua d.sure.length L.uc (d.sure.flatMap encS)
abbrev diskL (b : Nat) (d : DK) (L : DL) : List A := [pu (DOk d L), cells true b 0 (diskC d L), sl true L.sa (d.seen.flatMap encS), sl true L.ua (d.sure.flatMap encS), buf 65 L.pa d.pend.length L.pc (d.pend.flatMap encW)]
def disk (b : Nat) (d : DK) : A := ex fun L => grp (diskL b d L)
/-- What holds of all disks here. -/
structure DK.ok (d : DK) : Prop where
  n : d.seen.length ≤ 512
  same : d.sure.length = d.seen.length
  idx : ∀ w ∈ d.pend, w.1 < d.seen.length
  fr : -9223372036854775808 ≤ d.fuse ∧ d.fuse ≤ 9223372036854775807
theorem disk_close {b : Nat} {d : DK} (L : DL) (h : DOk d L) {Γ : List A} : Imp (cells true b 0 (diskC d L) :: sl true L.sa (d.seen.flatMap encS) :: sl true L.ua (d.sure.flatMap encS) :: buf 65 L.pa d.pend.length L.pc (d.pend.flatMap encW) :: Γ) (disk b d :: Γ) :=
  (Imp.pu h).trans (Imp.packg (L := fun L => diskL b d L) L)
theorem disk_open {P : Program} {f : FuncId} {args : Array Value} {b : Nat} {d : DK} {Γ : List A} {R : Value → List A → Prop} (h : ∀ L, DOk d L → Trip P f args (cells true b 0 (diskC d L) :: sl true L.sa (d.seen.flatMap encS) :: sl true L.ua (d.sure.flatMap encS) :: buf 65 L.pa d.pend.length L.pc (d.pend.flatMap encW) :: Γ) R) : Trip P f args (disk b d :: Γ) R :=
  Trip.exg (L := fun L => diskL b d L) fun L => Trip.pure (h L)
theorem encW_one (w : Nat × Sec) : ∀ q ∈ encW w, q.oneCell' = true := by
  intro q hq
  rcases List.mem_cons.1 hq with rfl | hq
  · rfl
  · exact u8_one _ q hq
theorem encS_one (w : Sec) : ∀ q ∈ encS w, q.oneCell' = true := u8_one _
theorem flatS_one (l : List Sec) : ∀ q ∈ l.flatMap encS, q.oneCell' = true := by
  intro q hq
  obtain ⟨m, -, hm⟩ := List.mem_flatMap.1 hq
  exact encS_one m q hm
theorem zeros_flat (n : Nat) (zs : List Value) (h : zs = encS .zero) : repZ zs n = (List.replicate n Sec.zero).flatMap encS := by
  subst h
  induction n with
  | zero => rfl
  | succ n ih => simp only [repZ, ih, List.replicate_succ, List.flatMap_cons]
theorem pad_val (xs : List By) (h : xs.length ≤ 64) : (pad xs).1 = xs ++ List.replicate (64 - xs.length) 0 := by
  simp only [pad]
  rw [List.take_append, List.take_of_length_le (by omega), List.take_replicate]
  congr 2
  omega
theorem drop_encW (k : Nat) (s : Sec) : ((encW (k, s)).drop 1).take 64 = encS s := by
  show (encS s).take 64 = encS s
  exact List.take_of_length_le (by rw [encS_len]; omega)
theorem pad_copy (k : Nat) (xs : List By) (h : xs.length ≤ 64) : (encW (k, Sec.zero)).take 1 ++ xs.map u8 ++ (encW (k, Sec.zero)).drop (1 + xs.length) = encW (k, pad xs) := by
  have e1 : (encW (k, Sec.zero)).drop (1 + xs.length) = (encS Sec.zero).drop xs.length := by rw [Nat.add_comm]; rfl
  have e2 : (encS Sec.zero).drop xs.length = (List.replicate (64 - xs.length) (0 : By)).map u8 := by
    show ((List.replicate 64 (0 : By)).map u8).drop xs.length = _
    rw [← List.map_drop, List.drop_replicate]
  rw [e1, e2]
  show [Value.int .i64 ((k : Nat) : Int)] ++ xs.map u8 ++ _ = Value.int .i64 ((k : Nat) : Int) :: (pad xs).1.map u8
  rw [pad_val xs h, List.map_append]
  rfl
/- Rounds. -/
theorem assignQ_n {P : Program} {n l : Nat} {rec : Loop} {R : Value → List A → Prop} {s : St} {Γ : List A} {c : Code} (Δ : List A) (i : Imp Γ (objc true l (.loop rec) :: Δ)) (hb : rec.body = c) (h : WPR P n l c s (objc true l (.loop { rec with state := .busy }) :: Δ) (roundQ l rec R)) : assignQ P n l rec R .normal s Γ := ⟨Δ, i, hb ▸ h⟩
theorem roundQ_n {l : Nat} {rec : Loop} {R : Value → List A → Prop} {s : St} {Γ : List A} (Δ : List A) (i : Imp Γ (objc true l (.loop { rec with state := .busy }) :: Δ)) (h : R (.bool true) (objc true l (.loop rec) :: Δ)) : roundQ l rec R .normal s Γ := ⟨Δ, i, h⟩
theorem wanted_yes {n : Nat} {s : St} {ops : Array Oper} {o : Oper} {j t : Nat} {b : Bool} (hg : o.guard = some (j, b)) (hj : (ops[j]?).bind (·.dst) = some t) (hv : getE s.env t = some (.bool b)) : ∀ a : Act, Ok n s a → Region.wanted o (yielded ops a.tmps) = true := fun a ok => by
  simp [Region.wanted, hg, yielded_of ok hj hv]
/- Slots. -/
abbrev outL (bo : Nat) (r : SR) (L : Option Addr × Nat) : List A := [pu (Sok 1 L.1 r.b.length L.2 (r.b.map u8)), cells true bo 0 [.int .i64 r.at_, .int .u32 (r.seq : Int), .slice L.1 r.b.length L.2], sl false L.1 (r.b.map u8)]
def outA (bo : Nat) (r : SR) : A := ex fun L => grp (outL bo r L)
theorem outA_close {bo : Nat} {r : SR} (a : Option Addr) (c : Nat) (h : Sok 1 a r.b.length c (r.b.map u8)) {Γ : List A} : Imp (cells true bo 0 [.int .i64 r.at_, .int .u32 (r.seq : Int), .slice a r.b.length c] :: sl false a (r.b.map u8) :: Γ) (outA bo r :: Γ) :=
  (Imp.pu h).trans (Imp.packg (L := fun L => outL bo r L) (a, c))
def pOk (s : List By) : Bool := (parse s).isSome
def pS (s : List By) : Nat := ((parse s).map (·.1)).getD 0
def pE (s : List By) : Nat := ((parse s).map (·.2.1)).getD 0
def pB (s : List By) : List By := ((parse s).map (·.2.2)).getD []
theorem pcase (s : List By) : (pOk s = true ∧ pE s = 0) ∨ (pOk s = true ∧ pE s ≠ 0) ∨ pOk s = false := by
  cases pOk s with
  | false => exact .inr (.inr rfl)
  | true => by_cases h : pE s = 0; exact .inl ⟨rfl, h⟩; exact .inr (.inl ⟨rfl, h⟩)
theorem parse_lt {s : List By} {seq ep : Nat} {b : List By} (h : parse s = some (seq, ep, b)) : 0 < seq ∧ seq < 4294967296 ∧ ep < 4294967296 ∧ b.length ≤ 43 := by
  unfold parse at h
  split at h
  · cases h
  · rename_i hn
    simp only [Option.some.injEq, Prod.mk.injEq] at h
    obtain ⟨rfl, rfl, rfl⟩ := h
    have h0 := num_lt s 0 4
    have h4 := num_lt s 4 4
    refine ⟨by omega, h0, h4, ?_⟩
    simp only [part, List.length_take]
    omega
theorem lastStep_of {d : DK} {i : Int} {out : SR} {s : Sec} (h : d.read i = some s) : lastStep d i out = if pOk s.1 = true ∧ pE s.1 = 0 ∧ out.seq < pS s.1 then ⟨i, pS s.1, pB s.1⟩ else out := by
  unfold lastStep
  rw [h]
  simp only [Option.bind_some]
  obtain ⟨q, hq⟩ : ∃ q, parse s.1 = q := ⟨_, rfl⟩
  have e1 : pOk s.1 = q.isSome := by rw [← hq]; rfl
  have e2 : pE s.1 = (q.map (·.2.1)).getD 0 := by rw [← hq]; rfl
  have e3 : pS s.1 = (q.map (·.1)).getD 0 := by rw [← hq]; rfl
  have e4 : pB s.1 = (q.map (·.2.2)).getD [] := by rw [← hq]; rfl
  rw [hq, e4]
  simp only [e1, e2, e3]
  cases q with
  | none => simp
  | some t =>
    obtain ⟨a, b, c⟩ := t
    simp
def lastK (d : DK) (at_ : Int) (out : SR) : Nat → SR
  | 0 => out
  | k + 1 => lastStep d (at_ + k) (lastK d at_ out k)
theorem last_eq (d : DK) (i : Int) : lastK d i ⟨i + 1, 0, []⟩ 2 = last d i := by
  show lastStep d (i + ((1 : Nat) : Int)) (lastStep d (i + ((0 : Nat) : Int)) _) = lastStep d (i + 1) (lastStep d i _)
  simp [lastK]
theorem read_in {d : DK} {i : Int} (h : 0 ≤ i ∧ i < (d.seen.length : Int)) : ∃ s, d.read i = some s := by
  refine ⟨d.seen[i.toNat]'(by omega), ?_⟩
  unfold DK.read
  rw [if_pos h]
  simp
theorem pS_lt (s : List By) : pS s < 4294967296 ∧ pE s < 4294967296 := by
  unfold pS pE
  cases hp : parse s with
  | none => simp
  | some t =>
    obtain ⟨a, b, c⟩ := t
    have := parse_lt hp
    exact ⟨this.2.1, this.2.2.1⟩
/- What the disk's operations keep. -/
theorem flush_len : ∀ (ws : List (Nat × Sec)) (s : List Sec), (flush s ws).length = s.length
  | [], _ => rfl
  | w :: ws, s => by simp only [flush]; rw [flush_len ws, List.length_set]
theorem crashL_len : ∀ (ws : List (Nat × Sec)) (s : List Sec) (ps : List Int), (crashL s ws ps).length = s.length
  | [], _, _ => rfl
  | w :: ws, s, ps => by simp only [crashL]; rw [crashL_len ws, List.length_set]
theorem DK.ok.done {d : DK} (h : d.ok) : d.done.ok := ⟨h.n, h.same, h.idx, by have := h.fr; simp only [DK.done]; omega⟩
theorem DK.ok.sync {d : DK} (h : d.ok) : d.sync.ok := by
  unfold DK.sync
  split
  · exact h.done
  · exact ⟨h.n, by show (flush d.sure d.pend).length = _; rw [flush_len]; exact h.same, fun w hw => by simp at hw, h.done.fr⟩
theorem sync_len (d : DK) : d.sync.seen.length = d.seen.length := by
  unfold DK.sync
  split <;> rfl
theorem sync_pend (d : DK) : d.sync.pend.length ≤ d.pend.length := by
  unfold DK.sync
  split
  · exact Nat.le_refl _
  · exact Nat.zero_le _
theorem DK.ok.write {d : DK} (h : d.ok) (i : Int) (b : List By) : (d.write i b).1.ok := by
  unfold DK.write
  split
  · exact h
  · split
    · exact h
    · split
      · exact h.done
      · rename_i h1 _ _
        have hk : i.toNat < d.seen.length := by omega
        refine ⟨by simp only [DK.put, List.length_set]; exact h.n, by simp only [DK.put, List.length_set]; exact h.same, fun w hw => ?_, h.done.fr⟩
        simp only [DK.put, List.length_set]
        rcases List.mem_append.1 hw with hw | hw
        · exact h.idx w hw
        · rw [List.mem_singleton.1 hw]; exact hk
theorem write_len (d : DK) (i : Int) (b : List By) : (d.write i b).1.seen.length = d.seen.length := by
  unfold DK.write
  split
  · rfl
  · split
    · rfl
    · split
      · rfl
      · simp [DK.put, DK.done]
theorem write_pend (d : DK) (i : Int) (b : List By) : (d.write i b).1.pend.length ≤ d.pend.length + 1 := by
  unfold DK.write
  split
  · exact Nat.le_succ _
  · split
    · exact Nat.le_succ _
    · split
      · simp [DK.done]
      · simp [DK.put, DK.done]
theorem DK.ok.crash {d : DK} (h : d.ok) (ps : List Int) : (d.crash ps).ok := by
  unfold DK.crash
  exact ⟨by show (crashL _ _ _).length ≤ _; rw [crashL_len, h.same]; exact h.n, rfl, fun w hw => by simp at hw, by show -9223372036854775808 ≤ (-1 : Int) ∧ (-1 : Int) ≤ _; omega⟩
theorem crash_len {d : DK} (h : d.ok) (ps : List Int) : (d.crash ps).seen.length = d.seen.length := by
  show (crashL _ _ _).length = _
  rw [crashL_len, h.same]
theorem put_ok {d : DK} (h : d.ok) (i : Int) (b : List By) : (put d i b).1.ok := by
  unfold put
  split
  · exact h
  · split
    · exact h
    · split
      · exact h
      · exact h.sync.write _ _
theorem put_len (d : DK) (i : Int) (b : List By) : (put d i b).1.seen.length = d.seen.length := by
  unfold put
  split
  · rfl
  · split
    · rfl
    · split
      · rfl
      · rw [write_len, sync_len]
theorem put_pend (d : DK) (i : Int) (b : List By) : (put d i b).1.pend.length ≤ d.pend.length + 1 := by
  unfold put
  split
  · show d.pend.length ≤ _; omega
  · split
    · show d.pend.length ≤ _; omega
    · split
      · show d.pend.length ≤ _; omega
      · have h1 := write_pend d.sync (2 * i + 1 - (last d i).at_) (stamp ((last d i).seq + 1) 0 b)
        have h2 := sync_pend d
        omega
theorem save_ok {d : DK} (h : d.ok) (i : Int) (b : List By) : (save d i b).1.ok := by
  unfold save
  split
  · exact (put_ok h i b).sync
  · exact put_ok h i b
theorem save_len (d : DK) (i : Int) (b : List By) : (save d i b).1.seen.length = d.seen.length := by
  unfold save
  split
  · show ((put d i b).1.sync).seen.length = _; rw [sync_len, put_len]
  · exact put_len d i b
theorem save_pend (d : DK) (i : Int) (b : List By) : (save d i b).1.pend.length ≤ d.pend.length + 1 := by
  have h := put_pend d i b
  unfold save
  split
  · show ((put d i b).1.sync).pend.length ≤ _
    have := sync_pend (put d i b).1
    omega
  · exact h
theorem lastStep_at (d : DK) (i : Int) (r : SR) : (lastStep d i r).at_ = i ∨ (lastStep d i r).at_ = r.at_ := by
  unfold lastStep
  split
  · split
    · exact .inl rfl
    · exact .inr rfl
  · exact .inr rfl
theorem last_at (d : DK) (i : Int) : (last d i).at_ = i ∨ (last d i).at_ = i + 1 := by
  unfold last
  rcases lastStep_at d (i + 1) (lastStep d i ⟨i + 1, 0, []⟩) with h | h
  · exact .inr h
  · rcases lastStep_at d i ⟨i + 1, 0, []⟩ with h2 | h2
    · exact .inl (h.trans h2)
    · exact .inr (h.trans h2)
theorem lastStep_lt {d : DK} {i : Int} {r : SR} (h : r.seq < 4294967296 ∧ r.b.length ≤ 43) : (lastStep d i r).seq < 4294967296 ∧ (lastStep d i r).b.length ≤ 43 := by
  unfold lastStep
  split
  · rename_i seq ep b hb
    split
    · obtain ⟨s, -, hp⟩ := Option.bind_eq_some_iff.1 hb
      have := parse_lt hp
      exact ⟨this.2.1, this.2.2.2⟩
    · exact h
  · exact h
theorem last_lt (d : DK) (i : Int) : (last d i).seq < 4294967296 ∧ (last d i).b.length ≤ 43 := lastStep_lt (lastStep_lt ⟨by show 0 < _; omega, by show 0 ≤ _; omega⟩)
theorem right_in {d : DK} {i : Int} (h : 0 ≤ i ∧ i + 1 < (d.seen.length : Int)) : right_ d i = true := by
  simp only [right_, Bool.and_eq_true, decide_eq_true_eq]; omega
/- Journals. -/
structure JR where
  ep : Nat
  x : BS
abbrev encR (r : JR) : List Value := [.int .u32 (r.ep : Int), .slice r.x.a r.x.n r.x.c]
theorem encR_len (r : JR) : (encR r).length = 2 := rfl
abbrev jrP (r : JR) : Nat × List By := (r.ep, r.x.bs)
structure JL where
  rs : List JR
  a : Option Addr
  c : Nat
abbrev jourC (db : Nat) (j : JN) (L : JL) : List Value := [.pointer (some ⟨db, 0, none⟩), .int .i64 (j.at_ : Int), .int .i64 (j.n : Int), .int .u32 (j.first : Int), .int .u32 (j.epoch : Int), .int .u32 (j.low : Int), .slice L.a L.rs.length L.c]
structure JOk (j : JN) (L : JL) : Prop where
  held : L.rs.map jrP = j.held
  ok : ∀ r ∈ L.rs, r.x.ok
theorem JOk.len {j : JN} {L : JL} (h : JOk j L) : L.rs.length = j.held.length := by rw [← h.held, List.length_map]
abbrev jourL (b db : Nat) (j : JN) (L : JL) : List A := [pu (JOk j L), cells true b 0 (jourC db j L), buf 2 L.a L.rs.length L.c (L.rs.flatMap encR), bytes (L.rs.map (·.x))]
def jour (b db : Nat) (j : JN) : A := ex fun L => grp (jourL b db j L)
theorem jour_close {b db : Nat} {j : JN} (L : JL) (h : JOk j L) {Γ : List A} : Imp (cells true b 0 (jourC db j L) :: buf 2 L.a L.rs.length L.c (L.rs.flatMap encR) :: bytes (L.rs.map (·.x)) :: Γ) (jour b db j :: Γ) :=
  (Imp.pu h).trans (Imp.packg (L := fun L => jourL b db j L) L)
theorem jour_open {P : Program} {f : FuncId} {args : Array Value} {b db : Nat} {j : JN} {Γ : List A} {R : Value → List A → Prop} (h : ∀ L, JOk j L → Trip P f args (cells true b 0 (jourC db j L) :: buf 2 L.a L.rs.length L.c (L.rs.flatMap encR) :: bytes (L.rs.map (·.x)) :: Γ) R) : Trip P f args (jour b db j :: Γ) R :=
  Trip.exg (L := fun L => jourL b db j L) fun L => Trip.pure (h L)
/-- What holds of all journals here. -/
structure JN.ok (j : JN) (d : DK) : Prop where
  n : 1 ≤ j.n ∧ j.n ≤ 100
  at_ : j.at_ + 2 + j.n ≤ d.seen.length
  first : j.first < 4294967296
  epoch : j.epoch < 4294967296
  low : j.low < 4294967296
  held : j.held.length ≤ j.n
  eps : ∀ x ∈ j.held, x.1 < 4294967296
theorem getD_lt {l : List (Nat × List By)} (h : ∀ x ∈ l, x.1 < 4294967296) (i : Nat) : ((l[i]?).getD (0, [])).1 < 4294967296 := by
  cases hh : l[i]? with
  | none => simp
  | some x => exact h x (List.mem_of_getElem? hh)
theorem encR_one (l : List JR) : ∀ q ∈ l.flatMap encR, q.oneCell' = true := by
  intro q hq
  obtain ⟨m, -, hm⟩ := List.mem_flatMap.1 hq
  simp only [encR, List.mem_cons, List.not_mem_nil, or_false] at hm
  rcases hm with h | h <;> subst h <;> rfl
/- Three numbers of a slot. -/
def T1 (xs : List By) := rtake xs false 4
def T2 (xs : List By) := rtake (T1 xs).2.1 (T1 xs).2.2 4
def T3 (xs : List By) := rtake (T2 xs).2.1 (T2 xs).2.2 4
theorem rnum_lt (xs : List By) (sh : Bool) : ofLE (rtake xs sh 4).1 < 4294967296 := by
  have h := ofLE_lt (rtake xs sh 4).1
  have h2 := rtake_len xs sh 4
  exact Nat.lt_of_lt_of_le h (Nat.pow_le_pow_right (n := 2) (j := 32) (by omega) (by omega))
theorem T3_twelve {xs : List By} (h : xs.length = 12) : (T3 xs).2.2 = false ∧ (T3 xs).2.1 = [] ∧ ofLE (T1 xs).1 = num xs 0 4 ∧ ofLE (T2 xs).1 = num xs 4 4 ∧ ofLE (T3 xs).1 = num xs 8 4 := by
  have e1 : T1 xs = (xs.take 4, xs.drop 4, false) := by unfold T1 rtake; rw [if_neg (by simp; omega)]
  have e2 : T2 xs = ((xs.drop 4).take 4, xs.drop 8, false) := by unfold T2; rw [e1]; unfold rtake; rw [if_neg (by simp; omega)]; simp
  have e3 : T3 xs = ((xs.drop 8).take 4, xs.drop 12, false) := by unfold T3; rw [e2]; unfold rtake; rw [if_neg (by simp; omega)]; simp
  rw [e3, e2, e1]
  refine ⟨rfl, List.drop_eq_nil_of_le (by omega), rfl, rfl, rfl⟩
theorem T3_only {xs : List By} (h1 : (T3 xs).2.2 = false) (h2 : (T3 xs).2.1 = []) : xs.length = 12 := by
  have key : ∀ (ys : List By) (sh : Bool), (rtake ys sh 4).2.2 = false → sh = false ∧ 4 ≤ ys.length ∧ (rtake ys sh 4).2.1 = ys.drop 4 := by
    intro ys sh h
    unfold rtake at h ⊢
    split at h
    · simp at h
    · rename_i hn
      rw [if_neg hn]
      simp at hn
      exact ⟨hn.1, hn.2, rfl⟩
  obtain ⟨a1, a2, a3⟩ := key _ _ h1
  obtain ⟨b1, b2, b3⟩ := key _ _ a1
  obtain ⟨c1, c2, c3⟩ := key _ _ b1
  have e1 : (T1 xs).2.1 = xs.drop 4 := c3
  have e2 : (T2 xs).2.1 = (xs.drop 4).drop 4 := by rw [show (T2 xs).2.1 = _ from b3, e1]
  have e3 : (T3 xs).2.1 = ((xs.drop 4).drop 4).drop 4 := by rw [show (T3 xs).2.1 = _ from a3, e2]
  have e4 : 4 ≤ ((xs.drop 4).drop 4).length := by rw [← e2]; exact a2
  have e5 := congrArg List.length (e3.symm.trans h2)
  simp at e4 e5
  omega
def JN.withMeta (j : JN) (xs : List By) : JN := { j with first := ofLE (T1 xs).1, epoch := ofLE (T2 xs).1, low := ofLE (T3 xs).1 }
theorem T_len (xs : List By) : (T1 xs).2.1.length ≤ xs.length ∧ (T2 xs).2.1.length ≤ xs.length ∧ (T3 xs).2.1.length ≤ xs.length := by
  have key : ∀ (ys : List By) (sh : Bool), (rtake ys sh 4).2.1.length ≤ ys.length := by
    intro ys sh; unfold rtake; split <;> simp
  have h1 := key xs false
  have h2 := key (T1 xs).2.1 (T1 xs).2.2
  have h3 := key (T2 xs).2.1 (T2 xs).2.2
  exact ⟨h1, Nat.le_trans h2 h1, Nat.le_trans h3 (Nat.le_trans h2 h1)⟩
def scanOk (s : List By) (low next epoch : Nat) : Prop := pOk s = true ∧ pS s = next ∧ low ≤ pE s ∧ pE s ≤ epoch
theorem scanL_yes {d : DK} {at_ n epoch f low next : Nat} {s : Sec} (hr : d.read ((at_ + 2 + next % n : Nat) : Int) = some s) (hn : next ≤ 4294967295) (h : scanOk s.1 low next epoch) : scanL d at_ n epoch (f + 1) low next = (pE s.1, pB s.1) :: scanL d at_ n epoch f (pE s.1) (next + 1) := by
  obtain ⟨h1, h2, h3, h4⟩ := h
  simp only [scanL]
  rw [if_pos hn, hr]
  simp only [Option.bind_some]
  unfold pOk at h1
  unfold pS at h2
  unfold pE at h3 h4 ⊢
  unfold pB
  cases hp : parse s.1 with
  | none => rw [hp] at h1; cases h1
  | some t =>
    obtain ⟨a, b, c⟩ := t
    rw [hp] at h2 h3 h4
    simp at h2 h3 h4
    simp [h2, h3, h4]
theorem scanL_no {d : DK} {at_ n epoch f low next : Nat} {s : Sec} (hr : d.read ((at_ + 2 + next % n : Nat) : Int) = some s) (h : ¬ scanOk s.1 low next epoch) : scanL d at_ n epoch (f + 1) low next = [] := by
  simp only [scanL]
  split
  · rw [hr]
    simp only [Option.bind_some]
    unfold scanOk pOk pS pE at h
    cases hp : parse s.1 with
    | none => rfl
    | some t =>
      obtain ⟨a, b, c⟩ := t
      rw [hp] at h
      simp at h
      simp
      intro h1 h2
      have := h h1 h2
      omega
  · rfl
theorem scanL_far {d : DK} {at_ n epoch f low next : Nat} (h : 4294967295 < next) : scanL d at_ n epoch f low next = [] := by
  cases f with
  | zero => rfl
  | succ f => simp only [scanL]; rw [if_neg (by omega)]
theorem rd_cut {P : Program} {Γ : List A} {ab ao c k n : Nat} {rs : List JR} {sp : List Value} (hm : cells true ab ao (rs.flatMap encR ++ sp) ∈ Γ) (hk : k ≤ n) (hn : rs.length = n) (hc : n ≤ c) : Rd P 2 Γ (.slice (cut (some ⟨ab, ao, none⟩) c k (k * 2)) (n - k) (c - k)) (n - k) ((rs.drop k).flatMap encR) := by
  by_cases h : k = n
  · subst h
    rw [List.drop_eq_nil_of_le (by omega), Nat.sub_self]
    exact Rd.zero
  · rw [cut_pl (Pl.mk _ _) (by omega)]
    refine Rd.part (i := k * 2) hm rfl (by rw [flat_length encR_len, List.length_drop, hn]) ?_
    have e : (rs.flatMap encR ++ sp).drop (k * 2) = (rs.drop k).flatMap encR ++ sp := by
      rw [List.drop_append_of_le_length (by rw [flat_length encR_len]; omega)]
      congr 1
      have := congrArg (List.flatMap encR) (List.take_append_drop k rs)
      rw [List.flatMap_append] at this
      rw [← this, List.drop_left' (by rw [flat_length encR_len, List.length_take]; congr 1; omega)]
    rw [e, List.take_left]
theorem del_list {k n : Nat} {rs : List JR} {sp Z : List Value} (hk : k ≤ n) (hn : rs.length = n) :
    ((rs.drop k).flatMap encR ++ (rs.flatMap encR ++ sp).drop ((n - k) * 2)).take ((n - k) * 2) ++ Z ++ ((rs.drop k).flatMap encR ++ (rs.flatMap encR ++ sp).drop ((n - k) * 2)).drop ((n - k) * 2 + k * 2) = (rs.drop k).flatMap encR ++ (Z ++ sp) := by
  have hD : ((rs.drop k).flatMap encR).length = (n - k) * 2 := by rw [flat_length encR_len, List.length_drop, hn]
  have hL : (rs.flatMap encR).length = n * 2 := by rw [flat_length encR_len, hn]
  rw [List.take_left' hD, List.append_assoc]
  congr 2
  rw [← List.drop_drop, List.drop_left' hD, List.drop_drop]
  exact List.drop_left' (by rw [hL]; omega)
theorem Imp.bufShrink {sz m n c : Nat} {a : Option Addr} {xs ys : List Value} {Γ : List A} (hl : xs.length = m * sz) (hmn : m ≤ n) : Imp (buf sz a n c (xs ++ ys) :: Γ) (buf sz a m c xs :: Γ) := fun F w t => by
  obtain ⟨h1, sp, ⟨h2, h3⟩, t⟩ := Sat.buf.1 t
  have hy : ys.length = (n - m) * sz := by
    have := h1.len
    rw [List.length_append, hl] at this
    rw [Nat.sub_mul]; omega
  refine Sat.buf.2 ⟨⟨hl, Nat.le_trans hmn h1.cap, ?_⟩, ys ++ sp, ⟨?_, h3⟩, by rw [← List.append_assoc]; exact t⟩
  · rcases h1.pl with h | h
    · left; exact (List.append_eq_nil_iff.1 h).1
    · exact .inr h
  · have := h1.cap
    rw [List.length_append, hy, h2, ← Nat.add_mul]; congr 1; omega
theorem bufAll {sz n c : Nat} {a : Option Addr} {xs : List Value} {Γ : List A} : Imp (buf sz a n c xs :: Γ) (ex (fun sp : List Value => star (pu (Sok sz a n c xs ∧ sp.length = (c - n) * sz ∧ (Pl a ∨ c = 0))) (cells true (blk a) (off a) (xs ++ sp))) :: Γ) := fun F w t => by
  obtain ⟨h1, sp, ⟨h2, h3⟩, t⟩ := Sat.buf.1 t
  exact Sat.ex.2 ⟨sp, Sat.star.2 (Sat.pure.2 ⟨⟨h1, h2, h3⟩, t⟩)⟩
theorem WPL.bufAll {P : Program} {nn : Nat} {s : St} {Γ : List A} {ops : Array Oper} {l : List Oper} {K : St → List A → Prop} {sz n c : Nat} {a : Option Addr} {xs : List Value} (h : ∀ sp, Sok sz a n c xs → sp.length = (c - n) * sz → (Pl a ∨ c = 0) → WPL P nn ops l s (cells true (blk a) (off a) (xs ++ sp) :: Γ) K) : WPL P nn ops l s (buf sz a n c xs :: Γ) K :=
  WPL.imp Sl.bufAll (WPL.ex fun sp => WPL.imp (fun F w t => Sat.star.1 t) (WPL.pure fun hh => h sp hh.1 hh.2.1 hh.2.2))
theorem cut_step {dk : DK} {j : JN} {ri : List JR} {rl : JR} {f : Nat} {X : DK × JN} (h : cutL dk { j with held := (ri ++ [rl]).map jrP } (f + 1) = X) : cutL (dk.write (({ j with held := ri.map jrP } : JN).place (j.first + ri.length)) []).1 { j with held := ri.map jrP } f = X := by
  rw [← h]
  simp only [cutL, List.map_append, List.map_cons, List.map_nil, List.dropLast_concat, JN.next, List.length_map]
theorem scanL_all {d : DK} {at_ n epoch : Nat} : ∀ (f low next : Nat), (scanL d at_ n epoch f low next).length ≤ f ∧ ∀ x ∈ scanL d at_ n epoch f low next, x.1 < 4294967296 ∧ x.2.length ≤ 43
  | 0, _, _ => ⟨Nat.le_refl _, by simp [scanL]⟩
  | f + 1, low, next => by
    simp only [scanL]
    split
    · split
      · rename_i seq ep b hb
        obtain ⟨s, -, hp⟩ := Option.bind_eq_some_iff.1 hb
        have hpl := parse_lt hp
        split
        · obtain ⟨h1, h2⟩ := scanL_all (d := d) (at_ := at_) (n := n) (epoch := epoch) f ep (next + 1)
          refine ⟨by simp; omega, fun x hx => ?_⟩
          rcases List.mem_cons.1 hx with rfl | hx
          · exact ⟨hpl.2.2.1, hpl.2.2.2⟩
          · exact h2 x hx
        · exact ⟨Nat.zero_le _, by simp⟩
      · exact ⟨Nat.zero_le _, by simp⟩
    · exact ⟨Nat.zero_le _, by simp⟩
theorem JN.ok.scanned {j : JN} {d : DK} (h : j.ok d) : (j.scanned d).ok d := by
  have hs := scanL_all (d := d) (at_ := j.at_) (n := j.n) (epoch := j.epoch) j.n j.low j.first
  exact ⟨h.n, h.at_, h.first, h.epoch, h.low, hs.1, fun x hx => (hs.2 x hx).1⟩
/- Opening. -/
def openD (d : DK) (j1 : JN) (n : Nat) : DK := if j1.held.length < n then (d.write ((j1.place j1.next : Nat) : Int) []).1 else d
def openJ (j1 : JN) : JN := { j1 with epoch := j1.epoch + 1 }
theorem jopen0_none {d : DK} {at_ n : Nat} (h : JN.begun d at_ n = none) : jopen0 d at_ n = (d, none, 41) := by
  unfold jopen0; rw [h]
theorem jopen0_full {d : DK} {at_ n : Nat} {j0 : JN} (h : JN.begun d at_ n = some j0) (he : j0.epoch = 4294967295) : jopen0 d at_ n = (d, none, 42) := by
  unfold jopen0; rw [h]; simp only [if_pos he]
theorem jopen0_err {d : DK} {at_ n : Nat} {j0 : JN} (h : JN.begun d at_ n = some j0) (he : j0.epoch ≠ 4294967295) (hs : (jsave (openD d (j0.scanned d) n) (openJ (j0.scanned d))).2 ≠ 0) :
    jopen0 d at_ n = ((jsave (openD d (j0.scanned d) n) (openJ (j0.scanned d))).1, none, (jsave (openD d (j0.scanned d) n) (openJ (j0.scanned d))).2) := by
  unfold jopen0; rw [h]; simp only [if_neg he]
  unfold openD openJ at hs ⊢
  rw [if_neg hs]
theorem jopen0_ok {d : DK} {at_ n : Nat} {j0 : JN} (h : JN.begun d at_ n = some j0) (he : j0.epoch ≠ 4294967295) (hs : (jsave (openD d (j0.scanned d) n) (openJ (j0.scanned d))).2 = 0) :
    jopen0 d at_ n = ((jsave (openD d (j0.scanned d) n) (openJ (j0.scanned d))).1, some (openJ (j0.scanned d)), 0) := by
  unfold jopen0; rw [h]; simp only [if_neg he]
  unfold openD openJ at hs ⊢
  rw [if_pos hs]
theorem openD_ok {d : DK} (h : d.ok) (j1 : JN) (n : Nat) : (openD d j1 n).ok ∧ (openD d j1 n).seen.length = d.seen.length ∧ (openD d j1 n).pend.length ≤ d.pend.length + 1 := by
  unfold openD
  split
  · exact ⟨h.write _ _, write_len _ _ _, write_pend _ _ _⟩
  · exact ⟨h, rfl, by omega⟩
def JN.fresh (at_ n : Nat) : JN := ⟨at_, n, 1, 0, 0, []⟩
theorem begun_zero {d : DK} {at_ n : Nat} (h : (last d at_).seq = 0) : JN.begun d at_ n = some (JN.fresh at_ n) := by
  unfold JN.begun; rw [if_pos h]; rfl
theorem begun_meta {d : DK} {at_ n : Nat} (h : (last d at_).seq ≠ 0) (h2 : (last d at_).b.length = 12 ∧ 0 < num (last d at_).b 0 4 ∧ num (last d at_).b 8 4 ≤ num (last d at_).b 4 4) : JN.begun d at_ n = some ((JN.fresh at_ n).withMeta (last d at_).b) := by
  unfold JN.begun
  rw [if_neg h, if_pos h2]
  obtain ⟨-, -, e1, e2, e3⟩ := T3_twelve h2.1
  unfold JN.withMeta JN.fresh
  rw [e1, e2, e3]
theorem begun_bad {d : DK} {at_ n : Nat} (h : (last d at_).seq ≠ 0) (h2 : ¬ ((last d at_).b.length = 12 ∧ 0 < num (last d at_).b 0 4 ∧ num (last d at_).b 8 4 ≤ num (last d at_).b 4 4)) : JN.begun d at_ n = none := by
  unfold JN.begun
  rw [if_neg h, if_neg h2]
theorem fresh_ok {d : DK} {at_ n : Nat} (hn : 1 ≤ n ∧ n ≤ 100) (h : at_ + 2 + n ≤ d.seen.length) : (JN.fresh at_ n).ok d := ⟨hn, h, by show 1 < _; omega, by show 0 < _; omega, by show 0 < _; omega, Nat.zero_le _, by intro x hx; cases hx⟩
theorem meta_ok {d : DK} {at_ n : Nat} (hn : 1 ≤ n ∧ n ≤ 100) (h : at_ + 2 + n ≤ d.seen.length) (xs : List By) : ((JN.fresh at_ n).withMeta xs).ok d := ⟨hn, h, rnum_lt xs false, rnum_lt _ _, rnum_lt _ _, Nat.zero_le _, by intro x hx; cases hx⟩
/- What the statements are handed. -/
structure IS where
  xs : List Int
  a : Option Addr
  n : Nat
  c : Nat
def IS.ok (x : IS) : Prop := Sok 1 x.a x.n x.c (x.xs.map (.int .i64))
theorem IS.ok.n {x : IS} (h : x.ok) : x.n = x.xs.length := by have := h.len; simp at this; omega
abbrev IS.at_ (x : IS) : A := sl false x.a (x.xs.map (.int .i64))
structure OpV where
  do_ : Int
  n : Int
  b : BS
  p : IS
abbrev encO (o : OpV) : List Value := [.int .i64 o.do_, .int .i64 o.n, bsV o.b, .slice o.p.a o.p.n o.p.c]
theorem encO_len (o : OpV) : (encO o).length = 4 := rfl
/-- Operations that can be read. -/
def OpsD (D : A) (ops : List OpV) : Prop := ∀ o ∈ ops, o.b.ok ∧ o.p.ok ∧ (∀ Γ, Imp (D :: Γ) (o.b.at_ :: D :: Γ)) ∧ (∀ Γ, Imp (D :: Γ) (o.p.at_ :: D :: Γ))
end Go.Sl
