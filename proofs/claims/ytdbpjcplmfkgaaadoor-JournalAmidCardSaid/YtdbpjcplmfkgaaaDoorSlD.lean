/- Separation logic over the model's code: slices, composite literals, append, copy, make. -/
import Derived.Test.YtdbpjcplmfkgaaaDoorSlC
namespace Go.Sl
open Go Go.RowKit

def blk (a : Option Addr) : Nat := (a.getD ⟨0, 0, none⟩).block
def off (a : Option Addr) : Nat := (a.getD ⟨0, 0, none⟩).off
theorem blk_some (b o : Nat) : blk (some ⟨b, o, none⟩) = b := rfl
theorem off_some (b o : Nat) : off (some ⟨b, o, none⟩) = o := rfl
/-- The cells behind a slice's address are those at (blk a, off a). -/
def Pl (a : Option Addr) : Prop := a = some ⟨blk a, off a, none⟩
theorem Pl.mk (b o : Nat) : Pl (some ⟨b, o, none⟩) := rfl
/-- A slice value over cells. -/
structure Sok (sz : Nat) (a : Option Addr) (n c : Nat) (cs : List Value) : Prop where
  len : cs.length = n * sz
  cap : n ≤ c
  pl : cs = [] ∨ Pl a
theorem Sok.at {sz : Nat} {a : Option Addr} {n c : Nat} {cs : List Value} (h : Sok sz a n c cs) (hn : 0 < n) (hs : 0 < sz) : a = some ⟨blk a, off a, none⟩ := by
  rcases h.pl with e | e
  · have := h.len; rw [e] at this; have := Nat.mul_pos hn hs; simp at *; omega
  · exact e
/-- Its cells. -/
abbrev sl (p : Bool) (a : Option Addr) (cs : List Value) : A := cells p (blk a) (off a) cs
/-- A value that is a slice over these cells. -/
def slv (p : Bool) (sz : Nat) (v : Value) (cs : List Value) : A := ex fun a : Option Addr => ex fun n : Nat => ex fun c : Nat => star (pu (v = .slice a n c ∧ Sok sz a n c cs)) (sl p a cs)
theorem Pers.slv (sz : Nat) (v : Value) (cs : List Value) : Pers (slv false sz v cs) := Pers.ex fun _ => Pers.ex fun _ => Pers.ex fun _ => (Pers.pu _).star (Pers.cells _ _ _)
/-- A slice of one's own, with what it may grow into. -/
def buf (sz : Nat) (a : Option Addr) (n c : Nat) (cs : List Value) : A :=
  star (pu (Sok sz a n c cs)) (ex fun sp : List Value => star (pu (sp.length = (c - n) * sz ∧ (Pl a ∨ c = 0))) (cells true (blk a) (off a) (cs ++ sp)))

section
variable {P : Program} {s : St} {Γ Δ : List A} {d : Option Tmp} {ty : TypeId} {pos : String} {af : Array Edge} {g : Option (Nat × Bool)} {v u : Value} {x y z : Operand} {T : TypeId}

theorem slB_of {e sz : Nat} (h : slB P T = some (e, sz)) : P.underlying T = some (.slice e) ∧ szB P e = some sz := by
  unfold slB at h
  split at h
  · rename_i e' hu
    cases hi : P.info? e' with
    | none => rw [hi] at h; cases h
    | some i => rw [hi] at h; simp at h; obtain ⟨rfl, rfl⟩ := h; exact ⟨hu, by simp [szB, hi]⟩
  · cases h
theorem q_idx {e sz : Nat} {a : Option Addr} {n c : Nat} {k : IntKind} {i : Int} (hT : slB P T = some (e, sz)) (hx : ev s x = some (.slice a n c)) (hy : ev s y = some (.int k i)) (h0 : 0 ≤ i) (h1 : i < n) (ha : a = some ⟨blk a, off a, none⟩) :
    Q1 P ⟨d, .indexAddr T x y, ty, pos, af, g⟩ s Γ (.pointer (some ⟨blk a, off a + i.toNat * sz, none⟩)) := fun _ w _ e _ => by
  obtain ⟨h2, h3⟩ := slB_of hT
  have h4 := run_size h3 w
  have h5 : a.map (fun x => x.add (i.toNat * sz)) = some ⟨blk a, off a + i.toNat * sz, none⟩ := by
    rw [ha]; simp [add_lit, blk, off]
  rw [ha] at hx
  simp [execOp, e _ _ hx, e _ _ hy, Instr.indexAt, asIntOf, underlying, h2, h0, h1, h4, add_lit]
def arB (P : Program) (T : TypeId) : Option (Nat × Nat) := match P.underlying T with
  | some (.array n e) => (P.info? e).map fun i => (n, i.size)
  | _ => none
theorem arB_of {n sz : Nat} (h : arB P T = some (n, sz)) : ∃ e, P.underlying T = some (.array n e) ∧ szB P e = some sz := by
  unfold arB at h
  split at h
  · rename_i n' e' hu
    cases hi : P.info? e' with
    | none => rw [hi] at h; cases h
    | some i => rw [hi] at h; simp at h; obtain ⟨rfl, rfl⟩ := h; exact ⟨e', hu, by simp [szB, hi]⟩
  · cases h
theorem q_idxA {m sz b o : Nat} {k : IntKind} {i : Int} (hT : arB P T = some (m, sz)) (hx : ev s x = some (.pointer (some ⟨b, o, none⟩))) (hy : ev s y = some (.int k i)) (h0 : 0 ≤ i) (h1 : i < m) :
    Q1 P ⟨d, .indexAddr T x y, ty, pos, af, g⟩ s Γ (.pointer (some ⟨b, o + i.toNat * sz, none⟩)) := fun _ w _ e _ => by
  obtain ⟨el, h2, h3⟩ := arB_of hT
  have h4 := run_size h3 w
  simp [execOp, e _ _ hx, e _ _ hy, Instr.indexAt, asIntOf, underlying, h2, h0, h1, h4, add_lit, Instr.sureAddr]
theorem q_idxV {m sz : Nat} {k : IntKind} {i : Int} {cs : Array Value} (hT : arB P T = some (m, sz)) (hx : ev s x = some (.agg cs)) (hy : ev s y = some (.int k i)) (h0 : 0 ≤ i) (h1 : i < m)
    (he : ∀ e, P.underlying T = some (.array m e) → ldB P e = some none) (hv : cs[i.toNat * sz]? = some v) :
    Q1 P ⟨d, .index T x y, ty, pos, af, g⟩ s Γ v := fun _ w _ e _ => by
  obtain ⟨el, h2, h3⟩ := arB_of hT
  have h4 := run_size h3 w
  have h5 := (isAgg_of (he el h2) w).1
  simp at h5
  simp [execOp, e _ _ hx, e _ _ hy, Instr.index, asIntOf, underlying, h2, h0, h1, h4, part, h5, hv]

/- x[lo:hi] -/
def optV (s : St) : Option Operand → Option (Option Int)
  | none => some none
  | some o => match ev s o with
    | some (.int _ i) => some (some i)
    | _ => none
theorem optV_of {ρ : Operand → Value} (e : EvOk s ρ) {o : Option Operand} {r : Option Int} (h : optV s o = some r) : (o = none ∧ r = none) ∨ ∃ k i, r = some i ∧ o.map ρ = some (.int k i) := by
  cases o with
  | none => simp [optV] at h; exact .inl ⟨rfl, h.symm⟩
  | some x =>
    simp only [optV] at h
    split at h
    · rename_i k i hx; simp at h; subst h; exact .inr ⟨k, i, rfl, by simp [e _ _ hx]⟩
    · cases h
def cut (a : Option Addr) (m l k : Nat) : Option Addr := if m = l then a else a.map (·.add k)
theorem cut_zero (a : Option Addr) (m : Nat) : cut a m 0 0 = a := by
  unfold cut; split
  · rfl
  · cases a <;> simp [Addr.add]
theorem Pl.cut {a : Option Addr} (h : Pl a) {m l k : Nat} : Pl (cut a m l k) ∧ blk (cut a m l k) = blk a ∧ (m ≠ l → off (cut a m l k) = off a + k) := by
  unfold Pl at h
  rw [h]
  unfold Sl.cut
  by_cases e : m = l
  · rw [if_pos e]; exact ⟨rfl, rfl, fun h => absurd e h⟩
  · rw [if_neg e]; simp [Option.map_some, add_lit, Pl, blk, off]
theorem run_sliceBound {k : IntKind} {i : Int} {m : Nat} {cd : BoundsCode} (h0 : 0 ≤ i) (h1 : i ≤ m) (w : World) : (Instr.sliceBound (.int k i) m cd).run P w = .ok i.toNat w := by
  simp [Instr.sliceBound, asIntOf, h0, h1]
theorem run_sliceBounds {ρ : Operand → Value} (e : EvOk s ρ) {isS : Bool} {n c : Nat} {lo hi mx : Option Operand} {l h m : Option Int} (hl : optV s lo = some l) (hh : optV s hi = some h) (hm : optV s mx = some m)
    (h0 : 0 ≤ l.getD 0) (h1 : l.getD 0 ≤ h.getD n) (h2 : h.getD n ≤ m.getD c) (h3 : m.getD c ≤ c) (h4 : m = none ∨ h ≠ none) (w : World) :
    (Instr.sliceBounds isS n c (lo.map ρ) (hi.map ρ) (mx.map ρ)).run P w = .ok ((l.getD 0).toNat, (h.getD n).toNat, (m.getD c).toNat) w := by
  have b := fun (k : IntKind) (i : Int) (m : Nat) (cd : BoundsCode) (a : 0 ≤ i) (b : i ≤ m) => run_sliceBound (P := P) (k := k) (cd := cd) a b w
  unfold Instr.sliceBounds
  rcases optV_of e hm with ⟨rfl, rfl⟩ | ⟨km, im, rfl, em⟩
  · simp only [Option.getD_none] at h2 h3 ⊢
    rcases optV_of e hh with ⟨rfl, rfl⟩ | ⟨kh, ih, rfl, eh⟩
    · rcases optV_of e hl with ⟨rfl, rfl⟩ | ⟨kl, il, rfl, el⟩
      · simp
      · simp only [Option.getD_some, Option.getD_none] at h0 h1 ⊢
        simp [el, b kl il n .sliceB h0 h1]
    · simp only [Option.getD_some] at h1 h2 ⊢
      have e1 := b kh ih c (if isS then .sliceAcap else .sliceAlen) (by omega) h2
      rcases optV_of e hl with ⟨rfl, rfl⟩ | ⟨kl, il, rfl, el⟩
      · simp [eh, e1]
      · simp only [Option.getD_some] at h0 h1 ⊢
        simp [eh, e1, el, b kl il ih.toNat .sliceB h0 (by omega)]
  · simp only [Option.getD_some] at h2 h3 ⊢
    rcases optV_of e hh with ⟨rfl, rfl⟩ | ⟨kh, ih, rfl, eh⟩
    · simp at h4
    · simp only [Option.getD_some] at h1 h2 ⊢
      have e0 := b km im c (if isS then .slice3Acap else .slice3Alen) (by omega) h3
      have e1 := b kh ih im.toNat .slice3B (by omega) (by omega)
      rcases optV_of e hl with ⟨rfl, rfl⟩ | ⟨kl, il, rfl, el⟩
      · simp [em, e0, eh, e1]
      · simp only [Option.getD_some] at h0 h1 ⊢
        simp [em, e0, eh, e1, el, b kl il ih.toNat .slice3C h0 (by omega)]
theorem q_slice {el sz : Nat} {a : Option Addr} {n c : Nat} {lo hi mx : Option Operand} {l h m : Option Int} (hT : slB P T = some (el, sz)) (hx : ev s x = some (.slice a n c)) (hl : optV s lo = some l) (hh : optV s hi = some h) (hm : optV s mx = some m)
    (h0 : 0 ≤ l.getD 0) (h1 : l.getD 0 ≤ h.getD n) (h2 : h.getD n ≤ m.getD c) (h3 : m.getD c ≤ c) (h4 : m = none ∨ h ≠ none) :
    Q1 P ⟨d, .slice T x lo hi mx, ty, pos, af, g⟩ s Γ (.slice (cut a (m.getD c).toNat (l.getD 0).toNat ((l.getD 0).toNat * sz)) ((h.getD n).toNat - (l.getD 0).toNat) ((m.getD c).toNat - (l.getD 0).toNat)) := fun _ w _ e _ => by
  obtain ⟨h5, h6⟩ := slB_of hT
  have h7 := run_size h6 w
  have h8 := run_sliceBounds (P := P) (isS := true) e hl hh hm h0 h1 h2 h3 h4 w
  simp [execOp, e _ _ hx, Instr.sliceAt, Instr.slice, underlying, h5, h8, h7, cut]
theorem q_sliceA {sz b o : Nat} {n : Nat} {lo hi mx : Option Operand} {l h m : Option Int} (hT : arB P T = some (n, sz)) (hx : ev s x = some (.pointer (some ⟨b, o, none⟩))) (hl : optV s lo = some l) (hh : optV s hi = some h) (hm : optV s mx = some m)
    (h0 : 0 ≤ l.getD 0) (h1 : l.getD 0 ≤ h.getD n) (h2 : h.getD n ≤ m.getD n) (h3 : m.getD n ≤ n) (h4 : m = none ∨ h ≠ none) :
    Q1 P ⟨d, .slice T x lo hi mx, ty, pos, af, g⟩ s Γ (.slice (cut (some ⟨b, o, none⟩) (m.getD n).toNat (l.getD 0).toNat ((l.getD 0).toNat * sz)) ((h.getD n).toNat - (l.getD 0).toNat) ((m.getD n).toNat - (l.getD 0).toNat)) := fun _ w _ e _ => by
  obtain ⟨el, h5, h6⟩ := arB_of hT
  have h7 := run_size h6 w
  have h8 := run_sliceBounds (P := P) (isS := false) e hl hh hm h0 h1 h2 h3 h4 w
  simp [execOp, e _ _ hx, Instr.sliceAt, Instr.sureAddr, underlying, h5, h8, h7, cut]
  split <;> rfl
/-- The part of a slice is a slice. -/
theorem Sok.cut {sz : Nat} {a : Option Addr} {n c : Nat} {cs : List Value} (h : Sok sz a n c cs) {l k m : Nat} (h1 : l ≤ k) (h2 : k ≤ n) (h3 : k ≤ m) :
    Sok sz (cut a m l (l * sz)) (k - l) (m - l) ((cs.drop (l * sz)).take ((k - l) * sz)) := by
  refine ⟨?_, by omega, ?_⟩
  · rw [List.length_take, List.length_drop, h.len, ← Nat.sub_mul]
    exact Nat.min_eq_left (Nat.mul_le_mul_right _ (by omega))
  · rcases h.pl with rfl | hp
    · simp
    · exact .inr hp.cut.1
theorem cells_sub {p : Bool} {b o i k : Nat} {cs : List Value} {h : PH} (hh : cells p b o cs h) : cells p b (o + i) ((cs.drop i).take k) h := by
  intro j v hv
  have hj : j < k := by have := (List.getElem?_eq_some_iff.1 hv).1; simp at this; omega
  rw [List.getElem?_take, if_pos hj, List.getElem?_drop] at hv
  have := hh _ _ hv
  rwa [show o + (i + j) = o + i + j by omega] at this
theorem sl_cut {p : Bool} {sz : Nat} {a : Option Addr} {n c : Nat} {cs : List Value} (h : Sok sz a n c cs) {l k m : Nat} (h1 : l ≤ k) (h3 : k ≤ m) {H : PH} (hh : sl p a cs H) : sl p (Sl.cut a m l (l * sz)) ((cs.drop (l * sz)).take ((k - l) * sz)) H := by
  by_cases e : m = l
  · have : k - l = 0 := by omega
    rw [this]; simp; exact cells_nil _ _ _ _
  · rcases h.pl with rfl | hp
    · simp; exact cells_nil _ _ _ _
    · unfold sl
      rw [hp.cut.2.1, hp.cut.2.2 e]
      exact cells_sub hh

/- make -/
def mkB (P : Program) (T : TypeId) : Option (List Value × Nat) := match P.underlying T with
  | some (.slice e) => match P.info? e with
    | some i => match i.zero with
      | some z => match Nat.beq i.size z.cells.size with
        | true => some (z.cells.toList, i.bytes)
        | false => none
      | none => none
    | none => none
  | _ => none
theorem mkB_of {zs : List Value} {by_ : Nat} (h : mkB P T = some (zs, by_)) : ∃ e i z, P.underlying T = some (.slice e) ∧ P.info? e = some i ∧ i.zero = some z ∧ z.cells.toList = zs ∧ i.size = zs.length ∧ z.cells.size = zs.length ∧ i.bytes = by_ := by
  unfold mkB at h
  split at h
  · rename_i e hu
    split at h
    · rename_i i hi
      split at h
      · rename_i z hz
        split at h
        · rename_i hb
          simp only [Option.some.injEq, Prod.mk.injEq] at h
          obtain ⟨rfl, rfl⟩ := h
          exact ⟨e, i, z, hu, hi, hz, rfl, by simpa using Nat.eq_of_beq_eq_true hb, by simp, rfl⟩
        · cases h
      · cases h
    · cases h
  · cases h
def repZ (zs : List Value) : Nat → List Value
  | 0 => []
  | n + 1 => zs ++ repZ zs n
theorem repZ_length (zs : List Value) (n : Nat) : (repZ zs n).length = n * zs.length := by
  induction n with
  | zero => simp [repZ]
  | succ n ih => simp [repZ, ih, Nat.succ_mul, Nat.add_comm]
theorem getElem?_repZ (zs : List Value) (n i : Nat) (h : i < n * zs.length) : (repZ zs n)[i]? = zs[i % zs.length]? := by
  induction n generalizing i with
  | zero => simp at h
  | succ n ih =>
    simp only [repZ]
    by_cases hi : i < zs.length
    · rw [List.getElem?_append_left hi, Nat.mod_eq_of_lt hi]
    · have h' : i - zs.length < n * zs.length := by rw [Nat.succ_mul] at h; omega
      rw [List.getElem?_append_right (by omega), ih _ h', Nat.mod_eq_sub_mod (a := i) (by omega)]
theorem range_repZ (z : Array Value) (n : Nat) (hz : 0 < z.size) : ((Array.range (n * z.size)).map fun i => z[i % z.size]!).toList = repZ z.toList n := by
  apply List.ext_getElem?
  intro i
  by_cases h : i < n * z.size
  · rw [getElem?_repZ _ _ _ (by simpa using h)]
    have hm : i % z.size < z.size := Nat.mod_lt _ hz
    simp [h, hm]
  · rw [List.getElem?_eq_none (by simp; omega), List.getElem?_eq_none (by rw [repZ_length]; simp; omega)]
theorem e_make {zs : List Value} {by_ : Nat} {k k' : IntKind} {n c : Int} (hT : mkB P T = some (zs, by_)) (hz : 0 < zs.length) (hx : ev s x = some (.int k n)) (hy : ev s y = some (.int k' c)) (h0 : 0 ≤ n) (h1 : n ≤ c) (h2 : c ≤ 4294967296) (h3 : c * by_ ≤ 281474976710656) :
    E1 P ⟨d, .makeSlice T x y, ty, pos, af, g⟩ s Γ (newR Γ (repZ zs c.toNat) fun b => .slice (some ⟨b, 0, none⟩) n.toNat c.toNat) := fun F w ρ e t => by
  obtain ⟨el, i, z, h4, h5, h6, rfl, h7, h8, rfl⟩ := mkB_of hT
  have wn : IntKind.i64.wrap n = n := by unfold IntKind.wrap; simp [IntKind.bits, IntKind.signed]; omega
  have wc : IntKind.i64.wrap c = c := by unfold IntKind.wrap; simp [IntKind.bits, IntKind.signed]; omega
  have hb : ¬ (281474976710656 < (i.bytes : Int) * c) := by rw [Int.mul_comm]; omega
  have hc : ¬ c < 0 := by omega
  have hn : ¬ n < 0 := by omega
  have hnc : ¬ c < n := by omega
  let cs : Array Value := (Array.range (c.toNat * i.size)).map fun j => (if c.toNat * i.size = 0 then #[] else z.cells)[j % (if c.toNat * i.size = 0 then #[] else z.cells).size]!
  have hcs : cs.toList = repZ z.cells.toList c.toNat := by
    simp only [cs]
    by_cases e0 : c.toNat * i.size = 0
    · have : c.toNat = 0 := by
        rcases Nat.mul_eq_zero.1 e0 with h | h
        · exact h
        · omega
      simp [e0, this, repZ]
    · rw [if_neg e0, h7, Array.length_toList]
      exact range_repZ z.cells c.toNat (by simpa using hz)
  refine ⟨_, _, w.alloc (.cells cs el), ?_, ⟨w.heap.size, rfl, rfl⟩, hcs ▸ t.alloc cs el, .alloc w _⟩
  by_cases e0 : c.toNat * i.size = 0
  · simp [execOp, e _ _ hx, e _ _ hy, Instr.makeSlice, underlying, h4, typeInfo, h5, asInt, asIntOf, wn, wc, hc, hn, hnc, hb, askRoom, sizeOf, e0, newRow, cs]
  · simp [execOp, e _ _ hx, e _ _ hy, Instr.makeSlice, underlying, h4, typeInfo, h5, asInt, asIntOf, wn, wc, hc, hn, hnc, hb, askRoom, sizeOf, e0, newRow, cs, zeroValue, h6]

/- composite literals -/
def splice : List Value → Nat → List Value → List Value
  | xs, _, [] => xs
  | xs, i, c :: l => splice (xs.set i c) (i + 1) l
theorem splice_length : ∀ (l xs : List Value) (i : Nat), (splice xs i l).length = xs.length
  | [], xs, _ => rfl
  | c :: l, xs, i => by simp [splice, splice_length l]
theorem foldl_splice (o : Nat) : ∀ (l : List Value) (k : Nat) (cs : Array Value), ((l.zipIdx k).foldl (fun cs (x : Value × Nat) => cs.setIfInBounds (o + x.2) x.1) cs).toList = splice cs.toList (o + k) l
  | [], _, _ => rfl
  | c :: l, k, cs => by
    simp only [List.zipIdx_cons, List.foldl_cons, splice]
    rw [foldl_splice o l (k + 1), Array.toList_setIfInBounds, Nat.add_assoc]
def fillL (place : Nat → Option (Nat × Nat)) : List Value → List (Nat × Value) → Option (List Value)
  | cells, [] => some cells
  | cells, (i, v) :: rest => match place i with
    | none => none
    | some (o, sz) => match v.cells.size == sz && Nat.ble (o + sz) cells.length with
      | true => fillL place (splice cells o v.cells.toList) rest
      | false => none
theorem fill_of (place : Nat → Option (Nat × Nat)) : ∀ (parts : List (Nat × Value)) (cells : Array Value) (r : List Value), fillL place cells.toList parts = some r → Instr.fill place cells parts = some r.toArray
  | [], cells, r, h => by simp [fillL] at h; subst h; simp [Instr.fill]
  | (i, v) :: rest, cells, r, h => by
    simp only [fillL] at h
    cases hp : place i with
    | none => rw [hp] at h; cases h
    | some q =>
      obtain ⟨o, sz⟩ := q
      rw [hp] at h
      simp only at h
      split at h
      · rename_i hb
        simp only [Bool.and_eq_true, beq_iff_eq, Nat.ble_eq, Array.length_toList] at hb
        obtain ⟨hs, hle⟩ := hb
        simp only [Instr.fill, hp]
        have h1 : ¬ (v.cells.size ≠ sz ∨ o + v.cells.size > cells.size) := by rw [hs]; omega
        simp only [bne_iff_ne, ne_eq, gt_iff_lt, decide_eq_true_eq, Bool.or_eq_true] at h1 ⊢
        rw [if_neg h1]
        refine fill_of place rest _ r ?_
        rw [← h, ← Array.foldl_toList, Array.toList_zipIdx, foldl_splice]
        simp
      · cases h
def plB (P : Program) (T : TypeId) : Option (List Value × List (Nat × Nat)) := match P.underlying T with
  | some (.struct fs) => match zB P T, fs.toList.mapM fun f => (szB P f.type).map fun k => (f.offset, k) with
    | some z, some l => some (z.cells.toList, l)
    | _, _ => none
  | _ => none
theorem run_mapM_size : ∀ (fs : List Field) (l : List (Nat × Nat)) (w : World), (fs.mapM fun f => (szB P f.type).map fun k => (f.offset, k)) = some l →
    (fs.mapM fun f => (do Pure.pure (f.offset, ← sizeOf f.type) : Sem (Nat × Nat))).run P w = .ok l w
  | [], l, w, h => by simp at h; simp [h]
  | f :: fs, l, w, h => by
    simp only [List.mapM_cons] at h
    cases h1 : szB P f.type with
    | none => rw [h1] at h; simp at h
    | some k =>
      rw [h1] at h
      cases h2 : (fs.mapM fun f => (szB P f.type).map fun k => (f.offset, k)) with
      | none => rw [h2] at h; simp at h
      | some l' =>
        rw [h2] at h
        simp at h
        subst h
        have := run_mapM_size fs l' w h2
        simp at this
        simp [List.mapM_cons, run_size h1, this]
def evp (s : St) : List (Nat × Operand) → Option (List (Nat × Value))
  | [] => some []
  | (i, x) :: r => match ev s x, evp s r with
    | some v, some vs => some ((i, v) :: vs)
    | _, _ => none
theorem EvOk.parts {ρ : Operand → Value} (h : EvOk s ρ) : ∀ {xs : List (Nat × Operand)} {vs : List (Nat × Value)}, evp s xs = some vs → xs.map (fun p => (p.1, ρ p.2)) = vs
  | [], vs, e => by simp [evp] at e; simp [e]
  | (i, x) :: xs, vs, e => by
    simp only [evp] at e
    split at e
    · rename_i v us hv hus
      cases e
      simp [h x v hv, EvOk.parts h hus]
    · cases e
theorem run_zero {z : Value} (h : zB P T = some z) (w : World) : (zeroValue T).run P w = .ok z w := by
  unfold zB at h
  cases e : P.info? T with
  | none => rw [e] at h; cases h
  | some i => rw [e] at h; simp at h; simp [zeroValue, typeInfo, e, h]
theorem q_build {zs cs : List Value} {pl : List (Nat × Nat)} {ps : List (Nat × Operand)} {vs : List (Nat × Value)} (hT : plB P T = some (zs, pl)) (hp : evp s ps = some vs) (hf : fillL (fun i => pl[i]?) zs vs = some cs) :
    Q1 P ⟨d, .build T ps.toArray, ty, pos, af, g⟩ s Γ (.agg cs.toArray) := fun _ w _ e _ => by
  unfold plB at hT
  split at hT
  · rename_i fs hu
    split at hT
    · rename_i z l hz hl
      simp only [Option.some.injEq, Prod.mk.injEq] at hT
      obtain ⟨rfl, rfl⟩ := hT
      have h1 := run_zero hz w
      have h2 := run_mapM_size fs.toList l w hl
      have h3 := fill_of (fun i => l[i]?) vs z.cells cs hf
      have h4 := e.parts hp
      simp at h2
      simp only [execOp, Instr.build, Sem.run_bind, h1, Result.andThen_ok, underlying]
      simp [hu, Array.mapM_eq_mapM_toList, h2, h4, h3]
    · cases hT
  · cases hT
theorem e_buildSlice {zs cs : List Value} {by_ n : Nat} {ps : List (Nat × Operand)} {vs : List (Nat × Value)} (hT : mkB P T = some (zs, by_)) (hz : 0 < zs.length) (hn : Nat.ble (n * zs.length) 16777216 = true) (hp : evp s ps = some vs)
    (hf : fillL (fun i => some (i * zs.length, zs.length)) (repZ zs n) vs = some cs) :
    E1 P ⟨d, .buildSlice T n ps.toArray, ty, pos, af, g⟩ s Γ (newR Γ cs fun b => .slice (some ⟨b, 0, none⟩) n n) := fun F w ρ e t => by
  obtain ⟨el, i, z, h4, h5, h6, rfl, h7, h8, rfl⟩ := mkB_of hT
  have h9 := e.parts hp
  simp only [Nat.ble_eq] at hn
  have h10 : ¬ (16777216 < n * i.size) := by rw [h7]; omega
  refine ⟨_, _, w.alloc (.cells cs.toArray el), ?_, ⟨w.heap.size, rfl, rfl⟩, t.alloc cs.toArray el, .alloc w _⟩
  by_cases e0 : n * i.size = 0
  · have hn0 : n = 0 := by
      rcases Nat.mul_eq_zero.1 e0 with h | h
      · exact h
      · omega
    subst hn0
    have h3 := fill_of (fun j => some (j * i.size, i.size)) vs #[] cs (by rw [h7]; simpa [repZ] using hf)
    have hr : Array.map (fun _ : Nat => (default : Value)) (Array.range 0) = #[] := by simp
    simp [execOp, Instr.buildSlice, underlying, h4, sizeOf, typeInfo, h5, h9, hr, h3, newRow]
  · have hr : ((Array.range (n * i.size)).map fun j => z.cells[j % z.cells.size]!) = (repZ z.cells.toList n).toArray := by
      apply Array.ext'
      have hs : i.size = z.cells.size := by rw [h7]; simp
      rw [hs, range_repZ _ _ (by simpa using hz)]
    have h3 := fill_of (fun j => some (j * i.size, i.size)) vs (repZ z.cells.toList n).toArray cs (by rw [h7]; simpa using hf)
    simp [execOp, Instr.buildSlice, underlying, h4, sizeOf, typeInfo, h5, h9, e0, zeroValue, h6, hr, h3, newRow, Int.not_lt.2, h10]

/- append -/
theorem run_first {p : Bool} {sz : Nat} {a : Option Addr} {n c : Nat} {cs : List Value} (h : Sok sz a n c cs) {F : A} {w : World} (t : Sat (sl p a cs :: Γ) F w) (hn : a = none → n = 0) : (Builtin.firstCells sz n (.slice a n c)).run P w = .ok cs.toArray w := by
  cases a with
  | none =>
    have := h.len
    rw [hn rfl] at this
    have : cs = [] := List.eq_nil_of_length_eq_zero (by simpa using this)
    subst this
    simp [Builtin.firstCells]
  | some ad =>
    rcases h.pl with rfl | hp
    · have h0 : n * sz = 0 := by have := h.len; simpa using this.symm
      simp [Builtin.firstCells, h0, loadCells, loadCellsFrom]
    · have h1 := t.load (P := P) 0 cs (by simp)
      unfold Pl at hp
      rw [hp]
      simp only [Builtin.firstCells, ← h.len]
      simpa using h1
def appR (sz : Nat) (n m : Nat) (cs news : List Value) (Θ : List A) : Value → List A → Prop := fun v Δ => ∃ a c, v = .slice a (n + m) c ∧ (n + m = 0 ∨ Pl a) ∧ Δ = buf sz a (n + m) c (cs ++ news) :: Θ
theorem Sat.buf {sz : Nat} {a : Option Addr} {n c : Nat} {cs : List Value} {F : A} {w : World} : Sat (buf sz a n c cs :: Γ) F w ↔ Sok sz a n c cs ∧ ∃ sp : List Value, (sp.length = (c - n) * sz ∧ (Pl a ∨ c = 0)) ∧ Sat (cells true (blk a) (off a) (cs ++ sp) :: Γ) F w := by
  unfold Sl.buf
  rw [Sat.star, Sat.pure, Sat.ex]
  constructor
  · rintro ⟨h, sp, t⟩
    rw [Sat.star, Sat.pure] at t
    exact ⟨h, sp, t⟩
  · rintro ⟨h, sp, t⟩
    refine ⟨h, sp, ?_⟩
    rw [Sat.star, Sat.pure]
    exact t
end
end Go.Sl
