/- Separation logic over the model's code: append, copy, clear, min, max. -/
import Derived.Test.YtdbpjcplmfkgaaaDoorSlD
namespace Go.Sl
open Go Go.RowKit
section
variable {P : Program} {s : St} {Γ Δ Θ : List A} {d : Option Tmp} {ty : TypeId} {pos : String} {af : Array Edge} {g : Option (Nat × Bool)} {v u : Value} {x y z : Operand} {T : TypeId}

/-- A value's first elements can be read. -/
def Rd (P : Program) (sz : Nat) (Γ : List A) (v : Value) (m : Nat) (news : List Value) : Prop :=
  (∃ a c, v = .slice a m c) ∧ news.length = m * sz ∧ ∀ F w, Sat Γ F w → (Builtin.firstCells sz m v).run P w = .ok news.toArray w
theorem Rd.mem {p : Bool} {sz : Nat} {a : Option Addr} {n c : Nat} {cs : List Value} (h : Sok sz a n c cs) (hn : a = none → n = 0) (hm : sl p a cs ∈ Γ) : Rd P sz Γ (.slice a n c) n cs :=
  ⟨⟨a, c, rfl⟩, h.len, fun _ _ t => let ⟨_, t⟩ := t.mem hm; run_first h t hn⟩
theorem Rd.part {p : Bool} {sz b o i a n c : Nat} {vs cs : List Value} (hm : cells p b o vs ∈ Γ) (ha : a = o + i) (hn : cs.length = n * sz) (hv : (vs.drop i).take cs.length = cs) : Rd P sz Γ (.slice (some ⟨b, a, none⟩) n c) n cs :=
  ⟨⟨_, c, rfl⟩, hn, fun _ _ t => by
    obtain ⟨_, t⟩ := t.mem hm
    subst ha
    have := t.load (P := P) i cs hv
    simp only [Builtin.firstCells, ← hn]
    simpa using this⟩
theorem Rd.zero {sz : Nat} {a : Option Addr} {c : Nat} : Rd P sz Γ (.slice a 0 c) 0 [] := ⟨⟨a, c, rfl⟩, by simp, fun _ _ _ => by cases a <;> simp [Builtin.firstCells, loadCells, loadCellsFrom]⟩

theorem run_append_to {e : TypeId} {i : TypeInfo} {zv : Value} {ty : TypeId} (ht : P.underlying T = some (.slice e)) (hi : P.info? e = some i) (hz : i.zero = some zv) {a : Option Addr} {n c m : Nat} {src : Value} {olds news : List Value} {w : World}
    (hs : ∃ a c, src = .slice a m c) (hnew : ∀ w', w' = w ∨ w' = w.drew → (Builtin.firstCells i.size m src).run P w' = .ok news.toArray w') (hold : (Builtin.firstCells i.size n (.slice a n c)).run P w.drew = .ok olds.toArray w.drew)
    (hg : c < n + m) (h63 : n + m ≤ 4611686018427387904) (hfit : (n + m) * i.bytes ≤ 140737488355328) :
    (Builtin.append_ #[T, T] ty #[.slice a n c, src]).run P w = .ok (.slice (some ⟨w.heap.size, 0, none⟩) (n + m) (grownCap w (n + m) c e))
      (w.drew.alloc (.cells (olds.toArray ++ news.toArray ++ Builtin.zeroCells zv.cells (grownCap w (n + m) c e - (n + m))) e)) := by
  obtain ⟨a', c', rfl⟩ := hs
  have hn : ¬ (n + m ≤ c) := by omega
  have h63' : ¬ (9223372036854775807 < ((n : Int) + (m : Int))) := by omega
  have h48 := growslice_fits hg hfit
  have h48' : ¬ (281474976710656 < Builtin.nextslicecap (n + m) c * i.bytes) := by omega
  have hf := hnew _ (.inr rfl)
  simp [Builtin.append_, run_underlying ht, sizeOf, typeInfo, zeroValue, hi, hz, Builtin.lenOf, hn, h63', h48', Question.forced, hf, hold, newRow, grownCap]
  congr 2
  apply Array.ext'
  simp [List.append_assoc]

theorem appR_grow {zs : List Value} {n c m : Nat} {cs news : List Value} {F : A} {w : World} {e : TypeId} {zv : Value} (hz : zv.cells.size = zs.length) (hc : cs.length = n * zs.length) (hl : news.length = m * zs.length) (t : Sat Θ F w) :
    let w' := w.drew.alloc (.cells (cs.toArray ++ news.toArray ++ Builtin.zeroCells zv.cells (grownCap w (n + m) c e - (n + m))) e)
    appR zs.length n m cs news Θ (.slice (some ⟨w.heap.size, 0, none⟩) (n + m) (grownCap w (n + m) c e)) (buf zs.length (some ⟨w.heap.size, 0, none⟩) (n + m) (grownCap w (n + m) c e) (cs ++ news) :: Θ) ∧
    Sat (buf zs.length (some ⟨w.heap.size, 0, none⟩) (n + m) (grownCap w (n + m) c e) (cs ++ news) :: Θ) F w' ∧ Adv w w' := by
  intro w'
  have hge := grownCap_ge w (n + m) c e
  refine ⟨⟨_, _, rfl, .inr (Pl.mk _ _), rfl⟩, Sat.buf.2 ⟨⟨?_, hge, .inr (Pl.mk _ _)⟩, (Builtin.zeroCells zv.cells (grownCap w (n + m) c e - (n + m))).toList, ⟨?_, .inl (Pl.mk _ _)⟩, ?_⟩, (Adv.drew w).trans (.alloc _ _)⟩
  · rw [List.length_append, hc, hl, Nat.add_mul]
  · rw [Array.length_toList, size_zeroCells, hz]
  · have := t.drew.alloc (cs.toArray ++ news.toArray ++ Builtin.zeroCells zv.cells (grownCap w (n + m) c e - (n + m))) e
    have e1 : (cs.toArray ++ news.toArray ++ Builtin.zeroCells zv.cells (grownCap w (n + m) c e - (n + m))).toList = cs ++ news ++ (Builtin.zeroCells zv.cells (grownCap w (n + m) c e - (n + m))).toList := by simp
    rw [e1] at this
    exact this

/-- Behind a slice of one's own. -/
theorem e_append {zs : List Value} {by_ : Nat} {a : Option Addr} {n c m : Nat} {cs news : List Value} (hT : mkB P T = some (zs, by_)) (hz : 0 < zs.length) (hx : ev s x = some (.slice a n c)) (hy : ev s y = some u) (hp : Pick1 Γ (buf zs.length a n c cs) Θ)
    (hs : Rd P zs.length Γ u m news) (h1 : ∀ q ∈ news, q.oneCell' = true) (h63 : n + m ≤ 4611686018427387904) (hfit : (n + m) * by_ ≤ 140737488355328) :
    E1 P ⟨d, .call { callee := .builtin .append, args := #[x, y], argTypes := #[T, T] }, ty, pos, af, g⟩ s Γ (appR zs.length n m cs news Θ) := fun F w ρ ee t => by
  obtain ⟨e, i, zv, h4, h5, h6, h6', h7, h8, rfl⟩ := mkB_of hT
  obtain ⟨hs1, hs2, hs3⟩ := hs
  have t0 := Imp.perm hp.perm _ _ t
  obtain ⟨hok, sp, ⟨hsp, hpl⟩, t1⟩ := Sat.buf.1 t0
  have hrun : ∀ r, (Builtin.append_ #[T, T] ty #[.slice a n c, u]).run P w = r → (execOp ρ ⟨d, .call { callee := .builtin .append, args := #[x, y], argTypes := #[T, T] }, ty, pos, af, g⟩).run P w = r.andThen fun v w' => .ok (.value v) w' := by
    rintro r rfl
    simp [execOp, resolve, invoke, builtin, ee _ _ hx, ee _ _ hy]
  by_cases hg : n + m ≤ c
  · have h2 := hs3 F w t
    obtain ⟨a', c', rfl⟩ := hs1
    by_cases hP : Pl a
    · have hlen : n * zs.length + 0 + news.length ≤ (cs ++ sp).length := by
        rw [List.length_append, hok.len, hsp, hs2, ← Nat.add_mul, Nat.add_zero, ← Nat.add_mul]
        exact Nat.mul_le_mul_right _ (by omega)
      obtain ⟨w', hr, t', ad⟩ := run_storeCells (P := P) news (n * zs.length) 0 h1 hlen t1
      refine ⟨_, _, w', ?_, ⟨a, c, rfl, .inr hP, rfl⟩, Sat.buf.2 ⟨⟨?_, hg, .inr hP⟩, sp.drop (m * zs.length), ⟨?_, .inl hP⟩, ?_⟩, ad⟩
      · rw [hrun _ rfl]
        unfold Pl at hP
        rw [hP]
        rw [← h7] at h2 hr
        simp [Builtin.append_, run_underlying h4, sizeOf, typeInfo, h5, Builtin.lenOf, hg, h2, add_lit, hr]
      · rw [List.length_append, hok.len, hs2, Nat.add_mul]
      · rw [List.length_drop, hsp, ← Nat.sub_mul]; congr 1; omega
      · have e1 : List.take (n * zs.length + 0) (cs ++ sp) ++ news ++ List.drop (n * zs.length + 0 + news.length) (cs ++ sp) = cs ++ news ++ List.drop (m * zs.length) sp := by
          rw [Nat.add_zero, ← hok.len, List.take_left, ← List.drop_drop, List.drop_left, hs2]
        rw [e1] at t'
        exact t'
    · have hc0 : c = 0 := hpl.resolve_left hP
      have hn0 : n = 0 := by omega
      have hm0 : m = 0 := by omega
      subst hc0 hn0 hm0
      have hnews : news = [] := List.eq_nil_of_length_eq_zero (by simpa using hs2)
      subst hnews
      refine ⟨.slice a 0 0, _, w, ?_, ⟨a, 0, rfl, .inl rfl, rfl⟩, ?_, .refl w⟩
      · rw [hrun _ rfl]
        rw [← h7] at h2
        cases a with
        | none => simp [Builtin.append_, run_underlying h4, sizeOf, typeInfo, h5, Builtin.lenOf, h2]
        | some ad => simp [Builtin.append_, run_underlying h4, sizeOf, typeInfo, h5, Builtin.lenOf, h2, storeCells]
      · simpa using t0
  · have hold : (Builtin.firstCells i.size n (.slice a n c)).run P w.drew = .ok cs.toArray w.drew := by
      rw [h7]
      have t2 : Sat (sl true a cs :: Θ) F w.drew := by
        have := (Imp.split true (blk a) (off a) cs sp Θ F w t1).drew
        exact Imp.drop _ _ _ _ (Imp.perm (.swap _ _ _) _ _ this)
      refine run_first hok t2 fun h => ?_
      subst h
      rcases hpl with h | h
      · simp [Pl] at h
      · have := hok.cap; omega
    have hr := run_append_to (P := P) (ty := ty) h4 h5 h6 (a := a) (n := n) (c := c) hs1 (fun w' hw' => by
      rw [h7]
      rcases hw' with rfl | rfl
      · exact hs3 F _ t
      · exact hs3 F _ t.drew) hold (by omega) h63 hfit
    have ht := Imp.drop _ _ _ _ t1
    obtain ⟨q1, q2, q3⟩ := appR_grow (zs := zs) (n := n) (c := c) (m := m) (cs := cs) (news := news) (e := e) (zv := zv) h8 hok.len hs2 ht
    exact ⟨_, _, _, by rw [hrun _ hr]; rfl, q1, q2, q3⟩

/-- Behind one that has no room (clipped, nil), that is only read. -/
theorem e_appendNew {zs : List Value} {by_ : Nat} {a : Option Addr} {n c m : Nat} {cs news : List Value} (hT : mkB P T = some (zs, by_)) (hz : 0 < zs.length) (hx : ev s x = some (.slice a n c)) (hy : ev s y = some u)
    (ho : Rd P zs.length Γ (.slice a n c) n cs) (hs : Rd P zs.length Γ u m news) (hc : c = n) (hm : 0 < m ∨ n = 0) (h63 : n + m ≤ 4611686018427387904) (hfit : (n + m) * by_ ≤ 140737488355328) :
    E1 P ⟨d, .call { callee := .builtin .append, args := #[x, y], argTypes := #[T, T] }, ty, pos, af, g⟩ s Γ (appR zs.length n m cs news Γ) := fun F w ρ ee t => by
  obtain ⟨e, i, zv, h4, h5, h6, h6', h7, h8, rfl⟩ := mkB_of hT
  obtain ⟨hs1, hs2, hs3⟩ := hs
  obtain ⟨_, ho2, ho3⟩ := ho
  have hrun : ∀ r, (Builtin.append_ #[T, T] ty #[.slice a n c, u]).run P w = r → (execOp ρ ⟨d, .call { callee := .builtin .append, args := #[x, y], argTypes := #[T, T] }, ty, pos, af, g⟩).run P w = r.andThen fun v w' => .ok (.value v) w' := by
    rintro r rfl
    simp [execOp, resolve, invoke, builtin, ee _ _ hx, ee _ _ hy]
  subst hc
  by_cases hg : m = 0
  · subst hg
    have hn0 : c = 0 := by omega
    subst hn0
    have h2 := hs3 F w t
    obtain ⟨a', c', rfl⟩ := hs1
    have hnews : news = [] := List.eq_nil_of_length_eq_zero (by simpa using hs2)
    have hcs : cs = [] := List.eq_nil_of_length_eq_zero (by simpa using ho2)
    subst hnews hcs
    refine ⟨.slice a 0 0, _, w, ?_, ⟨a, 0, rfl, .inl rfl, rfl⟩, ?_, .refl w⟩
    · rw [hrun _ rfl]
      rw [← h7] at h2
      cases a with
      | none => simp [Builtin.append_, run_underlying h4, sizeOf, typeInfo, h5, Builtin.lenOf, h2]
      | some ad => simp [Builtin.append_, run_underlying h4, sizeOf, typeInfo, h5, Builtin.lenOf, h2, storeCells]
    · refine Sat.buf.2 ⟨⟨by simp, Nat.le_refl _, .inl rfl⟩, [], ⟨by simp, .inr rfl⟩, ?_⟩
      obtain ⟨h, q, m⟩ := t
      exact ⟨h, ⟨_, h, join_empty h, cells_nil _ _ _ _, q⟩, m⟩
  · have hr := run_append_to (P := P) (ty := ty) h4 h5 h6 (a := a) (n := c) (c := c) hs1 (fun w' hw' => by
      rw [h7]
      rcases hw' with rfl | rfl
      · exact hs3 F _ t
      · exact hs3 F _ t.drew) (by rw [h7]; exact ho3 F _ t.drew) (by omega) h63 hfit
    obtain ⟨q1, q2, q3⟩ := appR_grow (zs := zs) (n := c) (c := c) (m := m) (cs := cs) (news := news) (e := e) (zv := zv) h8 ho2 hs2 t
    exact ⟨_, _, _, by rw [hrun _ hr]; rfl, q1, q2, q3⟩

/-- There is room, in cells of one's own (from wherever the source is). -/
theorem e_appendRoom {zs : List Value} {by_ : Nat} {b o i n c m : Nat} {vs news : List Value} (hT : mkB P T = some (zs, by_)) (hx : ev s x = some (.slice (some ⟨b, o + i, none⟩) n c)) (hy : ev s y = some u) (hs : Rd P zs.length Γ u m news) (h1 : ∀ q ∈ news, q.oneCell' = true)
    (hr : n + m ≤ c) (hl : i + (n + m) * zs.length ≤ vs.length) (hm : Upd Γ (cells true b o vs) (cells true b o (vs.take (i + n * zs.length) ++ news ++ vs.drop (i + (n + m) * zs.length))) Δ) :
    E1 P ⟨d, .call { callee := .builtin .append, args := #[x, y], argTypes := #[T, T] }, ty, pos, af, g⟩ s Γ (fun v Δ' => v = .slice (some ⟨b, o + i, none⟩) (n + m) c ∧ Δ' = Δ) := fun F w ρ ee t => by
  obtain ⟨e, ti, zv, h4, h5, h6, h6', h7, h8, rfl⟩ := mkB_of hT
  obtain ⟨hs1, hs2, hs3⟩ := hs
  obtain ⟨Θ, t1, t2⟩ := hm.sat t
  have h2 := hs3 F w t
  obtain ⟨a', c', rfl⟩ := hs1
  have hlen : (i + n * zs.length) + 0 + news.length ≤ vs.length := by rw [hs2, Nat.add_zero, Nat.add_assoc, ← Nat.add_mul]; exact hl
  obtain ⟨w', hr', t', ad⟩ := run_storeCells (P := P) news (i + n * zs.length) 0 h1 hlen t1
  refine ⟨_, _, w', ?_, ⟨rfl, rfl⟩, t2 w' ?_, ad⟩
  · rw [← h7, ← Nat.add_assoc] at hr'
    rw [← h7] at h2
    simp [execOp, resolve, invoke, builtin, ee _ _ hx, ee _ _ hy, Builtin.append_, run_underlying h4, sizeOf, typeInfo, h5, Builtin.lenOf, hr, h2, add_lit, hr']
  · rw [Nat.add_zero, hs2, Nat.add_assoc, ← Nat.add_mul] at t'
    exact t'

/-- copy -/
theorem e_copy {e sz : Nat} {b o i n c m : Nat} {sT : TypeId} {v' : Option Addr} {c' : Nat} {vs news : List Value} (hT : slB P T = some (e, sz)) (hx : ev s x = some (.slice (some ⟨b, o + i, none⟩) n c)) (hy : ev s y = some (.slice v' m c')) (hs : ∀ F w, Sat Γ F w → (Builtin.firstCells sz (min m n) (.slice v' m c')).run P w = .ok news.toArray w)
    (hn : news.length = min m n * sz) (h1 : ∀ q ∈ news, q.oneCell' = true) (hl : i + news.length ≤ vs.length) (hm : Upd Γ (cells true b o vs) (cells true b o (vs.take i ++ news ++ vs.drop (i + news.length))) Δ) :
    E1 P ⟨d, .call { callee := .builtin .copy, args := #[x, y], argTypes := #[T, sT] }, ty, pos, af, g⟩ s Γ (fun v Δ' => v = .int .i64 (min m n : Nat) ∧ Δ' = Δ) := fun F w ρ ee t => by
  obtain ⟨h4, h5⟩ := slB_of hT
  obtain ⟨Θ, t1, t2⟩ := hm.sat t
  have h2 := hs F w t
  obtain ⟨w', hr', t', ad⟩ := run_storeCells (P := P) news i 0 h1 (by simpa using hl) t1
  refine ⟨_, _, w', ?_, ⟨rfl, rfl⟩, t2 w' (by simpa using t'), ad⟩
  have h6 := run_size h5 w
  have h7 : Nat.min m n = min m n := rfl
  simp [execOp, resolve, invoke, builtin, ee _ _ hx, ee _ _ hy, Builtin.copy_, run_underlying h4, Builtin.lenOf, h6, h7, h2, hr', goInt]
end
end Go.Sl
