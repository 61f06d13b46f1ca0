/- Texts of this claim, merged: PJ, PM, PN, PO. -/
import Derived.Test.YtacgammmpkibpaaDoorKBackTopm3
/- Walks: Save. -/
namespace Go.Sl
open Go Go.RowKit Go.Proofs
set_option linter.unusedSimpArgs false
set_option linter.unusedVariables false
attribute [local irreducible] faB szB ldB zB zL slB mkB arB plB intB cells objc star stars buf slv grp whole Sat WPC WPL WPA WPO WPQ Trip Q1 E1 S1 C1

theorem c_sv0 {b db jb b1 b2 N m : Nat} {K : KP} {d : DK} (s : SV) (hok : s.ok) (hr : s.ks.right) (hes : s.es.length ≤ 1000) (hm : m < 400000) (hg : Good N m s.ks 0 d K) : Trip Tryd.prog 25 #[.pointer (some ⟨b1, 0, none⟩), .pointer (some ⟨b2, 0, none⟩)] [cells true b1 0 [.pointer (some ⟨b, 0, none⟩)], cells true b2 0 (stV s), kpr b db jb K, jour jb db (KP.j K), disk db d, tblA, s.ents, s.dat] fun r Δ => r = .int .i64 (kst 0 d K s.ks).2.2 ∧ Δ = [cells true b1 0 [.pointer (some ⟨b, 0, none⟩)], cells true b2 0 (stV s), kpr b db jb (kst 0 d K s.ks).2.1, jour jb db (kst 0 d K s.ks).2.1.j, disk db (kst 0 d K s.ks).1] := by
  have hr' := hr
  obtain ⟨hf, hnx, hhl, hat, hle⟩ := hg
  have hpd := hf.pend
  have hfl := hf.len
  have hon := hok.len
  obtain ⟨hr1, hr2, hr3, hr4, -⟩ := hr
  show Trip _ _ _ _ (fun r Δ => r = .int .i64 (kmark d K s.ks).2.2 ∧ Δ = [cells true b1 0 [.pointer (some ⟨b, 0, none⟩)], cells true b2 0 (stV s), kpr b db jb (kmark d K s.ks).2.1, jour jb db (kmark d K s.ks).2.1.j, disk db (kmark d K s.ks).1])
  rw [(hf.kmark s.ks).2.1]
  refine Trip.start 6 [.tmp 2] [(0, .pointer (some ⟨b1, 0, none⟩)), (1, .pointer (some ⟨b2, 0, none⟩))] Tryd.func25 rfl Tryd.ntmps25 rfl ⟨rfl, rfl, trivial⟩ rfl ?_
  refine WPC.seqR ?_
  refine stp ?_
  refine WPL.nil ?_
  refine WPC.seqR ?_
  iterate 2 refine stp ?_
  refine kall rfl (c_kmark (b := b) (db := db) (jb := jb) (K := K) (d := d) s ⟨hr3, hr4⟩ (by omega) hf.ok (by omega)) ?_
  rintro _ _ ⟨rfl, rfl⟩
  refine stp ?_
  refine WPL.nil ?_
  refine WPC.ret ?_
  exact endR_r rfl (.tmp rfl .nil) Imp.pk ⟨rfl, rfl⟩

theorem c_sv1 {b db jb b1 b2 N m : Nat} {K : KP} {d : DK} (s : SV) (hok : s.ok) (hr : s.ks.right) (hes : s.es.length ≤ 1000) (hm : m < 400000) (hg : Good N m s.ks 1 d K) : Trip Tryd.prog 27 #[.pointer (some ⟨b1, 0, none⟩), .pointer (some ⟨b2, 0, none⟩)] [cells true b1 0 [.pointer (some ⟨b, 0, none⟩)], cells true b2 0 (stV s), kpr b db jb K, jour jb db (KP.j K), disk db d, tblA, s.ents, s.dat] fun r Δ => r = .int .i64 (kst 1 d K s.ks).2.2 ∧ Δ = [cells true b1 0 [.pointer (some ⟨b, 0, none⟩)], cells true b2 0 (stV s), kpr b db jb (kst 1 d K s.ks).2.1, jour jb db (kst 1 d K s.ks).2.1.j, disk db (kst 1 d K s.ks).1] := by
  have hr' := hr
  obtain ⟨hf, hnx, hhl, hat, hle⟩ := hg
  have hpd := hf.pend
  have hfl := hf.len
  have hon := hok.len
  obtain ⟨hr1, hr2, hr3, hr4, -⟩ := hr
  show Trip _ _ _ _ (fun r Δ => r = .int .i64 (ktrim d K s.lg).2.2 ∧ Δ = [cells true b1 0 [.pointer (some ⟨b, 0, none⟩)], cells true b2 0 (stV s), kpr b db jb (ktrim d K s.lg).2.1, jour jb db (ktrim d K s.lg).2.1.j, disk db (ktrim d K s.lg).1])
  refine Trip.start 7 [.tmp 2] [(0, .pointer (some ⟨b1, 0, none⟩)), (1, .pointer (some ⟨b2, 0, none⟩))] Tryd.func27 rfl Tryd.ntmps27 rfl ⟨rfl, rfl, trivial⟩ rfl ?_
  refine WPC.seqR ?_
  refine stp ?_
  refine WPL.nil ?_
  refine WPC.seqR ?_
  iterate 3 refine stp ?_
  refine kall rfl (c_ktrim s hf.jok hf.ok (by omega) hnx hhl) ?_
  rintro _ _ ⟨rfl, rfl⟩
  refine stp ?_
  refine WPL.nil ?_
  refine WPC.ret ?_
  exact endR_r rfl (.tmp rfl .nil) Imp.pk ⟨rfl, rfl⟩

theorem c_sv2 {b db jb b1 b2 N m : Nat} {K : KP} {d : DK} (s : SV) (hok : s.ok) (hr : s.ks.right) (hes : s.es.length ≤ 1000) (hm : m < 400000) (hg : Good N m s.ks 2 d K) : Trip Tryd.prog 29 #[.pointer (some ⟨b1, 0, none⟩), .pointer (some ⟨b2, 0, none⟩)] [cells true b1 0 [.pointer (some ⟨b, 0, none⟩)], cells true b2 0 (stV s), kpr b db jb K, jour jb db (KP.j K), disk db d, tblA, s.ents, s.dat] fun r Δ => r = .int .i64 (kst 2 d K s.ks).2.2 ∧ Δ = [cells true b1 0 [.pointer (some ⟨b, 0, none⟩)], cells true b2 0 (stV s), kpr b db jb (kst 2 d K s.ks).2.1, jour jb db (kst 2 d K s.ks).2.1.j, disk db (kst 2 d K s.ks).1] := by
  have hr' := hr
  obtain ⟨hf, hnx, hhl, hat, hle⟩ := hg
  have hpd := hf.pend
  have hfl := hf.len
  have hon := hok.len
  obtain ⟨hr1, hr2, hr3, hr4, -⟩ := hr
  show Trip _ _ _ _ (fun r Δ => r = .int .i64 (kcut d K s.lg).2.2 ∧ Δ = [cells true b1 0 [.pointer (some ⟨b, 0, none⟩)], cells true b2 0 (stV s), kpr b db jb (kcut d K s.lg).2.1, jour jb db (kcut d K s.lg).2.1.j, disk db (kcut d K s.lg).1])
  refine Trip.start 7 [.tmp 2] [(0, .pointer (some ⟨b1, 0, none⟩)), (1, .pointer (some ⟨b2, 0, none⟩))] Tryd.func29 rfl Tryd.ntmps29 rfl ⟨rfl, rfl, trivial⟩ rfl ?_
  refine WPC.seqR ?_
  refine stp ?_
  refine WPL.nil ?_
  refine WPC.seqR ?_
  iterate 3 refine stp ?_
  refine kall rfl (c_kcut s hok (by omega) hr2 hf.jok hf.ok (by omega) hnx hhl) ?_
  rintro _ _ ⟨rfl, rfl⟩
  refine stp ?_
  refine WPL.nil ?_
  refine WPC.ret ?_
  exact endR_r rfl (.tmp rfl .nil) Imp.pk ⟨rfl, rfl⟩

theorem c_sv3 {b db jb b1 b2 N m : Nat} {K : KP} {d : DK} (s : SV) (hok : s.ok) (hr : s.ks.right) (hes : s.es.length ≤ 1000) (hm : m < 400000) (hg : Good N m s.ks 3 d K) : Trip Tryd.prog 31 #[.pointer (some ⟨b1, 0, none⟩), .pointer (some ⟨b2, 0, none⟩)] [cells true b1 0 [.pointer (some ⟨b, 0, none⟩)], cells true b2 0 (stV s), kpr b db jb K, jour jb db (KP.j K), disk db d, tblA, s.ents, s.dat] fun r Δ => r = .int .i64 (kst 3 d K s.ks).2.2 ∧ Δ = [cells true b1 0 [.pointer (some ⟨b, 0, none⟩)], cells true b2 0 (stV s), kpr b db jb (kst 3 d K s.ks).2.1, jour jb db (kst 3 d K s.ks).2.1.j, disk db (kst 3 d K s.ks).1] := by
  have hr' := hr
  obtain ⟨hf, hnx, hhl, hat, hle⟩ := hg
  have hpd := hf.pend
  have hfl := hf.len
  have hon := hok.len
  obtain ⟨hr1, hr2, hr3, hr4, -⟩ := hr
  show Trip _ _ _ _ (fun r Δ => r = .int .i64 (kadd d K s.lg).2.2 ∧ Δ = [cells true b1 0 [.pointer (some ⟨b, 0, none⟩)], cells true b2 0 (stV s), kpr b db jb (kadd d K s.lg).2.1, jour jb db (kadd d K s.lg).2.1.j, disk db (kadd d K s.lg).1])
  refine Trip.start 7 [.tmp 2] [(0, .pointer (some ⟨b1, 0, none⟩)), (1, .pointer (some ⟨b2, 0, none⟩))] Tryd.func31 rfl Tryd.ntmps31 rfl ⟨rfl, rfl, trivial⟩ rfl ?_
  refine WPC.seqR ?_
  refine stp ?_
  refine WPL.nil ?_
  refine WPC.seqR ?_
  iterate 3 refine stp ?_
  refine kall rfl (c_kadd s hok hr2 hr' hf (by omega) (by have := hle rfl; rw [show s.ks.log.es.length = s.es.length from List.length_map ..] at this; exact this) hes) ?_
  rintro _ _ ⟨rfl, rfl⟩
  refine stp ?_
  refine WPL.nil ?_
  refine WPC.ret ?_
  exact endR_r rfl (.tmp rfl .nil) Imp.pk ⟨rfl, rfl⟩

theorem c_sv {b db jb b1 b2 N m : Nat} {K : KP} {d : DK} (s : SV) (hok : s.ok) (hr : s.ks.right) (hes : s.es.length ≤ 1000) (hm : m < 400000) {i : Nat} (hi : i < 4) (hg : Good N m s.ks i d K) : ∃ (k : Nat) (fn : Func) (cd : Code), ([Value.func (.func 25) #[] #[.pointer (some ⟨b1, 0, none⟩), .pointer (some ⟨b2, 0, none⟩)], Value.func (.func 27) #[] #[.pointer (some ⟨b1, 0, none⟩), .pointer (some ⟨b2, 0, none⟩)], Value.func (.func 29) #[] #[.pointer (some ⟨b1, 0, none⟩), .pointer (some ⟨b2, 0, none⟩)], Value.func (.func 31) #[] #[.pointer (some ⟨b1, 0, none⟩), .pointer (some ⟨b2, 0, none⟩)]] : List Value)[i]? = some (Value.func (.func k) #[] #[.pointer (some ⟨b1, 0, none⟩), .pointer (some ⟨b2, 0, none⟩)]) ∧ Tryd.prog.funcs[k]? = some fn ∧ fn.body = some cd ∧ (fn.name == "runtime.NumGoroutine") = false ∧ Trip Tryd.prog k (#[] ++ ([] : List Value).toArray ++ #[.pointer (some ⟨b1, 0, none⟩), .pointer (some ⟨b2, 0, none⟩)]) [cells true b1 0 [.pointer (some ⟨b, 0, none⟩)], cells true b2 0 (stV s), kpr b db jb K, jour jb db (KP.j K), disk db d, tblA, s.ents, s.dat] (fun r Δ => r = .int .i64 (kst i d K s.ks).2.2 ∧ Δ = [cells true b1 0 [.pointer (some ⟨b, 0, none⟩)], cells true b2 0 (stV s), kpr b db jb (kst i d K s.ks).2.1, jour jb db (kst i d K s.ks).2.1.j, disk db (kst i d K s.ks).1]) := by
  match i, hi with
  | 0, _ => exact ⟨25, _, _, rfl, Tryd.func25, rfl, rfl, c_sv0 s hok hr hes hm hg⟩
  | 1, _ => exact ⟨27, _, _, rfl, Tryd.func27, rfl, rfl, c_sv1 s hok hr hes hm hg⟩
  | 2, _ => exact ⟨29, _, _, rfl, Tryd.func29, rfl, rfl, c_sv2 s hok hr hes hm hg⟩
  | 3, _ => exact ⟨31, _, _, rfl, Tryd.func31, rfl, rfl, c_sv3 s hok hr hes hm hg⟩

theorem k_Save {b db jb N m : Nat} {K : KP} {d : DK} (s : SV) (hok : s.ok) (hF : Fit N d K.j m) (hm : m < 400000) (hnx : K.j.next < 4294967296) (hkl : K.held.length ≤ 1000) (hat : K.at_ + 2 ≤ N) (hrg : K.ring ≤ 1000) : Trip Tryd.prog 8 #[.pointer (some ⟨b, 0, none⟩), .agg (stV s).toArray] [kpr b db jb K, jour jb db K.j, disk db d, tblA, s.ents, s.dat] fun r Δ => r = .int .i64 (ksave d K s.ks).2.2 ∧ Δ = [kpr b db jb (ksave d K s.ks).2.1, jour jb db (ksave d K s.ks).2.1.j, disk db (ksave d K s.ks).1] := by
  refine kpr_open fun L hL => ?_
  obtain ⟨sa, sc, hs, ha, hc⟩ := L
  obtain ⟨hsl, hheld, hro⟩ := hL
  dsimp only at hsl hheld hro
  have hlen : hs.length = K.held.length := by rw [← hheld, List.length_map]
  have hon := hok.len
  have hel : s.ks.log.es.length = s.n := by rw [← hon]; exact List.length_map ..
  refine Trip.start 53 [.tmp 4] [(0, .pointer (some ⟨b, 0, none⟩)), (1, .agg (stV s).toArray)] Tryd.func8 rfl Tryd.ntmps8 rfl ⟨rfl, rfl, trivial⟩ rfl ?_
  refine WPC.seqR ?_
  refine nw fun b1 => ?_
  refine nw fun b2 => ?_
  refine stp ?_
  refine WPL.nil ?_
  refine WPC.seq ?_
  refine WPC.block ?_
  refine WPC.seqD mixed ?_
  refine atL 0 rfl ?_
  refine WPA.oneE 1 [] (by kernel_rfl) rfl rfl (by repeat (first | exact .nil | refine .anc rfl ?_ | refine .keep mm ?_)) (C1.call (c_call Tryd.func24 rfl rfl rfl) (c_RightK s hok) pkk rfl ?_)
  rintro _ _ ⟨rfl, rfl⟩
  refine ⟨(.nil _), ?_⟩
  refine WPA.putS ?_
  refine atP 2 rfl ?_
  refine atP 3 rfl ?_
  refine WPA.split 12 _ rfl (fun g1_3 => ?_) (fun g1_3 => ?_)
  · have hnr : ¬ s.ks.right := by simpa using g1_3
    refine WPA.takeN 4 rfl rfl rfl rfl rfl (by kernel_rfl) (by kernel_rfl) (by kernel_rfl) rfl (.nil _) ?_
    refine WPA.putS ?_
    refine WPA.takeN 5 rfl rfl rfl rfl rfl (by kernel_rfl) (by kernel_rfl) (by kernel_rfl) rfl (.nil _) ?_
    refine WPA.putS ?_
    refine WPA.takeN 6 rfl rfl rfl rfl rfl (by kernel_rfl) (by kernel_rfl) (by kernel_rfl) rfl (.nil _) ?_
    refine WPA.putS ?_
    refine WPA.takeN 7 rfl rfl rfl rfl rfl (by kernel_rfl) (by kernel_rfl) (by kernel_rfl) rfl (.nil _) ?_
    refine WPA.putS ?_
    refine WPA.takeN 8 rfl rfl rfl rfl rfl (by kernel_rfl) (by kernel_rfl) (by kernel_rfl) rfl (.nil _) ?_
    refine WPA.putS ?_
    refine WPA.takeN 9 rfl rfl rfl rfl rfl (by kernel_rfl) (by kernel_rfl) (by kernel_rfl) rfl (.nil _) ?_
    refine WPA.putS ?_
    refine WPA.takeN 10 rfl rfl rfl rfl rfl (by kernel_rfl) (by kernel_rfl) (by kernel_rfl) rfl (.nil _) ?_
    refine WPA.putS ?_
    refine WPA.takeN 11 rfl rfl rfl rfl rfl (by kernel_rfl) (by kernel_rfl) (by kernel_rfl) rfl (.nil _) ?_
    refine WPA.putS ?_
    refine atP 12 rfl ?_
    refine atP 13 rfl ?_
    refine WPA.done (by kernel_rfl) ?_
    refine WPC.cond rfl (fun h0 => ?_) (fun h0 => ?_)
    · have ek : ksave d K s.ks = (d, K, 1) := by unfold ksave; rw [if_pos (.inl hnr)]
      rw [ek]
      refine WPC.seqR ?_
      refine stp ?_
      refine WPL.nil ?_
      refine WPC.ret ?_
      refine blockQ_r ?_
      refine thenQ_r ?_
      exact endR_r rfl (.tmp rfl .nil) ((Imp.pk).trans (kpr_close (b := b) (db := db) (jb := jb) (K := K) ⟨sa, sc, hs, ha, hc⟩ ⟨hsl, hheld, hro⟩ (Γ := [jour jb db (KP.j K), disk db d]))) ⟨rfl, rfl⟩
    · skip
      simp at h0
  · have hr : s.ks.right := by simpa using g1_3
    refine atPY 4 rfl rfl rfl ?_
    refine atPY 5 rfl rfl rfl ?_
    refine atLY 6 rfl rfl rfl ?_
    refine atLY 7 rfl rfl rfl ?_
    refine atPY 8 rfl rfl rfl ?_
    refine atPY 9 rfl rfl rfl ?_
    refine atLY 10 rfl rfl rfl ?_
    refine atPY 11 rfl rfl rfl ?_
    refine atP 12 rfl ?_
    refine atP 13 rfl ?_
    refine WPA.done (by kernel_rfl) ?_
    refine WPC.cond rfl (fun h0 => ?_) (fun h0 => ?_)
    · have ek : ksave d K s.ks = (d, K, 1) := by unfold ksave; rw [if_pos (.inr (show s.base < K.base by simp at h0; omega))]
      rw [ek]
      refine WPC.seqR ?_
      refine stp ?_
      refine WPL.nil ?_
      refine WPC.ret ?_
      refine blockQ_r ?_
      refine thenQ_r ?_
      exact endR_r rfl (.tmp rfl .nil) ((Imp.pk).trans (kpr_close (b := b) (db := db) (jb := jb) (K := K) ⟨sa, sc, hs, ha, hc⟩ ⟨hsl, hheld, hro⟩ (Γ := [jour jb db (KP.j K), disk db d]))) ⟨rfl, rfl⟩
    · have hb0 : ¬ s.ks.log.base < K.base := by show ¬ s.base < K.base; simp at h0; omega
      refine WPC.seqQ mixed (by kernel_rfl) ?_
      iterate 10 refine stq ?_
      refine WPQ.nil ?_
      refine WPC.prune [(2, _), (3, _), (4, _), (22, _)] sbb ?_
      refine WPC.cond rfl (fun h1 => ?_) (fun h1 => ?_)
      · have ek : ksave d K s.ks = (d, K, 42) := by unfold ksave; rw [if_neg (fun h => h.elim (fun h => h hr) hb0), if_pos (by rw [hel]; simp at h1; omega)]
        rw [ek]
        refine WPC.seqR ?_
        refine stp ?_
        refine WPL.nil ?_
        refine WPC.ret ?_
        refine blockQ_r ?_
        refine thenQ_r ?_
        exact endR_r rfl (.tmp rfl .nil) ((Imp.pk).trans (kpr_close (b := b) (db := db) (jb := jb) (K := K) ⟨sa, sc, hs, ha, hc⟩ ⟨hsl, hheld, hro⟩ (Γ := [jour jb db (KP.j K), disk db d]))) ⟨rfl, rfl⟩
      · have hring : ¬ K.ring < s.n := by simp at h1; omega
        have ek : ksave d K s.ks = ksteps d K s.ks := by unfold ksave; rw [if_neg (fun h => h.elim (fun h => h hr) hb0), if_neg (by rw [hel]; exact hring)]
        rw [ek]
        refine WPC.skip ?_
        refine blockQ_n ?_
        refine thenQ_n ?_
        refine WPC.seq ?_
        refine WPC.seqR ?_
        refine WPL.imp ((Imp.pk (Δ := [cells true b 0 (kprC db jb K ⟨sa, sc, hs, ha, hc⟩), Sl.sl false sa (K.slot.map u8), buf 4 ha hs.length hc (hs.flatMap encRR), bytes (hs.map (·.x.b)), cells true b1 0 [.pointer (some ⟨b, 0, none⟩)], cells true b2 0 (stV s), jour jb db K.j, disk db d, tblA, s.ents, s.dat])).trans (kpr_close (b := b) (db := db) (jb := jb) (K := K) ⟨sa, sc, hs, ha, hc⟩ ⟨hsl, hheld, hro⟩)) ?_
        iterate 4 refine stp ?_
        refine nwb [_, _, _, _] fun bF => ?_
        iterate 2 refine stp ?_
        refine WPL.nil ?_
        refine WPC.block ?_
        refine WPC.loopS (fun m_ e Γ => ∃ (i : Nat) (Kk : KP) (dk : DK), m_ = 4 - i ∧ i ≤ 4 ∧ (i < 4 → Good N m s.ks i dk Kk) ∧ kgo s.ks ([0, 1, 2, 3].drop i) dk Kk = ksteps d K s.ks ∧ e = [(2, .pointer (some ⟨b1, 0, none⟩)), (3, .pointer (some ⟨b2, 0, none⟩)), (4, .int .i64 0), (36, .slice (some ⟨bF, 0, none⟩) 4 4), (37, .int .i64 4), (38, .int .i64 (i : Int))] ∧ Γ = [cells true bF 0 [.func (.func 25) #[] #[.pointer (some ⟨b1, 0, none⟩), .pointer (some ⟨b2, 0, none⟩)], .func (.func 27) #[] #[.pointer (some ⟨b1, 0, none⟩), .pointer (some ⟨b2, 0, none⟩)], .func (.func 29) #[] #[.pointer (some ⟨b1, 0, none⟩), .pointer (some ⟨b2, 0, none⟩)], .func (.func 31) #[] #[.pointer (some ⟨b1, 0, none⟩), .pointer (some ⟨b2, 0, none⟩)]], cells true b1 0 [.pointer (some ⟨b, 0, none⟩)], cells true b2 0 (stV s), kpr b db jb Kk, jour jb db (KP.j Kk), disk db dk, tblA, s.ents, s.dat]) (4) ⟨0, K, d, rfl, by omega, fun _ => ⟨hF, hnx, hkl, hat, fun h => by omega⟩, (ksteps_go ..).symm, rfl, rfl⟩ sbb Imp.pk ?_
        rintro m_ e Γ ⟨i, Kk, dk, rfl, hi, hgd, hgo, rfl, rfl⟩
        refine WPC.seqR ?_
        refine stp ?_
        refine WPL.nil ?_
        refine WPC.seq ?_
        refine WPC.cond rfl (fun h2 => ?_) (fun h2 => ?_)
        · have hi4 : i < 4 := by simp at h2; omega
          have hg := hgd hi4
          obtain ⟨k, fn, cd, hv, hk, hcb, hkn, hcl⟩ := c_sv (b := b) (db := db) (jb := jb) (b1 := b1) (b2 := b2) s hok hr (by omega) hm hi4 hg
          rw [drop4 hi4] at hgo
          simp only [kgo] at hgo
          refine WPC.skip ?_
          refine thenQ_n ?_
          refine WPC.seq ?_
          refine WPC.block ?_
          refine WPC.seqR ?_
          refine L_s (q_idxN (i := i) sl_sl_func_api_Errno rfl rfl hi4 (Pl.mk _ _)) rfl ?_
          refine L_s (q_load1 (i := i) (by kernel_rfl) rfl mm (by show 0 + i * 1 = 0 + i; omega) hv) rfl ?_
          refine stp ?_
          refine WPL.nil ?_
          refine WPC.seqR ?_
          refine stp ?_
          refine WPL.cons rfl (C1.call (c_callV rfl hk hcb hkn rfl) hcl pkk rfl ?_)
          rintro _ _ ⟨rfl, rfl⟩
          refine WPL.putS ?_
          refine stp ?_
          refine WPL.nil ?_
          refine WPC.seqR ?_
          iterate 2 refine stp ?_
          refine WPL.nil ?_
          refine WPC.cond rfl (fun h3 => ?_) (fun h3 => ?_)
          · have h3 : (kst i dk Kk s.ks).2.2 ≠ 0 := by simpa using h3
            rw [if_pos h3] at hgo
            rw [← hgo]
            refine WPC.seqR ?_
            iterate 2 refine stp ?_
            refine WPL.nil ?_
            refine WPC.ret ?_
            refine blockQ_r ?_
            refine thenQ_r ?_
            refine thenQ_r ?_
            refine blockQ_r ?_
            refine thenQ_r ?_
            exact endR_r rfl (.tmp rfl .nil) Imp.pk ⟨rfl, rfl⟩
          · have h3 : (kst i dk Kk s.ks).2.2 = 0 := by simpa using h3
            rw [if_neg (by rw [h3]; simp)] at hgo
            refine WPC.skip ?_
            refine blockQ_n ?_
            refine thenQ_n ?_
            refine WPC.region ?_
            iterate 2 refine stp ?_
            refine WPL.nil ?_
            refine thenQ_n ?_
            exact ⟨rfl, _, _, _, by omega, ⟨i + 1, (kst i dk Kk s.ks).2.1, (kst i dk Kk s.ks).1, rfl, by omega, fun h => hg.step (by omega), hgo, rfl, rfl⟩, sbb, Imp.pk⟩
        · have hi4 : i = 4 := by simp at h2; omega
          subst hi4
          have hgo2 : (dk, Kk, if dk.down then 43 else 0) = ksteps d K s.ks := hgo
          rw [← hgo2]
          refine WPC.exit ?_
          refine thenQ_e ?_
          refine thenQ_e ?_
          refine blockQ_here ?_
          refine thenQ_n ?_
          refine WPC.seq ?_
          refine WPC.seqR ?_
          refine WPL.imp (Imp.pk (Δ := [kpr b db jb Kk, cells true b1 0 [.pointer (some ⟨b, 0, none⟩)], jour jb db Kk.j, disk db dk])) ?_
          refine WPL.exg (L := fun L => kprL b db jb Kk L) fun L => WPL.pure fun hL => ?_
          iterate 4 refine stp ?_
          refine kall rfl c_DownD ?_
          rintro _ _ ⟨rfl, rfl⟩
          refine WPL.nil ?_
          refine WPC.cond rfl (fun h4 => ?_) (fun h4 => ?_)
          · have h4 : dk.down = true := h4
            rw [h4]
            refine WPC.seqR ?_
            refine stp ?_
            refine WPL.nil ?_
            refine WPC.ret ?_
            refine thenQ_r ?_
            exact endR_r rfl (.tmp rfl .nil) ((Imp.pk).trans (kpr_close (b := b) (db := db) (jb := jb) (K := Kk) L hL (Γ := [jour jb db (KP.j Kk), disk db dk]))) ⟨rfl, rfl⟩
          · have h4 : dk.down = false := h4
            rw [h4]
            refine WPC.skip ?_
            refine thenQ_n ?_
            refine WPC.seqR ?_
            refine stp ?_
            refine WPL.nil ?_
            refine WPC.ret ?_
            exact endR_r rfl (.tmp rfl .nil) ((Imp.pk).trans (kpr_close (b := b) (db := db) (jb := jb) (K := Kk) L hL (Γ := [jour jb db (KP.j Kk), disk db dk]))) ⟨rfl, rfl⟩

end Go.Sl
/- Walks: keepers behind calls. -/
namespace Go.Sl
open Go Go.RowKit Go.Proofs
set_option linter.unusedSimpArgs false
set_option linter.unusedVariables false
attribute [local irreducible] faB szB ldB zB zL slB mkB arB plB intB cells objc star stars buf slv grp whole Sat WPC WPL WPA WPO WPQ Trip Q1 E1 S1 C1

theorem c_OpenI {db N a n T : Nat} {d : DK} {K : KP} {sl : KS} {es : List EN3} (h : KInv N a n T d K sl es) (hT : T + 1 ≤ 1000000) (ha : a + 2 + 2 + n ≤ N) (ps : List Int) : Trip Tryd.prog 10 #[.pointer (some ⟨db, 0, none⟩), .int .i64 (a : Int), .int .i64 (n : Int)] [disk db (d.crash ps), tblA] fun r Δ => ∃ (b jb : Nat) (sv : SV) (d' : DK) (K' : KP), r = .tuple #[.pointer (some ⟨b, 0, none⟩), .agg (stV sv).toArray, .int .i64 0] ∧ sv.ok ∧ sv.ks = opened sl es ∧ (∀ e ∈ sv.es, e.b.bs.length ≤ 1000) ∧ KInv N a n (T + 1) d' K' sl es ∧ Δ = [kpr b db jb K', jour jb db K'.j, disk db d', sv.ents, sv.dat] := by
  obtain ⟨d', j', h1, h2, h3⟩ := kopen_ok h hT ha ps
  have hn := h.ji.n1
  have hlen := h.ji.len
  have hcl := crash_len h.ji.ok ps
  have hel := h.len
  refine Trip.mono (k_Open (rs := numR sl.log.base es) (sl := sl) ⟨hn.1, hn.2.1⟩ (by rw [hcl]; omega) (h.ji.ok.crash ps) (by rw [crash_pl]; omega) h1 h3.ji.ok (by rw [hcl, hlen]; exact h3.ji.len) (by rw [h2]; exact h.jh) (fun r hr => ?_) (by rw [numR_len]; omega) h.hok h.sle h3.slot) ?_
  · obtain ⟨q1, q2⟩ := numR_mem hr
    have := h.hok.b
    exact ⟨h.esok _ q2, by omega⟩
  · rintro _ _ ⟨b, jb, sv, rfl, k1, -, k2, rfl⟩
    rw [openSt_num h] at k2
    exact ⟨b, jb, sv, d', _, rfl, k1, k2, len_of (show sv.es.map RE.pl = es from (congrArg (fun z : KS => z.log.es) k2).trans (congrArg LG.es (opened_log sl es))) h.esok, h3, rfl⟩
theorem c_OpenN {db N a n : Nat} (hN : N ≤ 512) (hn : 1 ≤ n ∧ n ≤ 100) (ha : a + 2 + 2 + n ≤ N) {sl : KS} {es : List EN3} (hsl : sl = .zero) (hes : es = []) : Trip Tryd.prog 10 #[.pointer (some ⟨db, 0, none⟩), .int .i64 (a : Int), .int .i64 (n : Int)] [disk db (DK.new N), tblA] fun r Δ => ∃ (b jb : Nat) (sv : SV) (d' : DK) (K' : KP), r = .tuple #[.pointer (some ⟨b, 0, none⟩), .agg (stV sv).toArray, .int .i64 0] ∧ sv.ok ∧ sv.ks = opened sl es ∧ (∀ e ∈ sv.es, e.b.bs.length ≤ 1000) ∧ KInv N a n (1) d' K' sl es ∧ Δ = [kpr b db jb K', jour jb db K'.j, disk db d', sv.ents, sv.dat] := by
  subst hsl hes
  obtain ⟨d', j', h1, h2, h3⟩ := knew_ok hN hn ha
  have hl : (DK.new N).seen.length = N := by simp [DK.new]
  refine Trip.mono (k_Open (rs := []) (sl := .zero) hn (by rw [hl]; omega) (G.new_ok hN) (by show (0 : Nat) < _; omega) h1 h3.ji.ok (by rw [hl]; exact h3.ji.len) (by rw [h2]; rfl) (by simp) (by simp) h3.hok rfl h3.slot) ?_
  rintro _ _ ⟨b, jb, sv, rfl, k1, -, k2, rfl⟩
  have k3 : sv.ks = opened .zero [] := k2
  exact ⟨b, jb, sv, d', _, rfl, k1, k3, len_of (show sv.es.map RE.pl = [] from (congrArg (fun z : KS => z.log.es) k3).trans (congrArg LG.es (opened_log .zero []))) (by simp), h3, rfl⟩
theorem c_SaveI {b db jb N a n T : Nat} {d : DK} {K : KP} {sl : KS} {es : List EN3} (h : KInv N a n T d K sl es) (hT : T + n + 3 ≤ 1000000) (ha : a + 2 + 2 + n ≤ N) (s : SV) (hok : s.ok) : Trip Tryd.prog 8 #[.pointer (some ⟨b, 0, none⟩), .agg (stV s).toArray] [kpr b db jb K, jour jb db K.j, disk db d, tblA, s.ents, s.dat]
    fun r Δ => ∃ (e : Int) (d' : DK) (K' : KP) (sl' : KS) (es' : List EN3), r = .int .i64 e ∧ KInv N a n (T + n + 3) d' K' sl' es' ∧ ((e = 0 ∧ sl' = s.ks.bare ∧ es' = s.es.map RE.pl) ∨ ((e = 1 ∨ (e = 42 ∧ n < s.es.length)) ∧ d' = d ∧ sl' = sl ∧ es' = es)) ∧ Δ = [kpr b db jb K', jour jb db K'.j, disk db d'] := by
  have hn := h.ji.n1
  have hs := k_Save (b := b) (db := db) (jb := jb) s hok h.fit (by omega) h.ji.next_lt (by have := h.hl; omega) (by rw [h.kat]; omega) (by rw [h.kring]; omega)
  refine Trip.mono hs ?_
  rintro _ _ ⟨rfl, rfl⟩
  rcases save_keep h hT ha s hok with ⟨d', K', e, q, -⟩ | e | ⟨e, q⟩
  · rw [e]; exact ⟨0, d', K', _, _, rfl, q, .inl ⟨rfl, rfl, rfl⟩, rfl⟩
  · rw [e]; exact ⟨1, d, K, sl, es, rfl, h.mono (by omega) hT, .inr ⟨.inl rfl, rfl, rfl, rfl⟩, rfl⟩
  · rw [e]; exact ⟨42, d, K, sl, es, rfl, h.mono (by omega) hT, .inr ⟨.inr ⟨rfl, q⟩, rfl, rfl, rfl⟩, rfl⟩

theorem c_short {p : Bool} {a : Option Addr} {c : Nat} {ops : List KOp} (hs : Sok 8 a ops.length c (ops.flatMap encKO)) (hl0 : ops.length < 9223372036854775808) : Trip Tryd.prog 23 #[.slice a ops.length c, .int .i64 12] [sl p a (ops.flatMap encKO)] fun r Δ => r = .bool (decide (ops.length ≤ 12 ∧ ∀ o ∈ ops, o.s.n ≤ 12)) ∧ Δ = [sl p a (ops.flatMap encKO)] := by
  refine Trip.start 25 [.tmp 4] [(0, .slice a ops.length c), (1, .int .i64 12)] Tryd.func23 rfl Tryd.ntmps23 rfl ⟨rfl, rfl, trivial⟩ rfl ?_
  refine WPC.seqR ?_
  refine stp ?_
  refine WPL.nil ?_
  refine WPC.seq ?_
  refine WPC.seqR ?_
  iterate 4 refine stp ?_
  refine WPL.nil ?_
  refine WPC.cond rfl (fun h0 => ?_) (fun h0 => ?_)
  · have hne : ¬ (ops.length ≤ 12 ∧ ∀ o ∈ ops, o.s.n ≤ 12) := fun h => by simp at h0; omega
    refine WPC.seqR ?_
    refine stp ?_
    refine WPL.nil ?_
    refine WPC.ret ?_
    refine thenQ_r ?_
    exact endR_r rfl (.tmp rfl .nil) Imp.pk ⟨by simp only [packV]; rw [decide_eq_false hne], rfl⟩
  · have h12 : ops.length ≤ 12 := by simp at h0; omega
    refine WPC.skip ?_
    refine thenQ_n ?_
    refine WPC.seq ?_
    refine WPC.seqR ?_
    refine stp ?_
    refine WPL.nil ?_
    refine WPC.block ?_
    refine WPC.loopS (fun m e Γ => ∃ k : Nat, m = ops.length - k ∧ k ≤ ops.length ∧ (∀ o ∈ ops.take k, o.s.n ≤ 12) ∧ e = [(0, .slice a ops.length c), (4, .bool false), (5, .int .i64 (k : Int))] ∧ Γ = [sl p a (ops.flatMap encKO)]) (ops.length) ⟨0, rfl, by omega, by simp, rfl, rfl⟩ sbb Imp.pk ?_
    rintro m e Γ ⟨k, rfl, hk, hv, rfl, rfl⟩
    refine WPC.seq ?_
    refine WPC.seqR ?_
    iterate 4 refine stp ?_
    refine WPL.nil ?_
    refine WPC.cond rfl (fun h1 => ?_) (fun h1 => ?_)
    · simp only [decide_eq_true_eq, Int.ofNat_lt] at h1
      have hp : Pl a := hs.at (by omega) (by omega)
      obtain ⟨o, ho⟩ : ∃ o, ops[k]? = some o := ⟨ops[k], by simp [h1]⟩
      refine WPC.skip ?_
      refine thenQ_n ?_
      refine WPC.seq ?_
      refine WPC.block ?_
      refine WPC.seqR ?_
      iterate 2 refine stp ?_
      refine L_s (q_idxN (i := k) sl_sl_pursuivantlaw14_Op rfl rfl h1 hp) rfl ?_
      iterate 3 refine stp ?_
      refine L_s (show Q1 _ _ _ _ (.slice o.s.a o.s.n o.s.c) from q_load1 (i := k * 8 + 6) ld_sl_api_Entry rfl mm rfl ((flat_get encKO_len ops k 6 ho (by omega)).trans rfl)) rfl ?_
      iterate 2 refine stp ?_
      refine WPL.nil ?_
      refine WPC.cond rfl (fun h2 => ?_) (fun h2 => ?_)
      · have hne : ¬ (ops.length ≤ 12 ∧ ∀ o ∈ ops, o.s.n ≤ 12) := fun h => by have := h.2 o (List.mem_of_getElem? ho); simp at h2; omega
        refine WPC.seqR ?_
        refine stp ?_
        refine WPL.nil ?_
        refine WPC.ret ?_
        refine blockQ_r ?_
        refine thenQ_r ?_
        refine thenQ_r ?_
        refine blockQ_r ?_
        refine thenQ_r ?_
        exact endR_r rfl (.tmp rfl .nil) Imp.pk ⟨by simp only [packV]; rw [decide_eq_false hne], rfl⟩
      · have h2 : o.s.n ≤ 12 := by simp at h2; omega
        refine WPC.skip ?_
        refine blockQ_n ?_
        refine thenQ_n ?_
        refine WPC.region ?_
        iterate 3 refine stp ?_
        refine WPL.nil ?_
        refine thenQ_n ?_
        exact ⟨rfl, _, _, _, by omega, ⟨k + 1, rfl, by omega, by intro y hy; rw [take_succ ho, List.mem_append] at hy; rcases hy with hy | hy; exact hv y hy; rw [List.mem_singleton.1 hy]; exact h2, rfl, rfl⟩, sbb, Imp.pk⟩
    · simp only [decide_eq_false_iff_not, Int.ofNat_lt] at h1
      rw [List.take_of_length_le (by omega)] at hv
      refine WPC.exit ?_
      refine thenQ_e ?_
      refine thenQ_e ?_
      refine blockQ_here ?_
      refine thenQ_n ?_
      refine WPC.seqR ?_
      refine stp ?_
      refine WPL.nil ?_
      refine WPC.ret ?_
      exact endR_r rfl (.tmp rfl .nil) Imp.pk ⟨by simp only [packV]; rw [decide_eq_true (show ops.length ≤ 12 ∧ ∀ o ∈ ops, o.s.n ≤ 12 from ⟨h12, hv⟩)], rfl⟩

theorem c_madeNil {D : A} (hD : Pers D) {a : Option Addr} {c : Nat} {ops : List KOp} (hs : Sok 8 a ops.length c (ops.flatMap encKO)) (hl0 : ops.length < 9223372036854775808) (hg : ¬ (ops.length ≤ 12 ∧ ∀ o ∈ ops, o.s.n ≤ 12)) : Trip Tryd.prog 7 #[.slice a ops.length c] [sl false a (ops.flatMap encKO), tblA, D] fun r Δ => r = .tuple #[.pointer none, .pointer none, .agg (stV (⟨0, 0, 0, 0, [], none, 0, 0⟩ : SV)).toArray] ∧ Δ = [] := by
  refine Trip.start 84 [.tmp 2, .tmp 3, .cell 4 28] [(0, .slice a ops.length c)] Tryd.func7 rfl Tryd.ntmps7 rfl ⟨rfl, trivial⟩ rfl ?_
  refine WPC.seqR ?_
  iterate 2 refine stp ?_
  refine nw fun b1 => ?_
  refine WPL.nil ?_
  refine WPC.seqR ?_
  refine stp ?_
  refine kall rfl (c_short hs hl0) ?_
  rintro _ _ ⟨rfl, rfl⟩
  rw [decide_eq_false hg]
  refine stp ?_
  refine WPL.nil ?_
  refine WPC.seqR ?_
  refine kall rfl (c_DNew (k := 20) (by omega)) ?_
  rintro _ _ ⟨db, rfl, rfl⟩
  iterate 5 refine stp ?_
  refine WPL.nil ?_
  refine WPC.seq ?_
  refine WPC.seqR ?_
  iterate 3 refine stp ?_
  iterate 2 refine stpY rfl rfl ?_
  refine stp ?_
  refine WPL.nil ?_
  refine WPC.cond rfl (fun h0 => ?_) (fun h0 => ?_)
  · skip
    refine WPC.seqR ?_
    refine L_s (q_build (cs := [_, _, _, _, _]) pl_keep_State rfl rfl) rfl ?_
    iterate 2 refine stp ?_
    refine sto ?_
    refine WPL.nil ?_
    refine WPC.ret ?_
    refine thenQ_r ?_
    exact endR_r rfl (.tmp rfl (.tmp rfl (.cellN (us := [_, _, _, _, _]) rfl ld_keep_State mm rfl rfl .nil))) Imp.pk ⟨rfl, rfl⟩
  · try simp only [decide_eq_true_eq, decide_eq_false_iff_not, beq_iff_eq, bne_iff_ne, beq_eq_false_iff_ne, bne_eq_false_iff_eq, Bool.not_eq_true', Bool.not_eq_false', Bool.not_eq_eq_eq_not, Bool.not_true, Bool.not_false, ne_eq, Decidable.not_not, Int.not_lt, Int.not_le, gt_iff_lt, ge_iff_le] at h0
    simp at h0

theorem c_made {D : A} (hD : Pers D) {a : Option Addr} {c : Nat} {ops : List KOp} (hs : Sok 8 a ops.length c (ops.flatMap encKO)) (hl0 : ops.length < 9223372036854775808) (hg : ops.length ≤ 12 ∧ ∀ o ∈ ops, o.s.n ≤ 12) (hops : KOpsD D ops) : Trip Tryd.prog 7 #[.slice a ops.length c] [sl false a (ops.flatMap encKO), tblA, D] fun r Δ => ∃ (db b jb : Nat) (S : SV) (d : DK) (K : KP) (sl : KS) (es : List EN3) (T : Nat), T ≤ 200 ∧ r = .tuple #[.pointer (some ⟨db, 0, none⟩), .pointer (some ⟨b, 0, none⟩), .agg (stV S).toArray] ∧ KInv 20 1 12 T d K sl es ∧ Last S sl es ∧ Δ = [kpr b db jb K, jour jb db K.j, disk db d, S.ents, S.dat] := by
  have hg1 := hg.1
  refine Trip.start 84 [.tmp 2, .tmp 3, .cell 4 28] [(0, .slice a ops.length c)] Tryd.func7 rfl Tryd.ntmps7 rfl ⟨rfl, trivial⟩ rfl ?_
  refine WPC.seqR ?_
  iterate 2 refine stp ?_
  refine nw fun b1 => ?_
  refine WPL.nil ?_
  refine WPC.seqR ?_
  refine stp ?_
  refine kall rfl (c_short hs hl0) ?_
  rintro _ _ ⟨rfl, rfl⟩
  rw [decide_eq_true hg]
  refine stp ?_
  refine WPL.nil ?_
  refine WPC.seqR ?_
  refine kall rfl (c_DNew (k := 20) (by omega)) ?_
  rintro _ _ ⟨db, rfl, rfl⟩
  iterate 5 refine stp ?_
  refine WPL.nil ?_
  refine WPC.seq ?_
  refine WPC.seqR ?_
  iterate 3 refine stp ?_
  iterate 2 refine stpY rfl rfl ?_
  refine stp ?_
  refine WPL.nil ?_
  refine WPC.cond rfl (fun h0 => ?_) (fun h0 => ?_)
  · try simp only [decide_eq_true_eq, decide_eq_false_iff_not, beq_iff_eq, bne_iff_ne, beq_eq_false_iff_ne, bne_eq_false_iff_eq, Bool.not_eq_true', Bool.not_eq_false', Bool.not_eq_eq_eq_not, Bool.not_true, Bool.not_false, ne_eq, Decidable.not_not, Int.not_lt, Int.not_le, gt_iff_lt, ge_iff_le] at h0
    simp at h0
  · skip
    refine WPC.skip ?_
    refine thenQ_n ?_
    refine WPC.seqR ?_
    refine stp ?_
    refine kall rfl (c_OpenN (N := 20) (a := 1) (n := 12) (by omega) (by omega) (by omega) rfl rfl) ?_
    rintro _ _ ⟨b, jb, S, d, K, rfl, hS1, hS2, hS3, hI, rfl⟩
    iterate 4 refine stp ?_
    refine nw fun bs => ?_
    refine stp ?_
    refine sto ?_
    refine stp ?_
    refine WPL.nil ?_
    refine WPC.prune [(0, _), (2, _), (3, _), (4, _), (6, _), (8, _), (9, _)] sbb ?_
    refine WPC.seq ?_
    refine WPC.seqR ?_
    refine stp ?_
    refine WPL.nil ?_
    refine WPC.block ?_
    refine WPC.loopS (fun m e Γ => ∃ (k b jb : Nat) (S : SV) (d : DK) (K : KP) (sl : KS) (es : List EN3), m = ops.length - k ∧ k ≤ ops.length ∧ KInv 20 1 12 (1 + 15 * k) d K sl es ∧ Last S sl es ∧ e = [(0, .slice a ops.length c), (2, .pointer none), (3, .pointer none), (4, .pointer (some ⟨b1, 0, none⟩)), (6, .pointer (some ⟨db, 0, none⟩)), (8, .pointer (some ⟨b, 0, none⟩)), (9, .pointer (some ⟨bs, 0, none⟩)), (11, .int .i64 (k : Int))] ∧ Γ = [cells true b1 0 (stV (⟨0, 0, 0, 0, [], none, 0, 0⟩ : SV)), cells true bs 0 (stV S), kpr b db jb K, jour jb db K.j, disk db d, S.ents, S.dat, Sl.sl false a (ops.flatMap encKO), tblA, D]) (ops.length) ⟨0, b, jb, S, d, K, _, _, rfl, by omega, hI, Last.open hS1 hS2, rfl, rfl⟩ sbb Imp.pk ?_
    clear hI hS1 hS2 hS3
    rintro m e Γ ⟨k, b, jb, S, d, K, sl, es, rfl, hk, hI, hL, rfl, rfl⟩
    refine WPC.seq ?_
    refine WPC.seqR ?_
    iterate 5 refine stp ?_
    apply WPL.joinA (e' := [(0, _), (2, _), (3, _), (4, _), (6, _), (8, _), (9, _), (11, _), (32, _), (33, _), (34, _), (35, _)]) 36 39 3 rfl
    · intro g7_4
      try simp only [decide_eq_true_eq, decide_eq_false_iff_not, beq_iff_eq, bne_iff_ne, beq_eq_false_iff_ne, bne_eq_false_iff_eq, Bool.not_eq_true', Bool.not_eq_false', Bool.not_eq_eq_eq_not, Bool.not_true, Bool.not_false, ne_eq, Decidable.not_not, Int.not_lt, Int.not_le, gt_iff_lt, ge_iff_le] at g7_4
      iterate 2 refine stpY rfl rfl ?_
      refine stp ?_
      first | exact WPL.jn rfl rfl sbb | exact WPL.jnI rfl rfl sbb Imp.pk
    · intro g7_4
      try simp only [decide_eq_true_eq, decide_eq_false_iff_not, beq_iff_eq, bne_iff_ne, beq_eq_false_iff_ne, bne_eq_false_iff_eq, Bool.not_eq_true', Bool.not_eq_false', Bool.not_eq_eq_eq_not, Bool.not_true, Bool.not_false, ne_eq, Decidable.not_not, Int.not_lt, Int.not_le, gt_iff_lt, ge_iff_le] at g7_4
      refine L_no rfl rfl rfl rfl ?_
      refine L_no rfl rfl rfl rfl ?_
      refine stp ?_
      first | exact WPL.jn rfl rfl sbb | exact WPL.jnI rfl rfl sbb Imp.pk
    refine WPL.nil ?_
    refine WPC.cond rfl (fun h1 => ?_) (fun h1 => ?_)
    · have h1 : k < ops.length := by simpa using h1
      have hp : Pl a := hs.at (by omega) (by omega)
      obtain ⟨o, ho⟩ : ∃ o, ops[k]? = some o := ⟨ops[k], by simp [h1]⟩
      obtain ⟨hDo, hpo, hDp⟩ := hops o (List.mem_of_getElem? ho)
      have hpn := hpo.n
      unfold IS.ok at hpo
      rw [hpn] at hpo
      have hok := hI.ji.ok
      have hpl := hI.ji.pl
      refine WPC.skip ?_
      refine thenQ_n ?_
      refine WPC.seq ?_
      refine WPC.block ?_
      refine WPC.seqR ?_
      iterate 2 refine stp ?_
      refine L_s (q_idxN (i := k) sl_sl_pursuivantlaw14_Op rfl rfl h1 hp) rfl ?_
      refine stp ?_
      refine L_s (show Q1 _ _ _ _ (.int .i64 o.do_) from q_load1 (i := k * 8 + 0) ld_int rfl mm rfl ((flat_get encKO_len ops k 0 ho (by omega)).trans rfl)) rfl ?_
      refine WPL.nil ?_
      refine WPC.block ?_
      refine WPC.seqR ?_
      iterate 2 refine stp ?_
      refine WPL.nil ?_
      refine WPC.cond rfl (fun h2 => ?_) (fun h2 => ?_)
      · skip
        refine WPC.seqR ?_
        iterate 3 refine stp ?_
        refine L_s (q_idxN (i := k) sl_sl_pursuivantlaw14_Op rfl rfl h1 hp) rfl ?_
        refine stp ?_
        refine L_s (show Q1 _ _ _ _ (.agg (stV o.s).toArray) from q_loadN (i := k * 8 + 2) ld_keep_State rfl mm rfl rfl (flat_part (j := 2) encKO_len ho (by omega))) rfl ?_
        refine WPL.imp ((Imp.pk (Δ := [D, cells true b1 0 (stV (⟨0, 0, 0, 0, [], none, 0, 0⟩ : SV)), cells true bs 0 (stV S), kpr b db jb K, jour jb db (KP.j K), disk db d, S.ents, S.dat, Sl.sl false a (ops.flatMap encKO), tblA])).trans (hDo.e _)) ?_
        refine WPL.imp ((Imp.pk (Δ := [D, SV.ents o.s, cells true b1 0 (stV (⟨0, 0, 0, 0, [], none, 0, 0⟩ : SV)), cells true bs 0 (stV S), kpr b db jb K, jour jb db (KP.j K), disk db d, S.ents, S.dat, Sl.sl false a (ops.flatMap encKO), tblA])).trans (hDo.d _)) ?_
        refine kall rfl (c_SaveI hI (by omega) (by omega) o.s hDo.ok) ?_
        rintro _ _ ⟨er, d2, K2, sl2, es2, rfl, hI2, hres, rfl⟩
        refine stp ?_
        refine WPL.nil ?_
        refine WPC.prune [(0, _), (2, _), (3, _), (4, _), (6, _), (8, _), (9, _), (11, _), (12, _), (32, _), (33, _), (34, _), (35, _), (39, _), (42, _), (43, _), (44, _), (45, _), (46, _), (47, _), (48, _), (49, _), (50, _), (51, _), (52, _), (53, _), (54, _), (55, _)] sbb ?_
        refine WPC.seqR ?_
        iterate 2 refine stp ?_
        refine WPL.nil ?_
        refine WPC.prune [(0, _), (2, _), (3, _), (4, _), (6, _), (8, _), (9, _), (11, _), (12, _), (32, _), (33, _), (34, _), (35, _), (39, _), (42, _), (43, _), (44, _), (45, _), (46, _), (47, _), (48, _), (49, _), (50, _), (51, _), (52, _), (53, _), (54, _), (55, _), (56, _), (57, _)] sbb ?_
        refine WPC.cond rfl (fun h3 => ?_) (fun h3 => ?_)
        · have h3 : er = 0 := by simpa using h3
          obtain ⟨-, rfl, rfl⟩ : er = 0 ∧ sl2 = o.s.ks.bare ∧ es2 = o.s.es.map RE.pl := by rcases hres with h | h; exact h; omega
          refine WPC.region ?_
          iterate 2 refine stp ?_
          refine L_s (q_idxN (i := k) sl_sl_pursuivantlaw14_Op rfl rfl h1 hp) rfl ?_
          refine stp ?_
          refine L_s (show Q1 _ _ _ _ (.agg (stV o.s).toArray) from q_loadN (i := k * 8 + 2) ld_keep_State rfl mm rfl rfl (flat_part (j := 2) encKO_len ho (by omega))) rfl ?_
          refine sto ?_
          refine WPL.nil ?_
          refine blockQ_n ?_
          refine blockQ_n ?_
          refine thenQ_n ?_
          refine WPC.region ?_
          iterate 3 refine stp ?_
          refine WPL.nil ?_
          refine thenQ_n ?_
          exact ⟨rfl, _, _, _, by omega, ⟨k + 1, b, jb, o.s, d2, K2, _, _, rfl, by omega, hI2.mono (by omega) (by omega), Last.saved hDo.ok, rfl, rfl⟩, sbb, Imp.pk⟩
        · have h3 : er ≠ 0 := by simpa using h3
          obtain ⟨rfl, rfl, rfl⟩ : d2 = d ∧ sl2 = sl ∧ es2 = es := by rcases hres with h | h; exact absurd h.1 h3; exact h.2
          refine WPC.skip ?_
          refine blockQ_n ?_
          refine blockQ_n ?_
          refine thenQ_n ?_
          refine WPC.region ?_
          iterate 3 refine stp ?_
          refine WPL.nil ?_
          refine thenQ_n ?_
          exact ⟨rfl, _, _, _, by omega, ⟨k + 1, b, jb, S, d2, K2, _, _, rfl, by omega, hI2.mono (by omega) (by omega), hL, rfl, rfl⟩, sbb, Imp.pk⟩
      · skip
        refine WPC.seqR ?_
        iterate 2 refine stp ?_
        refine WPL.nil ?_
        refine WPC.cond rfl (fun h4 => ?_) (fun h4 => ?_)
        · skip
          refine WPC.seqR ?_
          iterate 3 refine stp ?_
          refine L_s (q_idxN (i := k) sl_sl_pursuivantlaw14_Op rfl rfl h1 hp) rfl ?_
          refine stp ?_
          refine L_s (show Q1 _ _ _ _ (.slice o.p.a o.p.n o.p.c) from q_load1 (i := k * 8 + 7) ld_sl_int rfl mm rfl ((flat_get encKO_len ops k 7 ho (by omega)).trans rfl)) rfl ?_
          rw [show Value.slice o.p.a o.p.n o.p.c = .slice o.p.a o.p.xs.length o.p.c by rw [hpn]]
          refine WPL.imp ((Imp.pk (Δ := [D, cells true b1 0 (stV (⟨0, 0, 0, 0, [], none, 0, 0⟩ : SV)), cells true bs 0 (stV S), kpr b db jb K, jour jb db (KP.j K), disk db d, S.ents, S.dat, Sl.sl false a (ops.flatMap encKO), tblA])).trans (hDp _)) ?_
          refine kall rfl (c_Crash hok (by omega) hpo) ?_
          rintro _ _ ⟨rfl, rfl⟩
          refine WPL.nil ?_
          refine WPC.prune [(0, _), (2, _), (3, _), (4, _), (6, _), (8, _), (9, _), (11, _), (32, _), (33, _), (34, _), (35, _), (39, _), (42, _), (43, _), (44, _), (45, _), (46, _), (47, _), (48, _), (63, _), (64, _), (65, _), (66, _), (67, _), (68, _), (69, _), (70, _)] sbb ?_
          refine WPC.region ?_
          refine stp ?_
          refine kall rfl (c_OpenI (n := 12) (a := 1) hI (by omega) (by omega) o.p.xs) ?_
          rintro _ _ ⟨b2, jb2, S2, d2, K2, rfl, hS1, hS2, hS3, hI2, rfl⟩
          iterate 5 refine stp ?_
          refine sto ?_
          refine WPL.nil ?_
          refine blockQ_n ?_
          refine blockQ_n ?_
          refine thenQ_n ?_
          refine WPC.region ?_
          iterate 3 refine stp ?_
          refine WPL.nil ?_
          refine thenQ_n ?_
          exact ⟨rfl, _, _, _, by omega, ⟨k + 1, b2, jb2, S2, d2, K2, _, _, rfl, by omega, hI2.mono (by omega) (by omega), Last.open hS1 hS2, rfl, rfl⟩, sbb, Imp.pk⟩
        · skip
          refine WPC.skip ?_
          refine blockQ_n ?_
          refine blockQ_n ?_
          refine thenQ_n ?_
          refine WPC.region ?_
          iterate 3 refine stp ?_
          refine WPL.nil ?_
          refine thenQ_n ?_
          exact ⟨rfl, _, _, _, by omega, ⟨k + 1, b, jb, S, d, K, _, _, rfl, by omega, hI.mono (by omega) (by omega), hL, rfl, rfl⟩, sbb, Imp.pk⟩
    · skip
      refine WPC.exit ?_
      refine thenQ_e ?_
      refine thenQ_e ?_
      refine blockQ_here ?_
      refine thenQ_n ?_
      refine WPC.seq ?_
      refine WPC.seqR ?_
      iterate 2 refine stp ?_
      refine WPL.nil ?_
      refine WPC.cond rfl (fun h5 => ?_) (fun h5 => ?_)
      · try simp only [decide_eq_true_eq, decide_eq_false_iff_not, beq_iff_eq, bne_iff_ne, beq_eq_false_iff_ne, bne_eq_false_iff_eq, Bool.not_eq_true', Bool.not_eq_false', Bool.not_eq_eq_eq_not, Bool.not_true, Bool.not_false, ne_eq, Decidable.not_not, Int.not_lt, Int.not_le, gt_iff_lt, ge_iff_le] at h5
        simp at h5
      · skip
        refine WPC.skip ?_
        refine thenQ_n ?_
        refine WPC.seqD mixed ?_
        refine atP 0 rfl ?_
        refine atP 1 rfl ?_
        refine atL 2 rfl ?_
        refine atP 3 rfl ?_
        refine atP 4 rfl ?_
        refine WPA.oneE 5 [] (by kernel_rfl) rfl rfl (by repeat (first | exact .nil | refine .anc rfl ?_ | refine .keep mm ?_)) (S1.wpo (s_storeNz sz_keep_State rfl rfl (by simp [Value.oneCell']) rfl uu (by repeat constructor)) rfl ?_)
        refine ⟨(.nil _), ?_⟩
        refine WPA.putN ?_
        refine WPA.done (by kernel_rfl) ?_
        refine WPC.ret ?_
        exact endR_r rfl (.tmp rfl (.tmp rfl (.cellN (us := [_, _, _, _, _]) rfl ld_keep_State mm rfl rfl .nil))) Imp.pk ⟨db, b, jb, S, d, K, sl, es, 1 + 15 * k, by omega, rfl, hI, hL, rfl⟩

end Go.Sl
/- Walks: the examples. -/
namespace Go.Sl
open Go Go.RowKit Go.Proofs
set_option linter.unusedSimpArgs false
set_option linter.unusedVariables false
attribute [local irreducible] faB szB ldB zB zL slB mkB arB plB intB cells objc star stars buf slv grp whole Sat WPC WPL WPA WPO WPQ Trip Q1 E1 S1 C1

theorem c_SaveR {b db jb N a n T : Nat} {d : DK} {K : KP} {sl : KS} {es : List EN3} (h : KInv N a n T d K sl es) (hT : T + n + 3 ≤ 1000000) (ha : a + 2 + 2 + n ≤ N) (s : SV) (hok : s.ok) (hr : s.ks.right) (hb : sl.log.base ≤ s.base) (hl : s.es.length ≤ n) : Trip Tryd.prog 8 #[.pointer (some ⟨b, 0, none⟩), .agg (stV s).toArray] [kpr b db jb K, jour jb db K.j, disk db d, tblA, s.ents, s.dat]
    fun r Δ => ∃ (d' : DK) (K' : KP), r = .int .i64 0 ∧ KInv N a n (T + n + 3) d' K' s.ks.bare (s.es.map RE.pl) ∧ Δ = [kpr b db jb K', jour jb db K'.j, disk db d'] := by
  have hn := h.ji.n1
  have hs := k_Save (b := b) (db := db) (jb := jb) s hok h.fit (by omega) h.ji.next_lt (by have := h.hl; omega) (by rw [h.kat]; omega) (by rw [h.kring]; omega)
  refine Trip.mono hs ?_
  rintro _ _ ⟨rfl, rfl⟩
  obtain ⟨d', K', e1, e2⟩ := ksave_ok h hT ha (hr.hok hok) hr hb (by rw [show s.ks.log.es.length = s.es.length from List.length_map ..]; exact hl) (hr.ents hok)
  rw [e1]; exact ⟨d', K', rfl, e2, rfl⟩

theorem c_awake  : Trip Tryd.prog 6 #[] [tblA] fun r Δ => r = .bool true ∧ Δ = [] := by
  refine Trip.start 104 [.tmp 0] [] Tryd.func6 rfl Tryd.ntmps6 rfl trivial rfl ?_
  refine WPC.seqR ?_
  refine stp ?_
  refine WPL.nil ?_
  refine WPC.seqR ?_
  refine kall rfl (c_DNew (k := 20) (by omega)) ?_
  rintro _ _ ⟨db, rfl, rfl⟩
  iterate 5 refine stp ?_
  refine WPL.nil ?_
  refine WPC.seq ?_
  refine WPC.seqR ?_
  iterate 2 refine stp ?_
  refine WPL.nil ?_
  refine WPC.cond rfl (fun h0 => ?_) (fun h0 => ?_)
  · try simp only [decide_eq_true_eq, decide_eq_false_iff_not, beq_iff_eq, bne_iff_ne, beq_eq_false_iff_ne, bne_eq_false_iff_eq, Bool.not_eq_true', Bool.not_eq_false', Bool.not_eq_eq_eq_not, Bool.not_true, Bool.not_false, ne_eq, Decidable.not_not, Int.not_lt, Int.not_le, gt_iff_lt, ge_iff_le] at h0
    simp at h0
  · skip
    refine WPC.skip ?_
    refine thenQ_n ?_
    refine WPC.seqR ?_
    refine stp ?_
    refine kall rfl (c_OpenN (N := 20) (a := 1) (n := 10) (by omega) (by omega) (by omega) rfl rfl) ?_
    rintro _ _ ⟨b, jb, S, d, K, rfl, hS1, hS2, hS3, hI, rfl⟩
    iterate 4 refine stp ?_
    refine nw fun bq => ?_
    refine stp ?_
    refine sto ?_
    refine stp ?_
    refine WPL.nil ?_
    refine WPC.seq ?_
    refine WPC.seqR ?_
    iterate 2 refine stp ?_
    refine WPL.nil ?_
    refine WPC.cond rfl (fun h1 => ?_) (fun h1 => ?_)
    · try simp only [decide_eq_true_eq, decide_eq_false_iff_not, beq_iff_eq, bne_iff_ne, beq_eq_false_iff_ne, bne_eq_false_iff_eq, Bool.not_eq_true', Bool.not_eq_false', Bool.not_eq_eq_eq_not, Bool.not_true, Bool.not_false, ne_eq, Decidable.not_not, Int.not_lt, Int.not_le, gt_iff_lt, ge_iff_le] at h1
      simp at h1
    · skip
      refine WPC.skip ?_
      refine thenQ_n ?_
      refine WPC.seqR ?_
      refine nwb [_] fun bA => ?_
      refine L_s (q_build (cs := [_, _, _]) pl_api_Entry rfl rfl) rfl ?_
      refine nwb [_, _, _] fun bB => ?_
      refine L_s (q_build (cs := [_, _, _]) pl_terms_Log rfl rfl) rfl ?_
      refine L_s (q_build (cs := [_, _, _, _, _]) pl_keep_State rfl rfl) rfl ?_
      refine nw fun b6 => ?_
      refine sto ?_
      refine WPL.nil ?_
      refine WPC.prune [(0, _), (1, _), (3, _), (4, _), (5, _), (6, _)] sbb ?_
      refine WPC.seqR ?_
      refine nwb [_] fun bC => ?_
      refine L_s (q_build (cs := [_, _, _]) pl_api_Entry rfl rfl) rfl ?_
      refine nwb [_, _, _] fun bD => ?_
      refine L_s (q_build (cs := [_, _, _]) pl_terms_Log rfl rfl) rfl ?_
      refine L_s (q_build (cs := [_, _, _, _, _]) pl_keep_State rfl rfl) rfl ?_
      refine nw fun b7 => ?_
      refine sto ?_
      refine WPL.nil ?_
      refine WPC.seqR ?_
      refine WPL.imp ((Imp.pk (Δ := [cells true bA 0 [u8 97], cells true bB 0 [.int .u64 ((3 : Nat) : Int), .int .i64 1, .slice (some ⟨bA, 0, none⟩) 1 1], cells true bC 0 [u8 98], cells true bD 0 [.int .u64 ((4 : Nat) : Int), .int .i64 1, .slice (some ⟨bC, 0, none⟩) 1 1], cells true bq 0 (stV S), cells true b6 0 (stV (exSV 3 2 97 bA bB)), cells true b7 0 (stV (exSV 4 (-1) 98 bC bD)), kpr b db jb K, jour jb db K.j, disk db d, S.ents, S.dat, tblA])).trans (exSV_imp (v := 2))) ?_
      refine WPL.imp ((Imp.pk (Δ := [cells true bC 0 [u8 98], cells true bD 0 [.int .u64 ((4 : Nat) : Int), .int .i64 1, .slice (some ⟨bC, 0, none⟩) 1 1], SV.ents (exSV 3 2 97 bA bB), SV.dat (exSV 3 2 97 bA bB), cells true bq 0 (stV S), cells true b6 0 (stV (exSV 3 2 97 bA bB)), cells true b7 0 (stV (exSV 4 (-1) 98 bC bD)), kpr b db jb K, jour jb db K.j, disk db d, S.ents, S.dat, tblA])).trans (exSV_imp (v := -1))) ?_
      iterate 2 refine stp ?_
      refine kall rfl (c_SaveR hI (by omega) (by omega) (exSV 3 2 97 bA bB) (exSV_ok (by omega)) (exSV_right (by omega) (by omega)) (Nat.le_refl _) (by show 1 ≤ 10; omega)) ?_
      rintro _ _ ⟨d2, K2, rfl, hI2, rfl⟩
      refine stp ?_
      refine WPL.nil ?_
      refine WPC.seqR ?_
      refine stp ?_
      refine WPL.imp (Imp.slEmpty (p := false) (a := none)) ?_
      refine kall rfl (c_Crash (ps := []) (a := none) (c := 0) (q := false) hI2.ji.ok (by have := hI2.ji.pl; omega) ⟨rfl, Nat.le_refl _, .inl rfl⟩) ?_
      rintro _ _ ⟨rfl, rfl⟩
      refine WPL.nil ?_
      refine WPC.seqR ?_
      refine stp ?_
      refine kall rfl (c_OpenI hI2 (by omega) (by omega) []) ?_
      rintro _ _ ⟨b3, jb3, S3, d3, K3, rfl, hT1, hT2, hT3, hI3, rfl⟩
      iterate 4 refine stp ?_
      refine nw fun b9 => ?_
      refine stp ?_
      refine sto ?_
      refine stp ?_
      refine WPL.nil ?_
      refine WPC.prune [(0, _), (1, _), (3, _), (4, _), (5, _), (6, _), (7, _), (8, _), (9, _), (10, _)] sbb ?_
      refine WPC.seq ?_
      refine WPC.seqR ?_
      iterate 2 refine stp ?_
      refine WPL.nil ?_
      refine WPC.cond rfl (fun h2 => ?_) (fun h2 => ?_)
      · try simp only [decide_eq_true_eq, decide_eq_false_iff_not, beq_iff_eq, bne_iff_ne, beq_eq_false_iff_ne, bne_eq_false_iff_eq, Bool.not_eq_true', Bool.not_eq_false', Bool.not_eq_eq_eq_not, Bool.not_true, Bool.not_false, ne_eq, Decidable.not_not, Int.not_lt, Int.not_le, gt_iff_lt, ge_iff_le] at h2
        simp at h2
      · skip
        refine WPC.skip ?_
        refine thenQ_n ?_
        refine WPC.seqR ?_
        iterate 2 refine stp ?_
        refine kall rfl (c_SaveR hI3 (by omega) (by omega) (exSV 4 (-1) 98 bC bD) (exSV_ok (by omega)) (exSV_right (by omega) (by omega)) (Nat.le_refl _) (by show 1 ≤ 10; omega)) ?_
        rintro _ _ ⟨d4, K4, rfl, hI4, rfl⟩
        refine stp ?_
        refine WPL.nil ?_
        refine WPC.seqR ?_
        refine stp ?_
        refine WPL.imp (Imp.slEmpty (p := false) (a := none)) ?_
        refine kall rfl (c_Crash (ps := []) (a := none) (c := 0) (q := false) hI4.ji.ok (by have := hI4.ji.pl; omega) ⟨rfl, Nat.le_refl _, .inl rfl⟩) ?_
        rintro _ _ ⟨rfl, rfl⟩
        refine WPL.nil ?_
        refine WPC.seqR ?_
        refine stp ?_
        refine kall rfl (c_OpenI hI4 (by omega) (by omega) []) ?_
        rintro _ _ ⟨b5, jb5, S5, d5, K5, rfl, hU1, hU2, hU3, hI5, rfl⟩
        iterate 4 refine stp ?_
        refine nw fun b13 => ?_
        refine stp ?_
        refine sto ?_
        refine stp ?_
        refine WPL.nil ?_
        refine WPC.prune [(0, _), (4, _), (5, _), (6, _), (7, _), (8, _), (9, _), (10, _), (11, _), (13, _), (14, _)] sbb ?_
        refine WPC.seqR ?_
        refine stp ?_
        refine L_s (q_build (cs := [_, _, _, _, _]) pl_pursuivantref14_State rfl rfl) rfl ?_
        refine WPL.imp ((Imp.slEmpty (p := false) (a := none)).trans bytes_nil) ?_
        refine kall rfl (c_same14 S (⟨0, -1, 0, 0, [], none, 0, 0⟩ : SV) hS1 ⟨⟨rfl, Nat.le_refl _, .inl rfl⟩, by show 0 < _; omega, by simp, ⟨by show 0 < _; omega, by show 0 < _; omega, by show 0 < _; omega⟩, by simp⟩ hS3) ?_
        rintro _ _ ⟨rfl, rfl⟩
        rw [decide_eq_true (show S.ks = SV.ks (⟨0, -1, 0, 0, [], none, 0, 0⟩ : SV) from hS2.trans rfl)]
        refine stp ?_
        refine WPL.nil ?_
        refine WPC.seqD mixed ?_
        refine atL 0 rfl ?_
        refine atL 1 rfl ?_
        refine WPA.oneE 2 [(0, [_])] (by kernel_rfl) rfl rfl (by repeat (first | exact .nil | refine .anc rfl ?_ | refine .keep mm ?_)) (C1.call (c_call Tryd.func11 rfl rfl rfl) (c_doc (exSV 3 2 97 bA bB)) pkk rfl ?_)
        rintro _ _ ⟨rfl, rfl⟩
        refine ⟨(.cons (Ent.mem mm) (.nil _)), ?_⟩
        refine WPA.putS ?_
        refine WPA.oneE 3 [] (by kernel_rfl) rfl rfl (by repeat (first | exact .nil | refine .anc rfl ?_ | refine .keep mm ?_)) (C1.call (c_call Tryd.func13 rfl rfl rfl) (c_same14 S3 (exSV 3 2 97 bA bB) hT1 (exSV_ok (by omega)) hT3) pkk rfl ?_)
        rintro _ _ ⟨rfl, rfl⟩
        rw [decide_eq_true (show S3.ks = SV.ks (exSV 3 2 97 bA bB) from hT2.trans exSV_opened)]
        refine ⟨(.nil _), ?_⟩
        refine WPA.putS ?_
        refine atP 4 rfl ?_
        refine WPA.done (by kernel_rfl) ?_
        refine WPC.seqD mixed ?_
        refine atL 0 rfl ?_
        refine atL 1 rfl ?_
        refine WPA.oneE 2 [(0, [_])] (by kernel_rfl) rfl rfl (by repeat (first | exact .nil | refine .anc rfl ?_ | refine .keep mm ?_)) (C1.call (c_call Tryd.func11 rfl rfl rfl) (c_doc (exSV 4 (-1) 98 bC bD)) pkk rfl ?_)
        rintro _ _ ⟨rfl, rfl⟩
        refine ⟨(.cons (Ent.mem mm) (.nil _)), ?_⟩
        refine WPA.putS ?_
        refine WPA.oneE 3 [] (by kernel_rfl) rfl rfl (by repeat (first | exact .nil | refine .anc rfl ?_ | refine .keep mm ?_)) (C1.call (c_call Tryd.func13 rfl rfl rfl) (c_same14 S5 (exSV 4 (-1) 98 bC bD) hU1 (exSV_ok (by omega)) hU3) pkk rfl ?_)
        rintro _ _ ⟨rfl, rfl⟩
        rw [decide_eq_true (show S5.ks = SV.ks (exSV 4 (-1) 98 bC bD) from hU2.trans exSV_opened)]
        refine ⟨(.nil _), ?_⟩
        refine WPA.putS ?_
        refine atP 4 rfl ?_
        refine WPA.done (by kernel_rfl) ?_
        refine WPC.seqR ?_
        iterate 3 refine stp ?_
        apply WPL.joinA (e' := [(0, _), (10, _), (11, _), (14, _), (15, _), (16, _), (17, _)]) 79 82 3 rfl
        · intro g20_2
          try simp only [decide_eq_true_eq, decide_eq_false_iff_not, beq_iff_eq, bne_iff_ne, beq_eq_false_iff_ne, bne_eq_false_iff_eq, Bool.not_eq_true', Bool.not_eq_false', Bool.not_eq_eq_eq_not, Bool.not_true, Bool.not_false, ne_eq, Decidable.not_not, Int.not_lt, Int.not_le, gt_iff_lt, ge_iff_le] at g20_2
          iterate 2 refine stpY rfl rfl ?_
          refine stp ?_
          first | exact WPL.jn rfl rfl sbb | exact WPL.jnI rfl rfl sbb Imp.pk
        · intro g20_2
          try simp only [decide_eq_true_eq, decide_eq_false_iff_not, beq_iff_eq, bne_iff_ne, beq_eq_false_iff_ne, bne_eq_false_iff_eq, Bool.not_eq_true', Bool.not_eq_false', Bool.not_eq_eq_eq_not, Bool.not_true, Bool.not_false, ne_eq, Decidable.not_not, Int.not_lt, Int.not_le, gt_iff_lt, ge_iff_le] at g20_2
          refine L_no rfl rfl rfl rfl ?_
          refine L_no rfl rfl rfl rfl ?_
          refine stp ?_
          first | exact WPL.jn rfl rfl sbb | exact WPL.jnI rfl rfl sbb Imp.pk
        refine stp ?_
        apply WPL.joinA (e' := [(0, _), (11, _), (14, _), (15, _), (16, _), (17, _)]) 83 86 3 rfl
        · intro g20_6
          try simp only [decide_eq_true_eq, decide_eq_false_iff_not, beq_iff_eq, bne_iff_ne, beq_eq_false_iff_ne, bne_eq_false_iff_eq, Bool.not_eq_true', Bool.not_eq_false', Bool.not_eq_eq_eq_not, Bool.not_true, Bool.not_false, ne_eq, Decidable.not_not, Int.not_lt, Int.not_le, gt_iff_lt, ge_iff_le] at g20_6
          iterate 2 refine stpY rfl rfl ?_
          refine stp ?_
          first | exact WPL.jn rfl rfl sbb | exact WPL.jnI rfl rfl sbb Imp.pk
        · intro g20_6
          try simp only [decide_eq_true_eq, decide_eq_false_iff_not, beq_iff_eq, bne_iff_ne, beq_eq_false_iff_ne, bne_eq_false_iff_eq, Bool.not_eq_true', Bool.not_eq_false', Bool.not_eq_eq_eq_not, Bool.not_true, Bool.not_false, ne_eq, Decidable.not_not, Int.not_lt, Int.not_le, gt_iff_lt, ge_iff_le] at g20_6
          refine L_no rfl rfl rfl rfl ?_
          refine L_no rfl rfl rfl rfl ?_
          refine stp ?_
          first | exact WPL.jn rfl rfl sbb | exact WPL.jnI rfl rfl sbb Imp.pk
        refine stp ?_
        apply WPL.joinA (e' := [(0, _), (14, _), (15, _), (16, _), (17, _)]) 87 90 3 rfl
        · intro g20_10
          try simp only [decide_eq_true_eq, decide_eq_false_iff_not, beq_iff_eq, bne_iff_ne, beq_eq_false_iff_ne, bne_eq_false_iff_eq, Bool.not_eq_true', Bool.not_eq_false', Bool.not_eq_eq_eq_not, Bool.not_true, Bool.not_false, ne_eq, Decidable.not_not, Int.not_lt, Int.not_le, gt_iff_lt, ge_iff_le] at g20_10
          iterate 2 refine stpY rfl rfl ?_
          refine stp ?_
          first | exact WPL.jn rfl rfl sbb | exact WPL.jnI rfl rfl sbb Imp.pk
        · intro g20_10
          try simp only [decide_eq_true_eq, decide_eq_false_iff_not, beq_iff_eq, bne_iff_ne, beq_eq_false_iff_ne, bne_eq_false_iff_eq, Bool.not_eq_true', Bool.not_eq_false', Bool.not_eq_eq_eq_not, Bool.not_true, Bool.not_false, ne_eq, Decidable.not_not, Int.not_lt, Int.not_le, gt_iff_lt, ge_iff_le] at g20_10
          refine L_no rfl rfl rfl rfl ?_
          refine L_no rfl rfl rfl rfl ?_
          refine stp ?_
          first | exact WPL.jn rfl rfl sbb | exact WPL.jnI rfl rfl sbb Imp.pk
        refine stp ?_
        apply WPL.joinA (e' := [(0, _), (15, _), (16, _), (17, _)]) 91 94 3 rfl
        · intro g20_14
          try simp only [decide_eq_true_eq, decide_eq_false_iff_not, beq_iff_eq, bne_iff_ne, beq_eq_false_iff_ne, bne_eq_false_iff_eq, Bool.not_eq_true', Bool.not_eq_false', Bool.not_eq_eq_eq_not, Bool.not_true, Bool.not_false, ne_eq, Decidable.not_not, Int.not_lt, Int.not_le, gt_iff_lt, ge_iff_le] at g20_14
          iterate 2 refine stpY rfl rfl ?_
          refine stp ?_
          first | exact WPL.jn rfl rfl sbb | exact WPL.jnI rfl rfl sbb Imp.pk
        · intro g20_14
          try simp only [decide_eq_true_eq, decide_eq_false_iff_not, beq_iff_eq, bne_iff_ne, beq_eq_false_iff_ne, bne_eq_false_iff_eq, Bool.not_eq_true', Bool.not_eq_false', Bool.not_eq_eq_eq_not, Bool.not_true, Bool.not_false, ne_eq, Decidable.not_not, Int.not_lt, Int.not_le, gt_iff_lt, ge_iff_le] at g20_14
          refine L_no rfl rfl rfl rfl ?_
          refine L_no rfl rfl rfl rfl ?_
          refine stp ?_
          first | exact WPL.jn rfl rfl sbb | exact WPL.jnI rfl rfl sbb Imp.pk
        refine stp ?_
        apply WPL.joinA (e' := [(0, _), (16, _), (17, _)]) 95 97 2 rfl
        · intro g20_18
          try simp only [decide_eq_true_eq, decide_eq_false_iff_not, beq_iff_eq, bne_iff_ne, beq_eq_false_iff_ne, bne_eq_false_iff_eq, Bool.not_eq_true', Bool.not_eq_false', Bool.not_eq_eq_eq_not, Bool.not_true, Bool.not_false, ne_eq, Decidable.not_not, Int.not_lt, Int.not_le, gt_iff_lt, ge_iff_le] at g20_18
          refine stpY rfl rfl ?_
          refine stp ?_
          first | exact WPL.jn rfl rfl sbb | exact WPL.jnI rfl rfl sbb Imp.pk
        · intro g20_18
          try simp only [decide_eq_true_eq, decide_eq_false_iff_not, beq_iff_eq, bne_iff_ne, beq_eq_false_iff_ne, bne_eq_false_iff_eq, Bool.not_eq_true', Bool.not_eq_false', Bool.not_eq_eq_eq_not, Bool.not_true, Bool.not_false, ne_eq, Decidable.not_not, Int.not_lt, Int.not_le, gt_iff_lt, ge_iff_le] at g20_18
          refine L_no rfl rfl rfl rfl ?_
          refine stp ?_
          first | exact WPL.jn rfl rfl sbb | exact WPL.jnI rfl rfl sbb Imp.pk
        refine stp ?_
        apply WPL.joinA (e' := [(0, _), (17, _)]) 98 100 2 rfl
        · intro g20_21
          try simp only [decide_eq_true_eq, decide_eq_false_iff_not, beq_iff_eq, bne_iff_ne, beq_eq_false_iff_ne, bne_eq_false_iff_eq, Bool.not_eq_true', Bool.not_eq_false', Bool.not_eq_eq_eq_not, Bool.not_true, Bool.not_false, ne_eq, Decidable.not_not, Int.not_lt, Int.not_le, gt_iff_lt, ge_iff_le] at g20_21
          refine stpY rfl rfl ?_
          refine stp ?_
          first | exact WPL.jn rfl rfl sbb | exact WPL.jnI rfl rfl sbb Imp.pk
        · intro g20_21
          try simp only [decide_eq_true_eq, decide_eq_false_iff_not, beq_iff_eq, bne_iff_ne, beq_eq_false_iff_ne, bne_eq_false_iff_eq, Bool.not_eq_true', Bool.not_eq_false', Bool.not_eq_eq_eq_not, Bool.not_true, Bool.not_false, ne_eq, Decidable.not_not, Int.not_lt, Int.not_le, gt_iff_lt, ge_iff_le] at g20_21
          refine L_no rfl rfl rfl rfl ?_
          refine stp ?_
          first | exact WPL.jn rfl rfl sbb | exact WPL.jnI rfl rfl sbb Imp.pk
        refine stp ?_
        apply WPL.joinA (e' := [(0, _)]) 101 103 2 rfl
        · intro g20_24
          try simp only [decide_eq_true_eq, decide_eq_false_iff_not, beq_iff_eq, bne_iff_ne, beq_eq_false_iff_ne, bne_eq_false_iff_eq, Bool.not_eq_true', Bool.not_eq_false', Bool.not_eq_eq_eq_not, Bool.not_true, Bool.not_false, ne_eq, Decidable.not_not, Int.not_lt, Int.not_le, gt_iff_lt, ge_iff_le] at g20_24
          refine stpY rfl rfl ?_
          refine stp ?_
          first | exact WPL.jn rfl rfl sbb | exact WPL.jnI rfl rfl sbb Imp.pk
        · intro g20_24
          try simp only [decide_eq_true_eq, decide_eq_false_iff_not, beq_iff_eq, bne_iff_ne, beq_eq_false_iff_ne, bne_eq_false_iff_eq, Bool.not_eq_true', Bool.not_eq_false', Bool.not_eq_eq_eq_not, Bool.not_true, Bool.not_false, ne_eq, Decidable.not_not, Int.not_lt, Int.not_le, gt_iff_lt, ge_iff_le] at g20_24
          refine L_no rfl rfl rfl rfl ?_
          refine stp ?_
          first | exact WPL.jn rfl rfl sbb | exact WPL.jnI rfl rfl sbb Imp.pk
        refine stp ?_
        refine WPL.nil ?_
        refine WPC.ret ?_
        exact endR_r rfl (.tmp rfl .nil) Imp.pk ⟨rfl, rfl⟩

end Go.Sl
/- Walks: KeepBack, KeepRefused. -/
namespace Go.Sl
open Go Go.RowKit Go.Proofs
set_option linter.unusedSimpArgs false
set_option linter.unusedVariables false
attribute [local irreducible] faB szB ldB zB zL slB mkB arB plB intB cells objc star stars buf slv grp whole Sat WPC WPL WPA WPO WPQ Trip Q1 E1 S1 C1

theorem c_PendD {b : Nat} {d : DK} : Trip Tryd.prog 15 #[.pointer (some ⟨b, 0, none⟩)] [disk b d] fun r Δ => r = .int .i64 (d.pend.length : Int) ∧ Δ = [disk b d] := by
  refine disk_open fun L hL => ?_
  refine Trip.start 8 [.tmp 2] [(0, .pointer (some ⟨b, 0, none⟩))] Tryd.func15 rfl Tryd.ntmps15 rfl ⟨rfl, trivial⟩ rfl ?_
  refine WPC.seqR ?_
  refine stp ?_
  refine WPL.nil ?_
  refine WPC.seqR ?_
  iterate 6 refine stp ?_
  refine WPL.nil ?_
  refine WPC.ret ?_
  exact endR_r rfl (.tmp rfl .nil) ((Imp.pk).trans (disk_close L hL (Γ := []))) ⟨rfl, rfl⟩

theorem c_BackNil {D : A} (hD : Pers D) {a : Option Addr} {c : Nat} {ops : List KOp} (hs : Sok 8 a ops.length c (ops.flatMap encKO)) (hl0 : ops.length < 9223372036854775808) (s : SV) (hDs : StD D s) (ps : IS) (hp : ps.ok) (hDp : ∀ Γ, Imp (D :: Γ) (ps.at_ :: D :: Γ)) (hg : ¬ (ops.length ≤ 12 ∧ ∀ o ∈ ops, o.s.n ≤ 12)) : Trip Tryd.prog 3 #[.slice a ops.length c, .agg (stV s).toArray, .slice ps.a ps.n ps.c] [sl false a (ops.flatMap encKO), tblA, D] fun r Δ => r = .bool true ∧ Δ = [] := by
  refine Trip.start 75 [.tmp 6] [(0, .slice a ops.length c), (1, .agg (stV s).toArray), (2, .slice ps.a ps.n ps.c)] Tryd.func3 rfl Tryd.ntmps3 rfl ⟨rfl, rfl, rfl, trivial⟩ rfl ?_
  refine WPC.seqR ?_
  refine nw fun b1 => ?_
  refine stp ?_
  refine WPL.nil ?_
  refine WPC.seqR ?_
  refine kall rfl c_awake ?_
  rintro _ _ ⟨rfl, rfl⟩
  refine stp ?_
  refine WPL.nil ?_
  refine WPC.seqR ?_
  refine stp ?_
  refine kall rfl (c_madeNil hD hs hl0 hg) ?_
  rintro _ _ ⟨rfl, rfl⟩
  iterate 4 refine stp ?_
  refine nw fun b2 => ?_
  iterate 2 refine stp ?_
  refine sto ?_
  refine WPL.nil ?_
  refine WPC.seq ?_
  refine WPC.seqR ?_
  iterate 3 refine stp ?_
  refine L_no rfl rfl rfl rfl ?_
  refine L_no rfl rfl rfl rfl ?_
  refine L_no rfl rfl rfl rfl ?_
  refine L_no rfl rfl rfl rfl ?_
  refine L_no rfl rfl rfl rfl ?_
  refine stp ?_
  refine WPL.nil ?_
  refine WPC.prune [(2, _), (4, _), (6, _), (7, _), (8, _), (9, _), (32, _)] sbb ?_
  refine WPC.cond rfl (fun h0 => ?_) (fun h0 => ?_)
  · skip
    refine WPC.seqR ?_
    iterate 2 refine stp ?_
    refine WPL.nil ?_
    refine WPC.ret ?_
    refine thenQ_r ?_
    exact endR_r rfl (.tmp rfl .nil) Imp.pk ⟨rfl, rfl⟩
  · try simp only [decide_eq_true_eq, decide_eq_false_iff_not, beq_iff_eq, bne_iff_ne, beq_eq_false_iff_ne, bne_eq_false_iff_eq, Bool.not_eq_true', Bool.not_eq_false', Bool.not_eq_eq_eq_not, Bool.not_true, Bool.not_false, ne_eq, Decidable.not_not, Int.not_lt, Int.not_le, gt_iff_lt, ge_iff_le] at h0
    simp at h0

theorem c_Back {D : A} (hD : Pers D) {a : Option Addr} {c : Nat} {ops : List KOp} (hs : Sok 8 a ops.length c (ops.flatMap encKO)) (hl0 : ops.length < 9223372036854775808) (s : SV) (hDs : StD D s) (ps : IS) (hp : ps.ok) (hDp : ∀ Γ, Imp (D :: Γ) (ps.at_ :: D :: Γ)) (hg : ops.length ≤ 12 ∧ ∀ o ∈ ops, o.s.n ≤ 12) (hops : KOpsD D ops) : Trip Tryd.prog 3 #[.slice a ops.length c, .agg (stV s).toArray, .slice ps.a ps.n ps.c] [sl false a (ops.flatMap encKO), tblA, D] fun r Δ => r = .bool true ∧ Δ = [] := by
  refine Trip.start 75 [.tmp 6] [(0, .slice a ops.length c), (1, .agg (stV s).toArray), (2, .slice ps.a ps.n ps.c)] Tryd.func3 rfl Tryd.ntmps3 rfl ⟨rfl, rfl, rfl, trivial⟩ rfl ?_
  refine WPC.seqR ?_
  refine nw fun b1 => ?_
  refine stp ?_
  refine WPL.nil ?_
  refine WPC.seqR ?_
  refine kall rfl c_awake ?_
  rintro _ _ ⟨rfl, rfl⟩
  refine stp ?_
  refine WPL.nil ?_
  refine WPC.seqR ?_
  refine stp ?_
  refine kall rfl (c_made hD hs hl0 hg hops) ?_
  rintro _ _ ⟨db, b, jb, S, d, K, sl, es, T, hT, rfl, hI, hL, rfl⟩
  have hsn := hDs.ok.len
  have hpn := hp.n
  have hpo := hp
  unfold IS.ok at hpo
  rw [hpn] at hpo
  iterate 4 refine stp ?_
  refine nw fun b2 => ?_
  iterate 2 refine stp ?_
  refine sto ?_
  refine WPL.nil ?_
  refine WPC.seq ?_
  refine WPC.seqR ?_
  iterate 3 refine stp ?_
  iterate 5 refine stpY rfl rfl ?_
  refine stp ?_
  refine WPL.nil ?_
  refine WPC.prune [(2, _), (4, _), (6, _), (7, _), (8, _), (9, _), (32, _)] sbb ?_
  refine WPC.cond rfl (fun h0 => ?_) (fun h0 => ?_)
  · skip
    refine WPC.seqR ?_
    iterate 2 refine stp ?_
    refine WPL.nil ?_
    refine WPC.ret ?_
    refine thenQ_r ?_
    exact endR_r rfl (.tmp rfl .nil) Imp.pk ⟨rfl, rfl⟩
  · have h12 : s.n ≤ 12 := by simp at h0; omega
    refine WPC.skip ?_
    refine thenQ_n ?_
    refine WPC.seqR ?_
    iterate 2 refine stp ?_
    refine WPL.imp ((Imp.pk (Δ := [D, cells true b1 0 (stV s), cells true b2 0 (stV S), kpr b db jb K, jour jb db (KP.j K), disk db d, S.ents, S.dat, Sl.sl false a (ops.flatMap encKO), tblA])).trans (hDs.e _)) ?_
    refine WPL.imp ((Imp.pk (Δ := [D, s.ents, cells true b1 0 (stV s), cells true b2 0 (stV S), kpr b db jb K, jour jb db (KP.j K), disk db d, S.ents, S.dat, Sl.sl false a (ops.flatMap encKO), tblA])).trans (hDs.d _)) ?_
    refine WPL.imp ((Imp.pk (Δ := [D, s.dat, s.ents, cells true b1 0 (stV s), cells true b2 0 (stV S), kpr b db jb K, jour jb db (KP.j K), disk db d, S.ents, S.dat, Sl.sl false a (ops.flatMap encKO), tblA])).trans (hDp _)) ?_
    refine kall rfl (c_SaveI hI (by omega) (by omega) s hDs.ok) ?_
    rintro _ _ ⟨er, d2, K2, sl2, es2, rfl, hI2, hres, rfl⟩
    have hpl2 := hI2.ji.pl
    refine stp ?_
    refine WPL.nil ?_
    refine WPC.seq ?_
    refine WPC.seqR ?_
    iterate 2 refine stp ?_
    refine WPL.nil ?_
    refine WPC.cond rfl (fun h1 => ?_) (fun h1 => ?_)
    · have h1 : er ≠ 0 := by simpa using h1
      obtain rfl : er = 1 := by rcases hres with h | ⟨h | h, -⟩; exact absurd h.1 h1; exact h; omega
      refine WPC.seqR ?_
      iterate 2 refine stp ?_
      iterate 2 refine stpY rfl rfl ?_
      iterate 2 refine stp ?_
      refine WPL.nil ?_
      refine WPC.ret ?_
      refine thenQ_r ?_
      exact endR_r rfl (.tmp rfl .nil) Imp.pk ⟨rfl, rfl⟩
    · have h1 : er = 0 := by simpa using h1
      obtain ⟨-, rfl, rfl⟩ : er = 0 ∧ sl2 = s.ks.bare ∧ es2 = s.es.map RE.pl := by rcases hres with h | ⟨h | h, -⟩; exact h; omega; omega
      refine WPC.skip ?_
      refine thenQ_n ?_
      refine WPC.seqR ?_
      iterate 2 refine stp ?_
      rw [show Value.slice ps.a ps.n ps.c = .slice ps.a ps.xs.length ps.c by rw [hpn]]
      refine kall rfl (c_Crash hI2.ji.ok (by omega) hpo) ?_
      rintro _ _ ⟨rfl, rfl⟩
      refine WPL.nil ?_
      refine WPC.seqR ?_
      refine stp ?_
      refine kall rfl (c_OpenI hI2 (by omega) (by omega) ps.xs) ?_
      rintro _ _ ⟨b3, jb3, S3, d3, K3, rfl, hT1, hT2, hT3, hI3, rfl⟩
      iterate 4 refine stp ?_
      refine nw fun bt => ?_
      refine stp ?_
      refine sto ?_
      refine stp ?_
      refine WPL.nil ?_
      refine WPC.prune [(4, _), (6, _), (7, _), (13, _), (14, _)] sbb ?_
      refine WPC.seqR ?_
      refine stp ?_
      refine kall rfl (c_doc s) ?_
      rintro _ _ ⟨rfl, rfl⟩
      refine nw fun bw => ?_
      refine sto ?_
      refine WPL.nil ?_
      refine WPC.seqR ?_
      refine stp ?_
      refine kall rfl (c_term s hDs.ok (by omega)) ?_
      rintro _ _ ⟨rfl, rfl⟩
      refine stp ?_
      refine sto ?_
      refine WPL.nil ?_
      refine WPC.seq ?_
      refine WPC.seqR ?_
      iterate 5 refine stp ?_
      refine WPL.nil ?_
      refine WPC.cond rfl (fun h2 => ?_) (fun h2 => ?_)
      · have h2 : ¬ max s.term s.lg.lastTerm = s.term := by simp at h2; omega
        refine WPC.region ?_
        refine stp ?_
        refine sto ?_
        refine WPL.nil ?_
        refine thenQ_n ?_
        refine WPC.seqR ?_
        have hw : stV s.wish = [.int .u64 ((max s.term s.lg.lastTerm : Nat) : Int), .int .i64 (-1), .int .u64 (s.base : Int), .int .u64 (s.bt : Int), .slice s.a s.n s.c] := by simp only [SV.wish, stV, if_neg h2]
        rw [← hw]
        iterate 2 refine stp ?_
        refine kall rfl (c_same14 S3 s.wish hT1 (wish_ok hDs.ok) hT3) ?_
        rintro _ _ ⟨rfl, rfl⟩
        rw [decide_eq_true (show S3.ks = s.wish.ks from hT2.trans (wish_eq s).symm)]
        refine stp ?_
        refine WPL.nil ?_
        refine WPC.seqR ?_
        iterate 2 refine stp ?_
        iterate 2 refine stpY rfl rfl ?_
        iterate 2 refine stp ?_
        refine stpY rfl rfl ?_
        iterate 2 refine stp ?_
        refine WPL.nil ?_
        refine WPC.prune [(6, _)] sbb ?_
        refine WPC.ret ?_
        exact endR_r rfl (.tmp rfl .nil) Imp.pk ⟨rfl, rfl⟩
      · have h2 : max s.term s.lg.lastTerm = s.term := by simp at h2; omega
        refine WPC.skip ?_
        refine thenQ_n ?_
        refine WPC.seqR ?_
        have hw : stV s.wish = [.int .u64 ((max s.term s.lg.lastTerm : Nat) : Int), .int .i64 s.vote, .int .u64 (s.base : Int), .int .u64 (s.bt : Int), .slice s.a s.n s.c] := by simp only [SV.wish, stV, if_pos h2]
        rw [← hw]
        iterate 2 refine stp ?_
        refine kall rfl (c_same14 S3 s.wish hT1 (wish_ok hDs.ok) hT3) ?_
        rintro _ _ ⟨rfl, rfl⟩
        rw [decide_eq_true (show S3.ks = s.wish.ks from hT2.trans (wish_eq s).symm)]
        refine stp ?_
        refine WPL.nil ?_
        refine WPC.seqR ?_
        iterate 2 refine stp ?_
        iterate 2 refine stpY rfl rfl ?_
        iterate 2 refine stp ?_
        refine stpY rfl rfl ?_
        iterate 2 refine stp ?_
        refine WPL.nil ?_
        refine WPC.prune [(6, _)] sbb ?_
        refine WPC.ret ?_
        exact endR_r rfl (.tmp rfl .nil) Imp.pk ⟨rfl, rfl⟩

theorem c_RefNil {D : A} (hD : Pers D) {a : Option Addr} {c : Nat} {ops : List KOp} (hs : Sok 8 a ops.length c (ops.flatMap encKO)) (hl0 : ops.length < 9223372036854775808) (s : SV) (hDs : StD D s) (ps : IS) (hp : ps.ok) (hDp : ∀ Γ, Imp (D :: Γ) (ps.at_ :: D :: Γ)) (hg : ¬ (ops.length ≤ 12 ∧ ∀ o ∈ ops, o.s.n ≤ 12)) : Trip Tryd.prog 4 #[.slice a ops.length c, .agg (stV s).toArray, .slice ps.a ps.n ps.c] [sl false a (ops.flatMap encKO), tblA, D] fun r Δ => r = .bool true ∧ Δ = [] := by
  refine Trip.start 86 [.tmp 6] [(0, .slice a ops.length c), (1, .agg (stV s).toArray), (2, .slice ps.a ps.n ps.c)] Tryd.func4 rfl Tryd.ntmps4 rfl ⟨rfl, rfl, rfl, trivial⟩ rfl ?_
  refine WPC.seqR ?_
  refine nw fun b1 => ?_
  refine stp ?_
  refine WPL.nil ?_
  refine WPC.seqR ?_
  refine kall rfl c_awake ?_
  rintro _ _ ⟨rfl, rfl⟩
  refine stp ?_
  refine WPL.nil ?_
  refine WPC.seqR ?_
  refine stp ?_
  refine kall rfl (c_madeNil hD hs hl0 hg) ?_
  rintro _ _ ⟨rfl, rfl⟩
  iterate 4 refine stp ?_
  refine nw fun b2 => ?_
  iterate 2 refine stp ?_
  refine sto ?_
  refine WPL.nil ?_
  refine WPC.seq ?_
  refine WPC.seqR ?_
  iterate 2 refine stp ?_
  refine WPL.nil ?_
  refine WPC.cond rfl (fun h0 => ?_) (fun h0 => ?_)
  · skip
    refine WPC.seqR ?_
    iterate 2 refine stp ?_
    refine WPL.nil ?_
    refine WPC.ret ?_
    refine thenQ_r ?_
    exact endR_r rfl (.tmp rfl .nil) Imp.pk ⟨rfl, rfl⟩
  · try simp only [decide_eq_true_eq, decide_eq_false_iff_not, beq_iff_eq, bne_iff_ne, beq_eq_false_iff_ne, bne_eq_false_iff_eq, Bool.not_eq_true', Bool.not_eq_false', Bool.not_eq_eq_eq_not, Bool.not_true, Bool.not_false, ne_eq, Decidable.not_not, Int.not_lt, Int.not_le, gt_iff_lt, ge_iff_le] at h0
    simp at h0

set_option maxHeartbeats 1000000 in
theorem c_Refused {D : A} (hD : Pers D) {a : Option Addr} {c : Nat} {ops : List KOp} (hs : Sok 8 a ops.length c (ops.flatMap encKO)) (hl0 : ops.length < 9223372036854775808) (s : SV) (hDs : StD D s) (ps : IS) (hp : ps.ok) (hDp : ∀ Γ, Imp (D :: Γ) (ps.at_ :: D :: Γ)) (hg : ops.length ≤ 12 ∧ ∀ o ∈ ops, o.s.n ≤ 12) (hops : KOpsD D ops) : Trip Tryd.prog 4 #[.slice a ops.length c, .agg (stV s).toArray, .slice ps.a ps.n ps.c] [sl false a (ops.flatMap encKO), tblA, D] fun r Δ => r = .bool true ∧ Δ = [] := by
  refine Trip.start 86 [.tmp 6] [(0, .slice a ops.length c), (1, .agg (stV s).toArray), (2, .slice ps.a ps.n ps.c)] Tryd.func4 rfl Tryd.ntmps4 rfl ⟨rfl, rfl, rfl, trivial⟩ rfl ?_
  refine WPC.seqR ?_
  refine nw fun b1 => ?_
  refine stp ?_
  refine WPL.nil ?_
  refine WPC.seqR ?_
  refine kall rfl c_awake ?_
  rintro _ _ ⟨rfl, rfl⟩
  refine stp ?_
  refine WPL.nil ?_
  refine WPC.seqR ?_
  refine stp ?_
  refine kall rfl (c_made hD hs hl0 hg hops) ?_
  rintro _ _ ⟨db, b, jb, S, d, K, sl, es, T, hT, rfl, hI, hL, rfl⟩
  have hsn := hDs.ok.len
  have hpn := hp.n
  have hpo := hp
  unfold IS.ok at hpo
  rw [hpn] at hpo
  iterate 4 refine stp ?_
  refine nw fun b2 => ?_
  iterate 2 refine stp ?_
  refine sto ?_
  refine WPL.nil ?_
  refine WPC.seq ?_
  refine WPC.seqR ?_
  iterate 2 refine stp ?_
  refine WPL.nil ?_
  refine WPC.cond rfl (fun h0 => ?_) (fun h0 => ?_)
  · try simp only [decide_eq_true_eq, decide_eq_false_iff_not, beq_iff_eq, bne_iff_ne, beq_eq_false_iff_ne, bne_eq_false_iff_eq, Bool.not_eq_true', Bool.not_eq_false', Bool.not_eq_eq_eq_not, Bool.not_true, Bool.not_false, ne_eq, Decidable.not_not, Int.not_lt, Int.not_le, gt_iff_lt, ge_iff_le] at h0
    simp at h0
  · skip
    refine WPC.skip ?_
    refine thenQ_n ?_
    refine WPC.seqR ?_
    refine stp ?_
    refine kall rfl (c_Sync hI.ji.ok (by have := hI.ji.pl; omega)) ?_
    rintro _ _ ⟨rfl, rfl⟩
    rw [hI.sync_eq]
    refine WPL.nil ?_
    refine WPC.seqR ?_
    iterate 2 refine stp ?_
    refine WPL.imp ((Imp.pk (Δ := [D, cells true b1 0 (stV s), cells true b2 0 (stV S), kpr b db jb K, jour jb db (KP.j K), disk db d, S.ents, S.dat, Sl.sl false a (ops.flatMap encKO), tblA])).trans (hDs.e _)) ?_
    refine WPL.imp ((Imp.pk (Δ := [D, s.ents, cells true b1 0 (stV s), cells true b2 0 (stV S), kpr b db jb K, jour jb db (KP.j K), disk db d, S.ents, S.dat, Sl.sl false a (ops.flatMap encKO), tblA])).trans (hDs.d _)) ?_
    refine WPL.imp ((Imp.pk (Δ := [D, s.dat, s.ents, cells true b1 0 (stV s), cells true b2 0 (stV S), kpr b db jb K, jour jb db (KP.j K), disk db d, S.ents, S.dat, Sl.sl false a (ops.flatMap encKO), tblA])).trans (hDp _)) ?_
    refine kall rfl (c_SaveI hI (by omega) (by omega) s hDs.ok) ?_
    rintro _ _ ⟨er, d2, K2, sl2, es2, rfl, hI2, hres, rfl⟩
    have hpl2 := hI2.ji.pl
    refine stp ?_
    refine WPL.nil ?_
    refine WPC.seq ?_
    refine WPC.seqR ?_
    iterate 2 refine stp ?_
    refine WPL.nil ?_
    refine WPC.prune [(2, _), (6, _), (7, _), (8, _), (10, _), (11, _), (33, _)] sbb ?_
    refine WPC.cond rfl (fun h1 => ?_) (fun h1 => ?_)
    · skip
      refine WPC.seqR ?_
      iterate 2 refine stp ?_
      refine WPL.nil ?_
      refine WPC.ret ?_
      refine thenQ_r ?_
      exact endR_r rfl (.tmp rfl .nil) Imp.pk ⟨rfl, rfl⟩
    · have h1 : er ≠ 0 := by simpa using h1
      obtain ⟨he, rfl, rfl, rfl⟩ : (er = 1 ∨ (er = 42 ∧ 12 < s.es.length)) ∧ d2 = d ∧ sl2 = sl ∧ es2 = es := by rcases hres with h | h; exact absurd h.1 h1; exact h
      have hp0 := hI2.pend0
      refine WPC.skip ?_
      refine thenQ_n ?_
      refine WPC.seqR ?_
      refine stp ?_
      refine kall rfl c_PendD ?_
      rintro _ _ ⟨rfl, rfl⟩
      rw [hp0]
      refine stp ?_
      refine WPL.nil ?_
      refine WPC.seqR ?_
      iterate 2 refine stp ?_
      rw [show Value.slice ps.a ps.n ps.c = .slice ps.a ps.xs.length ps.c by rw [hpn]]
      refine kall rfl (c_Crash hI2.ji.ok (by omega) hpo) ?_
      rintro _ _ ⟨rfl, rfl⟩
      refine WPL.nil ?_
      refine WPC.seqR ?_
      refine stp ?_
      refine kall rfl (c_OpenI hI2 (by omega) (by omega) ps.xs) ?_
      rintro _ _ ⟨b3, jb3, S3, d3, K3, rfl, hT1, hT2, hT3, hI3, rfl⟩
      iterate 4 refine stp ?_
      refine nw fun bt => ?_
      refine stp ?_
      refine sto ?_
      refine stp ?_
      refine WPL.nil ?_
      refine WPC.seqD mixed ?_
      have hlg : S3.lg = S.lg := ((congrArg KS.log hT2).trans (opened_log sl2 es2)).trans hL.lg.symm
      have hSn : S.n < 1000000000 := by
        have q1 := hI2.len
        have q2 := congrArg (fun z : LG => z.es.length) hL.lg
        simp only [SV.lg, List.length_map] at q2
        rw [← hL.ok.len]; omega
      have htm : S3.term = max S.term S.lg.lastTerm := by rw [hL.t, hL.lg]; exact (congrArg KS.term hT2).trans (opened_term sl2 es2)
      refine atP 0 rfl ?_
      refine atP 1 rfl ?_
      refine atL 2 rfl ?_
      refine atP 3 rfl ?_
      refine atP 4 rfl ?_
      refine atL 5 rfl ?_
      refine atP 6 rfl ?_
      refine atP 7 rfl ?_
      refine atL 8 rfl ?_
      refine atL 9 rfl ?_
      refine WPA.oneE 10 [(8, [_]), (5, [_]), (2, [_])] (by kernel_rfl) rfl rfl (by repeat (first | exact .nil | refine .anc rfl ?_ | refine .keep mm ?_)) (C1.call (c_call Tryd.func11 rfl rfl rfl) (c_doc S) pkk rfl ?_)
      rintro _ _ ⟨rfl, rfl⟩
      refine ⟨(.cons (Ent.mem mm) (.cons (Ent.mem mm) (.cons (Ent.mem mm) (.nil _)))), ?_⟩
      refine WPA.putS ?_
      refine WPA.takeP 11 rfl (q_fieldN (off := 2) (k := 3) (cs := stV S) (us := lgV S) (fieldB_of (by kernel_rfl)) rfl rfl) (by kernel_rfl) (by kernel_rfl) (by kernel_rfl) rfl rfl (.cons (Ent.mem mm) (.cons (Ent.mem mm) (.cons (Ent.mem mm) (.nil _)))) ?_
      refine WPA.putS ?_
      refine WPA.oneE 12 [] (by kernel_rfl) rfl rfl (by repeat (first | exact .nil | refine .anc rfl ?_ | refine .keep mm ?_)) (C1.call (c_call Tryd.func16 rfl rfl rfl) (c_Same09 S3 S hT1 hL.ok hT3) pkk rfl ?_)
      rintro _ _ ⟨rfl, rfl⟩
      rw [decide_eq_true hlg]
      refine ⟨(.nil _), ?_⟩
      refine WPA.putS ?_
      refine atP 13 rfl ?_
      refine WPA.done (by kernel_rfl) ?_
      refine WPC.seqD mixed ?_
      refine atP 0 rfl ?_
      refine atP 1 rfl ?_
      refine WPA.split 60 _ rfl (fun g13_1 => ?_) (fun g13_1 => ?_)
      · skip
        refine atPY 2 rfl rfl rfl ?_
        refine atPY 3 rfl rfl rfl ?_
        refine atP 4 rfl ?_
        refine atP 5 rfl ?_
        refine WPA.split 64 _ rfl (fun g13_5 => ?_) (fun g13_5 => ?_)
        · skip
          refine atPY 6 rfl rfl rfl ?_
          refine atPY 7 rfl rfl rfl ?_
          refine atPY 8 rfl rfl rfl ?_
          refine WPA.split 67 _ rfl (fun g13_8 => ?_) (fun g13_8 => ?_)
          · obtain rfl : er = 1 := by simpa using g13_8
            refine WPA.takeN 9 rfl rfl rfl rfl rfl (by kernel_rfl) (by kernel_rfl) (by kernel_rfl) rfl (.nil _) ?_
            refine WPA.putS ?_
            refine WPA.takeN 10 rfl rfl rfl rfl rfl (by kernel_rfl) (by kernel_rfl) (by kernel_rfl) rfl (.nil _) ?_
            refine WPA.putS ?_
            refine atPY 11 rfl rfl rfl ?_
            refine atP 12 rfl ?_
            refine atP 13 rfl ?_
            refine WPA.split 72 _ rfl (fun g13_13 => ?_) (fun g13_13 => ?_)
            · skip
              refine atPY 14 rfl rfl rfl ?_
              refine atPY 15 rfl rfl rfl ?_
              refine atP 16 rfl ?_
              refine atP 17 rfl ?_
              refine WPA.split 76 _ rfl (fun g13_17 => ?_) (fun g13_17 => ?_)
              · skip
                refine atPY 18 rfl rfl rfl ?_
                refine atP 19 rfl ?_
                refine atP 20 rfl ?_
                refine WPA.split 79 _ rfl (fun g13_20 => ?_) (fun g13_20 => ?_)
                · skip
                  refine atPY 21 rfl rfl rfl ?_
                  refine atLY 22 rfl rfl rfl ?_
                  refine atLY 23 rfl rfl rfl ?_
                  refine WPA.oneY 24 [(22, [_])] (by kernel_rfl) rfl rfl rfl rfl (by repeat (first | exact .nil | refine .anc rfl ?_ | refine .keep mm ?_)) (C1.call (c_call Tryd.func12 rfl rfl rfl) (c_term S hL.ok hSn) pkk rfl ?_)
                  rintro _ _ ⟨rfl, rfl⟩
                  rw [← htm]
                  refine ⟨(.cons (Ent.mem mm) (.nil _)), ?_⟩
                  refine WPA.putS ?_
                  refine atPY 25 rfl rfl rfl ?_
                  refine atP 26 rfl ?_
                  refine atP 27 rfl ?_
                  refine WPA.done (by kernel_rfl) ?_
                  refine WPC.ret ?_
                  exact endR_r rfl (.tmp rfl .nil) Imp.pk ⟨by simp only [packV]; simp, rfl⟩
                · skip
                  simp at g13_20
              · skip
                simp at g13_17
            · skip
              simp at g13_13
          · obtain rfl : er = 42 := by rcases he with h | h; (exfalso; simp [h] at g13_8); exact h.1
            refine atPY 9 rfl rfl rfl ?_
            refine atPY 10 rfl rfl rfl ?_
            refine atPY 11 rfl rfl rfl ?_
            refine atP 12 rfl ?_
            refine atP 13 rfl ?_
            refine WPA.split 72 _ rfl (fun g13_13 => ?_) (fun g13_13 => ?_)
            · skip
              refine atPY 14 rfl rfl rfl ?_
              refine atPY 15 rfl rfl rfl ?_
              refine atP 16 rfl ?_
              refine atP 17 rfl ?_
              refine WPA.split 76 _ rfl (fun g13_17 => ?_) (fun g13_17 => ?_)
              · skip
                refine atPY 18 rfl rfl rfl ?_
                refine atP 19 rfl ?_
                refine atP 20 rfl ?_
                refine WPA.split 79 _ rfl (fun g13_20 => ?_) (fun g13_20 => ?_)
                · skip
                  refine atPY 21 rfl rfl rfl ?_
                  refine atLY 22 rfl rfl rfl ?_
                  refine atLY 23 rfl rfl rfl ?_
                  refine WPA.oneY 24 [(22, [_])] (by kernel_rfl) rfl rfl rfl rfl (by repeat (first | exact .nil | refine .anc rfl ?_ | refine .keep mm ?_)) (C1.call (c_call Tryd.func12 rfl rfl rfl) (c_term S hL.ok hSn) pkk rfl ?_)
                  rintro _ _ ⟨rfl, rfl⟩
                  rw [← htm]
                  refine ⟨(.cons (Ent.mem mm) (.nil _)), ?_⟩
                  refine WPA.putS ?_
                  refine atPY 25 rfl rfl rfl ?_
                  refine atP 26 rfl ?_
                  refine atP 27 rfl ?_
                  refine WPA.done (by kernel_rfl) ?_
                  refine WPC.ret ?_
                  exact endR_r rfl (.tmp rfl .nil) Imp.pk ⟨by simp only [packV]; simp, rfl⟩
                · skip
                  simp at g13_20
              · skip
                simp at g13_17
            · skip
              simp at g13_13
        · skip
          simp at g13_5
      · skip
        simp at g13_1

end Go.Sl
