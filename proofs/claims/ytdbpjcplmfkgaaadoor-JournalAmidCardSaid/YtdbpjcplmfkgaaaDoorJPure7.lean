/- The chapter's examples, in the plain model. -/
import Derived.Test.YtdbpjcplmfkgaaaDoorJPure6
import Derived.Test.YtdbpjcplmfkgaaaDoorSlO
namespace Go.Sl
open Go
def ap (p : DK × JN) (b : List By) : DK × JN := ((jappend p.1 p.2 b).1, (jappend p.1 p.2 b).2.1)
def apE (p : DK × JN) (b : List By) : Int := (jappend p.1 p.2 b).2.2
def tp (p : DK × JN) (k : Int) : DK × JN := ((jtrim p.1 p.2 k).1, (jtrim p.1 p.2 k).2.1)
def tpE (p : DK × JN) (k : Int) : Int := (jtrim p.1 p.2 k).2.2
def cp (p : DK × JN) (k : Int) : DK × JN := ((jcut p.1 p.2 k).1, (jcut p.1 p.2 k).2.1)
def cpE (p : DK × JN) (k : Int) : Int := (jcut p.1 p.2 k).2.2
def toP (x : DK × Option JN × Int) : DK × JN := (x.1, x.2.1.getD (JN.fresh 1 4))
def a0 : DK × JN := toP (jopen0 (DK.new 20) 1 4)
def xA : DK × JN := ap (ap a0 [97]) [98]
def xB : DK × JN := (xA.1.sync, xA.2)
def xC : DK × JN := ap xB [99]
def xO : DK × Option JN × Int := jopen0 (xC.1.crash []) 1 4
def yC : DK × JN := ap xA [99]
def yO : DK × Option JN × Int := jopen0 (yC.1.crash [0, 64, 64]) 1 4
def zA : DK × JN := ap yC [100]
def zC : DK × JN := tp (ap zA [101]) 1
def wC : DK × JN := cp yC 2
def txt (j : JN) : ByteArray := (j.held.map (·.2)).foldl (fun s b => s ++ strOf b) .empty
theorem xO_held : xO.2.1.map (fun j => j.held.map (·.2)) = some [[97], [98]] := by decide +kernel
theorem yO_held : yO.2.1.map (fun j => j.held.map (·.2)) = some [] := by decide +kernel
theorem z_err : apE zA [101] = 42 ∧ tpE (ap zA [101]) 1 = 0 ∧ apE zC [101] = 0 := by decide +kernel
theorem z_held : (ap zC [101]).2.held.map (·.2) = [[98], [99], [100], [101]] := by decide +kernel
theorem w_err : cpE yC 2 = 0 := by decide +kernel
theorem w_held : (ap wC [100]).2.held.map (·.2) = [[97], [100]] := by decide +kernel
theorem txt_size (l : List (List By)) : ∀ s : ByteArray, (l.foldl (fun s b => s ++ strOf b) s).size = s.size + (l.map List.length).sum := by
  induction l with
  | nil => intro s; simp
  | cons x l ih => intro s; rw [List.foldl_cons, ih, ByteArray.size_append, strOf_size]; simp; omega
theorem txt_bound : ∀ (l : List (List By)) (s : ByteArray), (∀ x ∈ l, x.length ≤ 1000) → (l.foldl (fun s b => s ++ strOf b) s).size ≤ s.size + l.length * 1000
  | [], s, _ => by simp
  | x :: l, s, h => by
    rw [List.foldl_cons]
    refine Nat.le_trans (txt_bound l _ fun y hy => h y (List.mem_cons_of_mem _ hy)) ?_
    have := h x (List.mem_cons_self ..)
    rw [ByteArray.size_append, strOf_size, List.length_cons]; omega
theorem txt_eq {j : JN} {l : List (List By)} (h : j.held.map (·.2) = l) : txt j = l.foldl (fun s b => s ++ strOf b) .empty := by unfold txt; rw [h]
theorem a0_eq {d : DK} {j : JN} (h : jopen0 (DK.new 20) 1 4 = (d, some j, 0)) : a0 = (d, j) := by unfold a0 toP; rw [h]; rfl
theorem a0_inv : Inv 4 1 a0.1 a0.2 := by
  obtain ⟨d, j, h, hI⟩ := Inv.new (n := 4) (by omega)
  rw [a0_eq h]; exact hI
theorem ap_inv {p : DK × JN} {T : Nat} (h : Inv 4 T p.1 p.2) (hT : T + 1 ≤ 1000) (b : List By) : Inv 4 (T + 1) (ap p b).1 (ap p b).2 := h.append hT b
theorem xA_inv : Inv 4 3 xA.1 xA.2 := ap_inv (ap_inv a0_inv (by omega) _) (by omega) _
theorem xB_inv : Inv 4 4 xB.1 xB.2 := xA_inv.sync (by omega)
theorem xC_inv : Inv 4 5 xC.1 xC.2 := ap_inv xB_inv (by omega) _
theorem xO_inv : ∃ d j, jopen0 (xC.1.crash []) 1 4 = (d, some j, 0) ∧ Inv 4 6 d j ∧ j.held.map (·.2) = [[97], [98]] := by
  obtain ⟨d, j, h, hI⟩ := xC_inv.crash (by omega) []
  have h2 := xO_held
  have h3 : xO = (d, some j, 0) := h
  rw [h3] at h2
  exact ⟨d, j, h3, hI, by simpa using h2⟩
theorem yC_inv : Inv 4 4 yC.1 yC.2 := ap_inv xA_inv (by omega) _
theorem yO_inv : ∃ d j, jopen0 (yC.1.crash [0, 64, 64]) 1 4 = (d, some j, 0) ∧ Inv 4 5 d j ∧ j.held = [] := by
  obtain ⟨d, j, h, hI⟩ := yC_inv.crash (by omega) [0, 64, 64]
  have h2 := yO_held
  have h3 : yO = (d, some j, 0) := h
  rw [h3] at h2
  exact ⟨d, j, h3, hI, by simpa using h2⟩
theorem zA_inv : Inv 4 5 zA.1 zA.2 := ap_inv yC_inv (by omega) _
theorem zB_inv : Inv 4 6 (ap zA [101]).1 (ap zA [101]).2 := ap_inv zA_inv (by omega) _
theorem tp_inv {p : DK × JN} {T : Nat} (h : Inv 4 T p.1 p.2) (hT : T + 1 ≤ 1000) (k : Int) : Inv 4 (T + 1) (tp p k).1 (tp p k).2 := h.trim hT k
theorem cp_inv {p : DK × JN} {T : Nat} (h : Inv 4 T p.1 p.2) (hT : T + 1 ≤ 1000) (k : Int) : Inv 4 (T + 1) (cp p k).1 (cp p k).2 := h.cut hT k
theorem zC_inv : Inv 4 7 zC.1 zC.2 := tp_inv zB_inv (by omega) 1
theorem zD_inv : Inv 4 8 (ap zC [101]).1 (ap zC [101]).2 := ap_inv zC_inv (by omega) _
theorem wC_inv : Inv 4 5 wC.1 wC.2 := cp_inv yC_inv (by omega) 2
def yN : Nat → DK × JN
  | 0 => a0
  | k + 1 => ap (yN k) [by_ (97 + k)]
theorem yN_inv : ∀ k, k ≤ 100 → Inv 4 (k + 1) (yN k).1 (yN k).2
  | 0, _ => a0_inv
  | k + 1, h => ap_inv (yN_inv k (by omega)) (by omega) _
theorem yN_three : yN 3 = yC := rfl
theorem yN_four : yN 4 = zA := rfl
theorem e_xA : ap (ap a0 [97]) [98] = xA := rfl
theorem e_xB : (xA.1.sync, xA.2) = xB := rfl
theorem e_xC : ap xB [99] = xC := rfl
theorem e_yN (k : Nat) : ap (yN k) [by_ (97 + k)] = yN (k + 1) := rfl
theorem yN_zero : yN 0 = a0 := rfl
theorem e_zC : tp (ap zA [101]) 1 = zC := rfl
theorem e_wC : cp yC 2 = wC := rfl
theorem txt_ab {j : JN} (h : j.held.map (·.2) = [[97], [98]]) : ((txt j).toList == (ByteArray.mk #[97, 98]).toList) = true := by rw [txt_eq h]; decide +kernel
theorem txt_z : ((txt (ap zC [101]).2).toList == (ByteArray.mk #[98, 99, 100, 101]).toList) = true := by rw [txt_eq z_held]; decide +kernel
theorem txt_w : ((txt (ap wC [100]).2).toList == (ByteArray.mk #[97, 100]).toList) = true := by rw [txt_eq w_held]; decide +kernel
theorem wD_inv : Inv 4 6 (ap wC [100]).1 (ap wC [100]).2 := ap_inv wC_inv (by omega) _
end Go.Sl
