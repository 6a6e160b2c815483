import Derived.Test.YtofnkpglgdfaeaaAwake
import Derived.Test.YtofnkpglgdfaeaaMsgI
namespace Go.Proofs.Ytofnkpglgdfaeaa
open Go.Aw
set_option maxHeartbeats 1600000
set_option linter.unusedSimpArgs false
set_option linter.unusedVariables false

/-- An operation on a box. -/
structure OpS where
  d : Int
  n : Int
  m : Msg
def opD (o : OpS) : List D := .int .i64 o.d :: .int .i64 o.n :: msgD o.m
def opsD (l : List OpS) : List (List D) := l.map opD
theorem opsD_len (l : List OpS) : (opsD l).length = l.length := by simp [opsD]
theorem opsD_get (l : List OpS) (k : Nat) (h : k < l.length) : (opsD l)[((k : Nat) : Int).toNat]? = some (opD l[k]) := by
  rw [Int.toNat_natCast]; simp [opsD, h]
theorem agg_ops : isAggB Try.prog 22 = false := by kernel_rfl
theorem arg_ops (r : List (List D)) : argAV Try.prog 22 [.sl r] = .d (.sl r) := by rw [argAV, agg_ops]; rfl
theorem cells_op : Try.prog.cellsOf 37 = 17 := by kernel_rfl
theorem len17 {α : Type} {l : List α} (h : l.length = 17) : ∃ y1 y2 y3 y4 y5 y6 y7 y8 y9 y10 y11 y12 y13 y14 y15 y16 y17, l = [y1, y2, y3, y4, y5, y6, y7, y8, y9, y10, y11, y12, y13, y14, y15, y16, y17] := by
  match l, h with
  | [y1, y2, y3, y4, y5, y6, y7, y8, y9, y10, y11, y12, y13, y14, y15, y16, y17], _ => exact ⟨y1, y2, y3, y4, y5, y6, y7, y8, y9, y10, y11, y12, y13, y14, y15, y16, y17, rfl⟩
theorem dok_op {n : Nat} {row : List D} (h : DOk Try.prog n 37 row) : ∃ x : OpS, row = opD x := by
  cases n with
  | zero => exact h.elim
  | succ n =>
    simp only [DOk, Try.underlying37] at h
    obtain ⟨hl, hf⟩ := h
    rw [cells_op] at hl
    obtain ⟨y1, y2, y3, y4, y5, y6, y7, y8, y9, y10, y11, y12, y13, y14, y15, y16, y17, rfl⟩ := len17 hl
    have f1 := hf _ (List.mem_cons_self ..)
    have f2 := hf _ (List.mem_cons_of_mem _ (List.mem_cons_self ..))
    have f3 := hf _ (List.mem_cons_of_mem _ (List.mem_cons_of_mem _ (List.mem_cons_self ..)))
    simp only [cells_int0, cells_msg] at f1 f2 f3
    obtain ⟨x1, e1, _⟩ := dok_int f1
    obtain ⟨x2, e2, _⟩ := dok_int f2
    obtain ⟨x3, e3⟩ := dok_msg f3
    simp at e1 e2 e3
    subst e1; subst e2
    exact ⟨⟨x1, x2, x3⟩, by unfold opD; rw [← e3]⟩
theorem dok_ops {n : Nat} {row : List D} (h : DOk Try.prog n 22 row) : ∃ l : List OpS, row = [.sl (opsD l)] := by
  cases n with
  | zero => exact h.elim
  | succ n =>
    simp only [DOk, Try.underlying22] at h
    obtain ⟨rows, rfl, hbb, h2⟩ := h
    have : ∃ l : List OpS, rows = opsD l := by
      clear hbb
      induction rows with
      | nil => exact ⟨[], rfl⟩
      | cons r rs ih =>
        obtain ⟨a, rfl⟩ := dok_op (h2 r (by simp))
        obtain ⟨l, rfl⟩ := ih (fun q hq => h2 q (by simp [hq]))
        exact ⟨a :: l, rfl⟩
    obtain ⟨l, rfl⟩ := this
    exact ⟨l, rfl⟩

structure Inv (i : Nat) (L : List Msg) : Prop where
  to : ToOk L
  most : ∀ j, cnt L j ≤ 16
  fits : ∀ m ∈ L, FitsM m
  len : L.length ≤ i
theorem inv_nil : Inv 0 [] := ⟨toOk_nil, fun _ => Nat.zero_le _, fun m h => (by cases h), Nat.le_refl _⟩
theorem inv_up {i : Nat} {L : List Msg} (h : Inv i L) : Inv (i + 1) L := ⟨h.to, h.most, h.fits, Nat.le_succ_of_le h.len⟩
theorem inv_put {i : Nat} {L : List Msg} {m : Msg} (h : Inv i L) (hm : FitsM m) (hp : putE L m = 0) : Inv (i + 1) (L ++ [m]) := by
  unfold putE at hp
  by_cases hr : mRightB m = true
  · rw [if_pos hr] at hp
    by_cases hf : 16 ≤ cnt L m.to
    · rw [if_pos hf] at hp; exact absurd hp (by decide)
    · refine ⟨toOk_snoc h.to (head_to hr), fun j => ?_, fits_snoc h.fits hm, by rw [List.length_append, List.length_singleton]; exact Nat.succ_le_succ h.len⟩
      rw [cnt_snoc]
      have := h.most j
      split
      · rename_i e; subst e; omega
      · omega
  · rw [if_neg hr] at hp; exact absurd hp (by decide)
theorem cnt_sub {a b : List Msg} (h : a.Sublist b) (j : Int) : cnt a j ≤ cnt b j := by
  induction h with
  | slnil => exact Nat.le_refl _
  | cons x _ ih => rw [cnt]; omega
  | cons_cons x _ ih => rw [cnt, cnt]; omega
theorem less_sub (L : List Msg) (k : Nat) : (lessL L k).Sublist L := by
  unfold lessL
  rw [← List.eraseIdx_eq_take_drop_succ]
  exact List.eraseIdx_sublist ..
theorem inv_less {i : Nat} {L : List Msg} (h : Inv i L) (k : Nat) : Inv (i + 1) (lessL L k) :=
  ⟨fun m hm => h.to m ((less_sub L k).subset hm), fun j => Nat.le_trans (cnt_sub (less_sub L k) j) (h.most j), fun m hm => h.fits m ((less_sub L k).subset hm), Nat.le_trans (less_sub L k).length_le (Nat.le_succ_of_le h.len)⟩
theorem less_last (L : List Msg) (k : Nat) (h : k + 1 = L.length) : lessL L k = L.take k := by
  unfold lessL; rw [List.drop_eq_nil_of_le (by omega), List.append_nil]

theorem zeroM_fits : FitsM zeroMsg := ⟨fitsL_nil, ⟨by simp [zeroMsg], by simp [zeroMsg]⟩, zero_fits⟩
theorem share {I GO GD : List Msg → Prop} {M : Prop} (main : (∀ L, I L → GO L) → (∀ L, I L → GD L) → M) (tO : ∀ L, I L → GO L) (tD : ∀ L, I L → GD L) : M := main tO tD
def opO (o : OpS) : Ob := .rows (17, 37) [(opD o).map .d]
theorem opO_rel {f : Nat → Option VE} (o : OpS) : orel f (opO o) (opO o) := ⟨rfl, .inl ⟨rfl, onePure _⟩⟩
def sO (L : List Msg) : Store := ⟨3, [(2, msgsO L), (1, cellR L), (0, cellO (.own 2 0 L.length))]⟩
def sD (L : List Msg) : Store := ⟨2, [(1, cellR L), (0, cellO (.dt (msgsD L)))]⟩

end Go.Proofs.Ytofnkpglgdfaeaa
