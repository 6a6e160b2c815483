import Derived.Test.YtcmkiancbgmmhaaStr
namespace Go.Proofs.Ytcmkiancbgmmhaa
open Go.Aw
set_option maxHeartbeats 1600000
set_option linter.unusedSimpArgs false
set_option linter.unusedVariables false

theorem _root_.Go.Aw.CallsAbs.use1 {P : Program} {f : FuncId} {args : List AV} {σ σ0 : Store} {r0 : AV} {K : AV → Store → Prop} (h : CallsAbs P f args σ fun r σ' => r = r0 ∧ σ' = σ0) (hK : K r0 σ0) : CallsAbs P f args σ K :=
  h.mono fun r σ' ⟨h1, h2⟩ => by subst h1; subst h2; exact hK

/-- Arguments told otherwise. -/
theorem _root_.Go.Aw.CallsAbs.vr {P : Program} {f : FuncId} {args args' : List AV} {σ : Store} {K : AV → Store → Prop} (hv : vrelL (phi 0 []) args' args) (h : CallsAbs P f args' σ K) : CallsAbs P f args σ K := by
  refine h.args fun g w vs R hL => ⟨g, Ext.refl g σ w, R, ?_⟩
  have e : ∀ i, phi 0 [] i = none := fun i => by simp [phi, Nat.ble, nthE]
  have t : Tr (phi 0 []) g g := ⟨fun i k h hk => absurd h (by rw [e]; simp), fun i sz h => absurd h (by rw [e]; simp), fun b h => h⟩
  exact hL.tr t hv

/-- Does each of a list stand ahead of the next one? -/
def risesB : List (List UInt8) → Bool
  | a :: b :: r => Op.bytesLess a b && risesB (b :: r)
  | _ => true
theorem risesB_snoc : ∀ (l : List (List UInt8)) (y x : List UInt8), risesB (l ++ [y] ++ [x]) = (risesB (l ++ [y]) && Op.bytesLess y x)
  | [], y, x => by simp [risesB]
  | [a], y, x => by simp [risesB]
  | a :: b :: r, y, x => by
    have ih := risesB_snoc (b :: r) y x
    simp only [List.cons_append, risesB] at ih ⊢
    rw [ih, Bool.and_assoc]
theorem risesB_pre : ∀ (a b : List (List UInt8)), risesB a = false → risesB (a ++ b) = false
  | [], b, h => by simp [risesB] at h
  | [x], b, h => by simp [risesB] at h
  | x :: y :: r, b, h => by
    simp only [risesB, List.cons_append, Bool.and_eq_false_iff] at h ⊢
    rcases h with h | h
    · exact .inl h
    · exact .inr (risesB_pre (y :: r) b h)
theorem risesB_step (l : List (List UInt8)) (k : Nat) (h : k < l.length) : risesB (l.take (k + 1)) = (risesB (l.take k) && (decide (k = 0) || Op.bytesLess (l[k - 1]'(by omega)) l[k])) := by
  cases k with
  | zero =>
    have : l.take (0 + 1) = [l[0]] := by rw [List.take_succ_eq_append_getElem h]; rfl
    rw [this]; rfl
  | succ j =>
    have hj : j < l.length := by omega
    rw [List.take_succ_eq_append_getElem h, List.take_succ_eq_append_getElem hj, risesB_snoc]
    simp
theorem strsD_getp (l : List (List UInt8)) (k : Nat) (h : k < l.length) : (strsD l)[((k : Nat) : Int).toNat - 1]? = some [.str (l[k - 1]'(by omega))] := by
  rw [Int.toNat_natCast]; simp [strsD, show k - 1 < l.length by omega]
theorem strsD_getm (l : List (List UInt8)) (k : Nat) (h : k < l.length) : (strsD l)[(((k : Nat) : Int) - 1).toNat]? = some [.str (l[k - 1]'(by omega))] := by
  rw [show (((k : Nat) : Int) - 1).toNat = k - 1 by omega]; simp [strsD, show k - 1 < l.length by omega]
theorem all_step {α : Type} (f : α → Bool) (l : List α) (k : Nat) (h : k < l.length) : (l.take (k + 1)).all f = ((l.take k).all f && f l[k]) := by
  rw [List.take_succ_eq_append_getElem h, List.all_append]; simp
theorem all_pre {α : Type} (f : α → Bool) (l : List α) (k : Nat) (h : (l.take k).all f = false) : l.all f = false := by
  rw [← List.take_append_drop k l, List.all_append, h]; rfl

theorem rowsD_snoc (rows : List (List D)) (r : List D) : rowsD (rows.map (fun r => r.map AV.d) ++ [r.map AV.d]) = some (rows ++ [r]) := by
  have := rowsD_d (rows ++ [r])
  rwa [List.map_append] at this
theorem rowsD_app (a b : List (List D)) : rowsD (a.map (fun r => r.map AV.d) ++ b.map (fun r => r.map AV.d)) = some (a ++ b) := by
  rw [← List.map_append]; exact rowsD_d _

theorem strsRowsW (l : List (List UInt8)) : ∀ row ∈ (strsD l).map (fun r => r.map AV.d), row.length = 1 ∧ ∀ a ∈ row, a.one = true := by
  intro row h
  obtain ⟨r, hr, rfl⟩ := List.mem_map.1 h
  unfold strsD at hr
  obtain ⟨x, _, rfl⟩ := List.mem_map.1 hr
  exact ⟨rfl, fun a ha => by rw [List.mem_singleton.1 ha]; rfl⟩
theorem strs_snoc (l : List (List UInt8)) (x : List UInt8) : strsD (l ++ [x]) = strsD l ++ [[.str x]] := by simp [strsD]

end Go.Proofs.Ytcmkiancbgmmhaa
