/- What is proved here serves the claim: the walk over the code and the plain laws, part 9 of 18. -/
import Derived.Test.YthngplknbbcecaaGreatDoorPkSnp8
import Derived.Laws.RangeAny
namespace Go.Aw
set_option linter.unusedVariables false
section
variable {P : Program}
theorem CallsAbs.freezeTo {f : FuncId} {args args' : List AV} {σ : Store} {K : AV → Store → Prop} (i : Nat) {sz : Nat × Nat} {rs : List (List AV)} {ds : List (List D)} (ho : σ.get i = .rows sz rs) (hds : rowsD rs = some ds) (hle : frzOkL i rs.length args)
  (he : frzL i ds args = args') (h : CallsAbs P f args' (σ.set i .dead) K) : CallsAbs P f args σ K := CallsAbs.freeze i ho hds hle (he ▸ h)
theorem frz_whole (i : Nat) (ds : List (List D)) (n : Nat) (h : n = ds.length) : frz i ds (.own i 0 n) = .d (.sl ds) := by
 subst h; simp [frz, frz1, Nat.beq_refl]
def idxB (c : UInt8) (s : List UInt8) : Int := firstIdx ⟨s.toArray⟩ c
theorem idxB_none {c : UInt8} {s : List UInt8} (h : c ∉ s) : idxB c s = -1 := by
 unfold idxB firstIdx
 have : (List.range (ByteArray.mk s.toArray).size).find? (fun i => (ByteArray.mk s.toArray)[i]! == c) = none := by
  rw [List.find?_eq_none]
  intro i hi
  have hi' : i < s.length := List.mem_range.1 hi
  have e : (ByteArray.mk s.toArray)[i]! = s[i] := by
   rw [getElem!_pos _ i (show i < s.length from hi')]; rfl
  rw [e]
  intro q
  exact h ((by simpa using q : s[i] = c) ▸ List.getElem_mem hi')
 rw [this]
theorem idxB_some {c : UInt8} {a b : List UInt8} (h : c ∉ a) : idxB c (a ++ c :: b) = a.length := by
 unfold idxB firstIdx
 have hlt : a.length < (a ++ c :: b).length := by simp
 have at_ : ∀ i (hi : i < (a ++ c :: b).length), (ByteArray.mk (a ++ c :: b).toArray)[i]! = (a ++ c :: b)[i] := fun i hi => by
  rw [getElem!_pos _ i (show i < (a ++ c :: b).length from hi)]; rfl
 have : (List.range (ByteArray.mk (a ++ c :: b).toArray).size).find? (fun i => (ByteArray.mk (a ++ c :: b).toArray)[i]! == c) = some a.length := by
  rw [List.find?_range_eq_some]
  refine ⟨?_, List.mem_range.2 hlt, fun j hj => ?_⟩
  ·rw [at_ _ hlt]; simp
  ·rw [at_ j (by omega), List.getElem_append_left hj]
   simp
   intro q
   exact h (q ▸ List.getElem_mem hj)
 rw [this]
theorem split_first {c : UInt8} : ∀ {s : List UInt8}, c ∈ s → ∃ a b, s = a ++ c :: b ∧ c ∉ a
 | x :: r, h => by
  by_cases e : x = c
  ·subst e; exact ⟨[], r, rfl, by simp⟩
  ·obtain ⟨a, b, rfl, h2⟩ := split_first (by simpa [Ne.symm e] using h : c ∈ r)
   exact ⟨x :: a, b, rfl, by simp [h2]; exact fun q => e q.symm⟩
theorem indexByte_abs {f : FuncId} {fn : Func} (hf : P.funcs[f]? = some fn) (hn : (fn.name == "runtime.NumGoroutine") = false) (hb : fn.body.isNone = true) (h1 : Extern.findNext fn = none) (h2 : Extern.find fn = some Extern.BytealgIndexByte.indexByte) (s : List UInt8) (c : UInt8) :
  PureC P f [.d (.str s), .d (.int .u8 c.toNat)] (.d (.int .i64 (idxB c s))) := fun σ => by
 refine .inr ⟨fn, _, hf, hn, hb, h1, h2, fun g w vs R hL => ?_⟩
 obtain ⟨v, r, rfl, q1, q2⟩ := hL.uncons
 obtain ⟨u, r', rfl, q3, q4⟩ := q2.uncons
 rw [q4.unnil]
 have e1 : v = .string ⟨s.toArray⟩ := by cases q1 with | d h => cases h; rfl
 have e2 : u = .int .u8 c.toNat := by cases q3 with | d h => cases h; rfl
 subst e1; subst e2
 rw [show [Value.string ⟨s.toArray⟩, Value.int .u8 c.toNat].toArray = #[Value.string ⟨s.toArray⟩, Value.int .u8 c.toNat] from rfl, run_indexByte_string]
 refine ⟨g, σ, .d (.int .i64 (idxB c s)), Ext.refl _ _ _, R, ?_, rfl, rfl⟩
 have : (((c.toNat : Nat) : Int).toNat.toUInt8) = c := by simp
 rw [this]
 exact .d (.int _ _)
theorem decode_lo (s : List UInt8) (k : Nat) (h : k < s.length) (ha : s[k].toNat < 128) : Utf8.decode ⟨s.toArray⟩ k = (s[k].toNat, 1) := by
 have := decode_ascii ⟨s.toArray⟩ k h ha
 exact this
theorem decode_hi (s : List UInt8) (k : Nat) (h : k < s.length) (ha : 128 ≤ s[k].toNat) : 128 ≤ (Utf8.decode ⟨s.toArray⟩ k).1 ∧ 1 ≤ (Utf8.decode ⟨s.toArray⟩ k).2 ∧ (Utf8.decode ⟨s.toArray⟩ k).1 ≤ 2147483647 := by
 have := decode_high ⟨s.toArray⟩ k h ha
 exact ⟨this.1, this.2, decode_le _ _⟩
theorem fin_out {σ : Store} {r : AV} (hr : r.pure = true) : FinMove ⟨0, []⟩ r σ r ⟨0, []⟩ := fin_mv [] (Nat.ble_eq_true_of_le (Nat.zero_le _)) rfl rfl trivial (vrel_self r hr)
theorem CallsAbs.to {f : FuncId} {args : List AV} {σ : Store} {K : AV → Store → Prop} (args' : List AV) (e : args = args') (h : CallsAbs P f args' σ K) : CallsAbs P f args σ K := e ▸ h
theorem tail_at (a b : List UInt8) : ((a ++ b).take (((a ++ b).length : Nat) : Int).toNat).drop ((a.length : Nat) : Int).toNat = b := by
 rw [Int.toNat_natCast, Int.toNat_natCast, List.take_length, List.drop_left]
theorem tail_of (a b t : List UInt8) (n m : Int) (ht : t = a ++ b) (hn : n = (a.length : Nat)) (hm : m = (t.length : Nat)) : b = (t.take m.toNat).drop n.toNat := by
 subst ht; subst hn; subst hm; exact (tail_at a b).symm
theorem fin_eq {σ0 σ : Store} {r r' : AV} (h : r = r') : FinMove σ0 r σ r' σ := h ▸ FinMove.refl σ0 r σ
end
end Go.Aw

