/- The abstract walk, ninth part: functions, loops, what may be forgotten, what may be frozen, how a contract is used. -/
import Derived.Test.YtcmkiancbgmmhaaAw8
namespace Go.Aw
set_option linter.unusedVariables false
set_option linter.unusedSimpArgs false

def ares (T : List TI) (σ : Store) (s : St) : List ResultVar → (List AV → Prop) → Prop
  | [], K => K []
  | .tmp t :: r, K => ares T σ s r fun l => K (nrm (look .top s t) :: l)
  | .cell a t :: r, K => aload T σ t (look .top s a) fun v => ares T σ s r fun l => K (nrm v :: l)
def oneOf : List AV → AV
  | [v] => v
  | l => .tup l
def aret (T : List TI) (fn : Func) (R : AV → Store → Prop) : Exit → St → Store → Prop
  | .normal, s, σ => ares T σ s fn.results.toList fun l => R (oneOf l) σ
  | .ret, s, σ => ares T σ s fn.results.toList fun l => R (oneOf l) σ
  | _, _, _ => False
def initS : Nat → List AV → St
  | _, [] => []
  | k, a :: r => (k, a) :: initS (k + 1) r

section
variable {P : Program} {N B : Nat}

theorem init_rep {g : Ghost} {w : World} : ∀ (args : List AV) (vs : List Value) (k t : Nat), RepL g w args vs → k ≤ t → RepA g w (look .top (initS k args) t) (vs.getD (t - k) undef) ∨ look .top (initS k args) t = .top
  | [], vs, k, t, h, _ => .inr rfl
  | a :: args, vs, k, t, h, hk => by
    obtain ⟨v, r, rfl, ha, hr⟩ := h.uncons
    simp only [initS, look_cons]
    by_cases hkt : k = t
    · subst hkt; rw [if_pos rfl]; left; simpa using ha
    · rw [if_neg hkt]
      have := init_rep args r (k + 1) t hr (by omega)
      rw [show t - k = (t - (k + 1)) + 1 by omega]
      simpa using this

def resOne (tmps : Array Value) : ResultVar → Sem Value
  | .tmp t => pure (tmps.getD t undef)
  | .cell a t => do loadVar t (← asAddr (tmps.getD a undef))
theorem results_eq (fn : Func) (tmps : Array Value) : results fn tmps = (do let vs ← fn.results.mapM (resOne tmps); pure (if h : vs.size = 1 then vs[0] else .tuple vs)) := rfl

theorem results_run {g : Ghost} {σ : Store} {w : World} {s : St} {a : Act} (hT : RelT N g w s a) (R : StoreRel P g σ w) : ∀ (rs : List ResultVar) (K : List AV → Prop), ares (tabOf P) σ s rs K →
    ∃ vs l, (rs.mapM (resOne a.tmps)).run P w = .ok vs w ∧ RepL g w l vs ∧ K l
  | [], K, h => ⟨[], [], by simp, .nil, h⟩
  | .tmp t :: rs, K, h => by
    obtain ⟨vs, l, h1, h2, h3⟩ := results_run hT R rs _ h
    exact ⟨a.tmps.getD t undef :: vs, _, by simp [List.mapM_cons, resOne, h1], RepL.cons (nrm_ok (hT.rep t)) h2, h3⟩
  | .cell p t :: rs, K, h => by
    obtain ⟨u, r, hu, hr, hK⟩ := load_sound (P := P) h R (hT.rep p)
    obtain ⟨vs, l, h1, h2, h3⟩ := results_run hT R rs _ hK
    refine ⟨u :: vs, _, ?_, RepL.cons (nrm_ok hr) h2, h3⟩
    have : (resOne a.tmps (.cell p t)).run P w = .ok u w := by
      simp only [Instr.loadAt, resOne, Sem.run_bind] at hu ⊢
      cases hv : a.tmps.getD p undef with
      | pointer q => cases q with
        | none => rw [hv] at hu; simp [Instr.sureAddr] at hu
        | some q => rw [hv] at hu; simpa [Instr.sureAddr, asAddr] using hu
      | _ => rw [hv] at hu; simp [Instr.sureAddr] at hu
    simp only [List.mapM_cons, Sem.run_bind, this, Result.andThen, h1]
    rfl

/-- A FUNCTION, walked. -/
theorem fn_okE (hw : wfP P = true) {f : FuncId} {fn : Func} {c : Code} {args : List AV} {σ : Store} {R : AV → Store → Prop} (hf : P.funcs[f]? = some fn) (hn : (fn.name == "runtime.NumGoroutine") = false) (hb : fn.body = some c) (hN : args.length ≤ fn.ntmps)
    (h : E P fn.ntmps σ.n c (aret (tabOf P) fn R) (initS 0 args) σ) : Enters P f args σ R := by
  refine ⟨⟨fn, hf, hn, by rw [hb]; rfl⟩, fun g w vs hS hL => ?_⟩
  have hT : RelT fn.ntmps g w (initS 0 args) { tmps := vs.toArray ++ Array.replicate (fn.ntmps - vs.toArray.size) undef, defers := [] } := by
    refine ⟨by simp; have := hL.len; omega, rfl, fun t => ?_⟩
    rcases init_rep args vs 0 t hL (Nat.zero_le _) with h | h
    · by_cases ht : t < vs.length
      · rw [Array.getD_eq_getD_getElem?, Array.getElem?_append_left (by simpa using ht)]
        simpa using h
      · have : look .top (initS 0 args) t = .top ∨ True := .inr trivial
        rw [Nat.sub_zero, List.getD_eq_getElem?_getD, List.getElem?_eq_none (by omega)] at h
        have e : (vs.toArray ++ Array.replicate (fn.ntmps - vs.toArray.size) undef).getD t undef = undef := by
          rw [Array.getD_eq_getD_getElem?, Array.getElem?_append_right (by simp; omega)]
          simp only [Array.getElem?_replicate]
          split <;> rfl
        rw [e]; exact h
    · rw [h]; exact .top _
  refine calls_of_wp hf hb (wp_mono (h g _ w (by rw [hS.n]; exact Nat.le_refl _) hT hS) fun e a' w' ⟨s', σ', g', h1, h2, h3, h4⟩ => ?_)
  rw [hS.n] at h3
  replace h3 := h3.toExt hS
  have key : ares (tabOf P) σ' s' fn.results.toList (fun l => R (oneOf l) σ') → a'.defers = [] ∧ ∃ v, (results fn a'.tmps).run P w' = .ok v w' ∧ ∃ v' g2 σ2 r, Ending.returned v = .returned v' ∧ Ext g σ w g2 σ2 w' ∧ StoreRel P g2 σ2 w' ∧ RepA g2 w' r v' ∧ R r σ2 := by
    intro hr
    obtain ⟨vs', l, q1, q2, q3⟩ := results_run h2 h4 _ _ hr
    refine ⟨h2.defers, (if hh : vs'.toArray.size = 1 then vs'.toArray[0] else .tuple vs'.toArray), ?_, _, g', σ', oneOf l, rfl, h3, h4, ?_, q3⟩
    · have : (fn.results.mapM (resOne a'.tmps)).run P w' = .ok vs'.toArray w' := by
        rw [Array.mapM_eq_mapM_toList]
        simp only [Sem.run_map, q1, Result.andThen]
      rw [results_eq]
      simp only [Sem.run_bind, this, Result.andThen]
      rfl
    · have hlen := q2.len
      match l, vs', q2, hlen with
      | [], [], q2, _ => simpa [oneOf] using repL_tup (cs := #[]) q2
      | [x], [v], q2, _ =>
        obtain ⟨v2, r2, e2, hx, _⟩ := q2.uncons
        cases e2
        simpa [oneOf] using hx
      | x :: y :: l, v :: u :: vs, q2, _ =>
        have := repL_tup (cs := (v :: u :: vs).toArray) (by simpa using q2)
        simpa [oneOf] using this
  cases e with
  | normal => exact key h1
  | ret => exact key h1
  | _ => exact h1.elim

theorem fn_ok (hw : wfP P = true) {f : FuncId} {fn : Func} {c : Code} {args : List AV} {σ : Store} {R : AV → Store → Prop} (hf : P.funcs[f]? = some fn) (hn : (fn.name == "runtime.NumGoroutine") = false) (hb : fn.body = some c) (hN : args.length ≤ fn.ntmps)
    (h : awp (tabOf P) P fn.ntmps σ.n c (aret (tabOf P) fn R) (initS 0 args) σ) : Enters P f args σ R := fn_okE hw hf hn hb hN (awp_sound hw c _ _ _ h)

end
end Go.Aw
