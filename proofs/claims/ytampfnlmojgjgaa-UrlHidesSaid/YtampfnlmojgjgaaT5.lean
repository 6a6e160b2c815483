import Derived.Test.YtampfnlmojgjgaaT4
namespace Go.Proofs.Ytampfnlmojgjgaa
open Go.Aw

def letter (c : UInt8) : Bool := decide (97 ≤ c.toNat) && decide (c.toNat ≤ 122)
def tailc (c : UInt8) : Bool := (decide (48 ≤ c.toNat) && decide (c.toNat ≤ 57)) || decide (c.toNat = 43) || decide (c.toNat = 45) || decide (c.toNat = 46)
def scan (acc : List UInt8) : List UInt8 → Option (List UInt8)
  | [] => none
  | c :: r => if letter c then scan (acc ++ [c]) r else if acc = [] then none else if c.toNat = 58 then some acc else if tailc c then scan (acc ++ [c]) r else none
def schemeO (s : List UInt8) : Option (List UInt8) := scan [] (lower (bare s))
def schemeS (s : List UInt8) : List UInt8 := (schemeO s).getD []
def schemeB (s : List UInt8) : Bool := (schemeO s).isSome

theorem bare_len (s : List UInt8) : (bare s).length ≤ s.length := by
  have h1 : (trimL s).length ≤ s.length := (List.dropWhile_suffix _).length_le
  have h2 : (trimR (trimL s)).length ≤ (trimL s).length := by
    unfold trimR
    rw [List.length_reverse]
    exact Nat.le_trans (List.dropWhile_suffix _).length_le (by simp)
  exact Nat.le_trans (List.length_filter_le _ _) (Nat.le_trans h2 h1)
theorem lower_len (s : List UInt8) : (lower s).length = s.length := by simp [lower]

/-- What the scan does at a place. -/
theorem scan_at (b : List UInt8) (k : Nat) (h : k < b.length) : scan (b.take k) (b.drop k) =
    if letter b[k] then scan (b.take (k + 1)) (b.drop (k + 1)) else if k = 0 then none else if b[k].toNat = 58 then some (b.take k) else if tailc b[k] then scan (b.take (k + 1)) (b.drop (k + 1)) else none := by
  rw [List.drop_eq_getElem_cons h, scan, ← List.take_succ_eq_append_getElem h]
  have : b.take k = [] ↔ k = 0 := by
    rw [List.take_eq_nil_iff]
    constructor
    · rintro (h | h)
      · exact h
      · subst h; simp at h
    · exact .inl
  simp only [this]
theorem scan_end (b : List UInt8) : scan (b.take b.length) (b.drop b.length) = none := by
  rw [List.drop_length]; rfl

def schemeV (s : List UInt8) : AV := .tup [.d (.str (schemeS s)), .d (.bool (schemeB s))]
theorem schemeV_none {s : List UInt8} (h : schemeO s = none) : schemeV s = .tup [.d (.str []), .d (.bool false)] := by simp [schemeV, schemeS, schemeB, h]
theorem schemeV_some {s x : List UInt8} (h : schemeO s = some x) : schemeV s = .tup [.d (.str x), .d (.bool true)] := by simp [schemeV, schemeS, schemeB, h]

set_option maxRecDepth 10000 in
theorem Scheme_ok (s : List UInt8) (hs : s.length ≤ 140737488355328) : PureC Try.prog 10 [.d (.str s)] (schemeV s) := by
  refine pure_okT Try.wf Try.tab_ok Try.func10 (by decide +kernel) rfl rfl rfl rfl ?_
  refine PureC.use (Bare_ok s (by omega) hs) (PureC.use (Lower_ok (bare s) (by have := bare_len s; omega)) ?_)
  generalize hb : lower (bare s) = b
  have hO : schemeO s = scan [] b := by rw [schemeO, hb]
  have hbl : b.length ≤ 140737488355328 := by rw [← hb, lower_len]; have := bare_len s; omega
  refine loopT Try.wf Try.tab_ok (fun n s' σ => ∃ k : Nat, n = b.length - k ∧ k ≤ b.length ∧ schemeO s = scan (b.take k) (b.drop k) ∧ s' = [(4, .d (.str b)), (11, .d (.int .i64 b.length)), (12, .d (.int .i64 k))] ∧ σ = ⟨0, []⟩)
    ⟨0, rfl, Nat.zero_le _, hO, rfl, rfl⟩ (Mv.of [] rfl rfl rfl trivial ⟨rfl, rfl, rfl, trivial⟩) ?_
  rintro _ _ _ ⟨k, rfl, hk, hI, rfl, rfl⟩
  have no : schemeO s = none → ∃ r2 σ2, FinMove ⟨0, []⟩ (.tup [.d (.str []), .d (.bool false)]) ⟨0, []⟩ r2 σ2 ∧ r2 = schemeV s := fun h => ⟨_, _, FinMove.refl _ _ _, (schemeV_none h).symm⟩
  refine ⟨fun h => ?_, fun h => ?_⟩
  · have hlt : k < b.length := by have := of_decide_eq_true h; omega
    have hg := getD_at b k hlt
    have hu := b[k].toNat_lt
    rw [scan_at b k hlt] at hI
    have go : schemeO s = scan (b.take (k + 1)) (b.drop (k + 1)) → (∃ k' : Nat, b.length - (k + 1) = b.length - k' ∧ k' ≤ b.length ∧ schemeO s = scan (b.take k') (b.drop k') ∧ [(4, .d (.str b)), (11, .d (.int .i64 b.length)), (12, .d (.int .i64 ((k + 1 : Nat) : Int)))] = [(4, AV.d (.str b)), (11, .d (.int .i64 b.length)), (12, .d (.int .i64 k'))] ∧ (⟨0, []⟩ : Store) = ⟨0, []⟩) :=
      fun h => ⟨k + 1, rfl, hlt, h, rfl, rfl⟩
    -- behind the test for a letter
    have rest : letter b[k] = false → schemeO s = if k = 0 then none else if b[k].toNat = 58 then some (b.take k) else if tailc b[k] then scan (b.take (k + 1)) (b.drop (k + 1)) else none := fun hle => by rw [hI]; simp [hle]
    have hT : ∀ {p : Int → Prop} [DecidablePred p], decide (p ((b.getD ((k : Nat) : Int).toNat 0).toNat : Int)) = true → p (b[k].toNat : Int) := fun {p} _ h => by rw [hg] at h; exact of_decide_eq_true h
    have hF : ∀ {p : Int → Prop} [DecidablePred p], decide (p ((b.getD ((k : Nat) : Int).toNat 0).toNat : Int)) = false → ¬ p (b[k].toNat : Int) := fun {p} _ h => by rw [hg] at h; exact of_decide_eq_false h
    refine ⟨⟨by omega, by omega⟩, ⟨fun h1 => ⟨fun h2 => ?_, fun h2 => ?_⟩, fun h1 => ?_⟩⟩
    · have h1' := hT (p := fun x => 97 ≤ x) h1
      have h2' := hT (p := fun x => x ≤ 122) h2
      have hle : letter b[k] = true := by simp [letter]; omega
      rw [if_pos hle] at hI
      exact .inl ⟨⟨by omega, by omega⟩, _, _, _, go hI, by omega, Mv.of [] rfl rfl rfl trivial ⟨rfl, rfl, rfl, trivial⟩⟩
    all_goals
      have hr := rest (by first | (have := hT (p := fun x => 97 ≤ x) h1; have := hF (p := fun x => x ≤ 122) h2; simp [letter]; omega) | (have := hF (p := fun x => 97 ≤ x) h1; simp [letter]; omega))
      refine ⟨fun h0 => ?_, fun h0 => ?_⟩
      · have h0' := of_decide_eq_true h0
        exact no (by rw [hr, if_pos (by omega)])
      · have h0' := of_decide_eq_false h0
        rw [if_neg (by omega)] at hr
        refine ⟨fun h58 => ?_, fun h58 => ?_⟩
        · have h58' := hT (p := fun x => x = 58) h58
          rw [if_pos (by omega)] at hr
          exact ⟨⟨by omega, by omega, by omega⟩, _, _, FinMove.refl _ _ _, (schemeV_some hr).symm⟩
        · have h58' := hF (p := fun x => x = 58) h58
          rw [if_neg (by omega)] at hr
          refine ⟨fun h48 => ⟨fun h57 => ⟨fun h43 => ⟨fun h45 => ⟨fun h46 => ?_, fun h46 => ?_⟩, fun h45 => ?_⟩, fun h43 => ?_⟩, fun h57 => ?_⟩, fun h48 => ⟨fun h43 => ⟨fun h45 => ⟨fun h46 => ?_, fun h46 => ?_⟩, fun h45 => ?_⟩, fun h43 => ?_⟩⟩
          · have := hT (p := fun x => x = 46) h46
            exact .inl ⟨⟨by omega, by omega⟩, _, _, _, go (by rw [hr, if_pos (by simp [tailc]; omega)]), by omega, Mv.of [] rfl rfl rfl trivial ⟨rfl, rfl, rfl, trivial⟩⟩
          · have := hF (p := fun x => x = 46) h46; have := hF (p := fun x => x = 45) h45; have := hF (p := fun x => x = 43) h43; have := hF (p := fun x => x ≤ 57) h57
            exact no (by rw [hr, if_neg (by simp [tailc]; omega)])
          · have := hT (p := fun x => x = 45) h45
            exact .inl ⟨⟨by omega, by omega⟩, _, _, _, go (by rw [hr, if_pos (by simp [tailc]; omega)]), by omega, Mv.of [] rfl rfl rfl trivial ⟨rfl, rfl, rfl, trivial⟩⟩
          · have := hT (p := fun x => x = 43) h43
            exact .inl ⟨⟨by omega, by omega⟩, _, _, _, go (by rw [hr, if_pos (by simp [tailc]; omega)]), by omega, Mv.of [] rfl rfl rfl trivial ⟨rfl, rfl, rfl, trivial⟩⟩
          · have := hT (p := fun x => x ≤ 57) h57; have := hT (p := fun x => 48 ≤ x) h48
            exact .inl ⟨⟨by omega, by omega⟩, _, _, _, go (by rw [hr, if_pos (by simp [tailc]; omega)]), by omega, Mv.of [] rfl rfl rfl trivial ⟨rfl, rfl, rfl, trivial⟩⟩
          · have := hT (p := fun x => x = 46) h46
            exact .inl ⟨⟨by omega, by omega⟩, _, _, _, go (by rw [hr, if_pos (by simp [tailc]; omega)]), by omega, Mv.of [] rfl rfl rfl trivial ⟨rfl, rfl, rfl, trivial⟩⟩
          · have := hF (p := fun x => x = 46) h46; have := hF (p := fun x => x = 45) h45; have := hF (p := fun x => x = 43) h43; have := hF (p := fun x => 48 ≤ x) h48
            exact no (by rw [hr, if_neg (by simp [tailc]; omega)])
          · have := hT (p := fun x => x = 45) h45
            exact .inl ⟨⟨by omega, by omega⟩, _, _, _, go (by rw [hr, if_pos (by simp [tailc]; omega)]), by omega, Mv.of [] rfl rfl rfl trivial ⟨rfl, rfl, rfl, trivial⟩⟩
          · have := hT (p := fun x => x = 43) h43
            exact .inl ⟨⟨by omega, by omega⟩, _, _, _, go (by rw [hr, if_pos (by simp [tailc]; omega)]), by omega, Mv.of [] rfl rfl rfl trivial ⟨rfl, rfl, rfl, trivial⟩⟩
  · have hk' : k = b.length := by have := of_decide_eq_false h; omega
    subst hk'
    exact no (hI.trans (scan_end b))
end Go.Proofs.Ytampfnlmojgjgaa
