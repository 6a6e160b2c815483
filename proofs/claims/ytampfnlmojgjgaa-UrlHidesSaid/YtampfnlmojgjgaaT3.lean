import Derived.Test.YtampfnlmojgjgaaT2
namespace Go.Proofs.Ytampfnlmojgjgaa
open Go.Aw

def sp (c : UInt8) : Bool := decide (c.toNat ≤ 32)
def trimL (s : List UInt8) : List UInt8 := s.dropWhile sp
def trimR (s : List UInt8) : List UInt8 := (s.reverse.dropWhile sp).reverse
def kept (c : UInt8) : Bool := !(decide (c.toNat = 9) || decide (c.toNat = 10) || decide (c.toNat = 13))
def bare (s : List UInt8) : List UInt8 := (trimR (trimL s)).filter kept

theorem trimR_snoc (t : List UInt8) (c : UInt8) : trimR (t ++ [c]) = if sp c then trimR t else t ++ [c] := by
  unfold trimR
  rw [List.reverse_append]
  simp only [List.reverse_cons, List.reverse_nil, List.nil_append, List.singleton_append, List.dropWhile_cons]
  split <;> simp
theorem split_last (t : List UInt8) (h : t ≠ []) : t = t.take (t.length - 1) ++ [t.getD (t.length - 1) 0] := by
  have hl : t.length - 1 < t.length := by have := List.length_pos_iff.2 h; omega
  have := List.take_succ_eq_append_getElem hl
  rw [List.getD_eq_getElem?_getD, List.getElem?_eq_getElem hl, Option.getD_some, ← this, List.take_of_length_le (by omega)]

set_option maxRecDepth 10000 in
theorem Bare_ok (s : List UInt8) (hs : s.length ≤ 9223372036854775807) (hs2 : s.length ≤ 140737488355328) : PureC Try.prog 12 [.d (.str s)] (.d (.str (bare s))) := by
  refine PureC.of rfl rfl (fn_okTE Try.wf Try.tab_ok Try.func12 (by decide +kernel) rfl rfl ?_)
  refine E.seq (E.of Try.wf Try.tab_ok ?_)
  refine scopeE ?_
  refine midT Try.wf Try.tab_ok (fun s' σ => ∃ t : List UInt8, t.length ≤ s.length ∧ t = trimL s ∧ s' = [(0, .d (.str t))] ∧ σ = ⟨0, []⟩) ?_ ?_
  · refine loopT Try.wf Try.tab_ok (fun n s' σ => ∃ t : List UInt8, n = t.length ∧ t.length ≤ s.length ∧ trimL t = trimL s ∧ s' = [(0, .d (.str t))] ∧ σ = ⟨0, []⟩) ⟨s, rfl, Nat.le_refl _, rfl, rfl, rfl⟩ (Mv.of [] rfl rfl rfl trivial ⟨rfl, trivial⟩) ?_
    rintro _ _ _ ⟨t, rfl, hl, ht, rfl, rfl⟩
    refine ⟨fun h => ?_, fun h => ?_⟩
    · have h' : t ≠ [] := by intro e; subst e; exact absurd h (by decide)
      obtain ⟨c, r, rfl⟩ : ∃ c r, t = c :: r := by cases t with | nil => exact absurd rfl h' | cons c r => exact ⟨c, r, rfl⟩
      refine ⟨⟨by omega, by simp⟩, ⟨fun h2 => ?_, fun h2 => ?_⟩⟩
      · have hsp : sp c = true := by have := of_decide_eq_true h2; simp [sp] at this ⊢; omega
        refine ⟨⟨by omega, by simp; omega, by simp⟩, _, _, _, ⟨r, rfl, by simp at hl; omega, ?_, rfl, rfl⟩, by simp, Mv.of [] rfl rfl rfl trivial ⟨?_, trivial⟩⟩
        · rw [← ht]; simp [trimL, List.dropWhile_cons, hsp]
        · exact congrArg D.str (by simp)
      · have hsp : sp c = false := by have := of_decide_eq_false h2; simp [sp] at this ⊢; omega
        refine ⟨_, _, ⟨c :: r, hl, ?_, rfl, rfl⟩, Mv.of [] rfl rfl rfl trivial ⟨rfl, trivial⟩⟩
        rw [← ht]; simp [trimL, List.dropWhile_cons, hsp]
    · have h' : t = [] := by have : decide (t = []) = true := by simpa using h
                             exact of_decide_eq_true this
      subst h'
      exact ⟨_, _, ⟨[], Nat.zero_le _, ht, rfl, rfl⟩, Mv.of [] rfl rfl rfl trivial ⟨rfl, trivial⟩⟩
  rintro _ _ ⟨t0, hl0, rfl, rfl, rfl⟩
  refine midT Try.wf Try.tab_ok (fun s' σ => ∃ t : List UInt8, t.length ≤ s.length ∧ t = trimR (trimL s) ∧ s' = [(0, .d (.str t))] ∧ σ = ⟨0, []⟩) ?_ ?_
  · refine loopT Try.wf Try.tab_ok (fun n s' σ => ∃ t : List UInt8, n = t.length ∧ t.length ≤ s.length ∧ trimR t = trimR (trimL s) ∧ s' = [(0, .d (.str t))] ∧ σ = ⟨0, []⟩) ⟨trimL s, rfl, hl0, rfl, rfl, rfl⟩ (Mv.of [] rfl rfl rfl trivial ⟨rfl, trivial⟩) ?_
    rintro _ _ _ ⟨t, rfl, hl, ht, rfl, rfl⟩
    refine ⟨fun h => ?_, fun h => ?_⟩
    · have h' : t ≠ [] := by intro e; subst e; exact absurd h (by decide)
      have hpos := List.length_pos_iff.2 h'
      have e1 : ((t.length : Int) - 1).toNat = t.length - 1 := by omega
      refine .inl ⟨⟨by omega, by omega⟩, ⟨by omega, by omega⟩, ⟨fun h2 => ?_, fun h2 => ?_⟩⟩
      · have hsp : sp (t.getD (t.length - 1) 0) = true := by have := of_decide_eq_true h2; rw [e1] at this; simp [sp] at this ⊢; omega
        refine .inl ⟨⟨by omega, by omega⟩, ⟨by omega, by omega, by omega⟩, _, _, _, ⟨t.take (t.length - 1), rfl, by simp; omega, ?_, rfl, rfl⟩, by simp; omega, Mv.of [] rfl rfl rfl trivial ⟨?_, trivial⟩⟩
        · have := trimR_snoc (t.take (t.length - 1)) (t.getD (t.length - 1) 0)
          rw [← split_last t h', hsp] at this
          rw [if_pos rfl] at this
          rw [← this]; exact ht
        · exact congrArg D.str (by rw [e1]; rfl)
      · have hsp : sp (t.getD (t.length - 1) 0) = false := by have := of_decide_eq_false h2; rw [e1] at this; simp [sp] at this ⊢; omega
        refine ⟨_, _, ⟨t, hl, ?_, rfl, rfl⟩, Mv.of [] rfl rfl rfl trivial ⟨rfl, trivial⟩⟩
        have := trimR_snoc (t.take (t.length - 1)) (t.getD (t.length - 1) 0)
        rw [← split_last t h', hsp] at this
        rw [← ht, this]; rfl
    · have h' : t = [] := by have : decide (t = []) = true := by simpa using h
                             exact of_decide_eq_true this
      subst h'
      exact ⟨_, _, ⟨[], Nat.zero_le _, ht, rfl, rfl⟩, Mv.of [] rfl rfl rfl trivial ⟨rfl, trivial⟩⟩
  rintro _ _ ⟨t, hl, ht, rfl, rfl⟩
  refine E.of Try.wf Try.tab_ok ?_
  refine loopT Try.wf Try.tab_ok (fun n s' σ => ∃ k : Nat, n = t.length - k ∧ k ≤ t.length ∧ s' = [(0, .d (.str t)), (3, .ref 0 0 0), (30, .d (.int .i64 t.length)), (31, .d (.int .i64 k))] ∧ σ = ⟨1, [(0, .bld 36 5 ((t.take k).filter kept))]⟩)
    ⟨0, rfl, Nat.zero_le _, rfl, rfl⟩ (Mv.of [.old 0] rfl rfl rfl ⟨⟨rfl, rfl, rfl⟩, trivial⟩ ⟨rfl, ⟨rfl, rfl, rfl⟩, rfl, rfl, trivial⟩) ?_
  rintro _ _ _ ⟨k, rfl, hk, rfl, rfl⟩
  refine ⟨fun h => ?_, fun h => ?_⟩
  · have hlt : k < t.length := by have := of_decide_eq_true h; omega
    have hg : t.getD ((k : Nat) : Int).toNat 0 = t[k] := by rw [Int.toNat_natCast, List.getD_eq_getElem?_getD, List.getElem?_eq_getElem hlt, Option.getD_some]
    have step : ∀ b, kept t[k] = b → (t.take (k + 1)).filter kept = (t.take k).filter kept ++ (if b then [t[k]] else []) := by
      intro b hb
      rw [List.take_succ_eq_append_getElem hlt, List.filter_append]
      cases b <;> simp [hb]
    have skip : ∀ {s0 : St} {σ0 : Store}, kept t[k] = false → True := fun _ => trivial
    refine ⟨⟨by omega, by omega⟩, ⟨fun h9 => ?_, fun h9 => ?_⟩⟩
    · have hkp : kept t[k] = false := by have := of_decide_eq_true h9; rw [hg] at this; simp [kept]; omega
      refine .inl ⟨⟨by omega, by omega⟩, _, _, _, ⟨k + 1, rfl, hlt, rfl, rfl⟩, by omega, Mv.of [.old 0] rfl rfl rfl ⟨⟨rfl, rfl, ?_⟩, trivial⟩ ⟨rfl, ⟨rfl, rfl, rfl⟩, rfl, rfl, trivial⟩⟩
      rw [step _ hkp]; simp
    · refine ⟨fun h10 => ?_, fun h10 => ?_⟩
      · have hkp : kept t[k] = false := by have := of_decide_eq_true h10; rw [hg] at this; simp [kept]; omega
        refine .inl ⟨⟨by omega, by omega⟩, _, _, _, ⟨k + 1, rfl, hlt, rfl, rfl⟩, by omega, Mv.of [.old 0] rfl rfl rfl ⟨⟨rfl, rfl, ?_⟩, trivial⟩ ⟨rfl, ⟨rfl, rfl, rfl⟩, rfl, rfl, trivial⟩⟩
        rw [step _ hkp]; simp
      · refine ⟨fun h13 => ?_, fun h13 => ?_⟩
        · have hkp : kept t[k] = false := by have := of_decide_eq_true h13; rw [hg] at this; simp [kept]; omega
          refine .inl ⟨⟨by omega, by omega⟩, _, _, _, ⟨k + 1, rfl, hlt, rfl, rfl⟩, by omega, Mv.of [.old 0] rfl rfl rfl ⟨⟨rfl, rfl, ?_⟩, trivial⟩ ⟨rfl, ⟨rfl, rfl, rfl⟩, rfl, rfl, trivial⟩⟩
          rw [step _ hkp]; simp
        · have hkp : kept t[k] = true := by
            have h1 := of_decide_eq_false h9; have h2 := of_decide_eq_false h10; have h3 := of_decide_eq_false h13
            rw [hg] at h1 h2 h3; simp [kept]; omega
          have hlen : ((t.take k).filter kept).length ≤ k := Nat.le_trans (List.length_filter_le _ _) (by simp; omega)
          refine ⟨⟨by omega, by omega⟩, CallsAbs.frame (WriteByte_ok ((t.take k).filter kept) (t.getD ((k : Nat) : Int).toNat 0) (by omega)) [.old 0] ⟨Nat.zero_le _, rfl, rfl, ⟨⟨rfl, rfl, rfl⟩, trivial⟩⟩ ⟨⟨rfl, rfl, rfl⟩, rfl, trivial⟩ ?_⟩
          rintro _ _ ⟨rfl, rfl⟩
          refine ⟨.nili, [(0, .bld 36 5 ((t.take (k + 1)).filter kept))], ⟨⟨rfl, rfl, ?_⟩, trivial⟩, rfl, trivial, ?_⟩
          · rw [step _ hkp, hg]; rfl
          · exact .inl ⟨⟨by omega, by omega⟩, _, _, _, ⟨k + 1, rfl, hlt, rfl, rfl⟩, by omega, Mv.of [.old 0] rfl rfl rfl ⟨⟨rfl, rfl, rfl⟩, trivial⟩ ⟨rfl, ⟨rfl, rfl, rfl⟩, rfl, rfl, trivial⟩⟩
  · have hk' : k = t.length := by have := of_decide_eq_false h; omega
    subst hk'
    rw [List.take_length]
    have hlen : (t.filter kept).length ≤ t.length := List.length_filter_le _ _
    refine CallsAbs.frame (String_ok (t.filter kept) (by omega)) [.old 0] ⟨Nat.zero_le _, rfl, rfl, ⟨⟨rfl, rfl, rfl⟩, trivial⟩⟩ ⟨⟨rfl, rfl, rfl⟩, trivial⟩ ?_
    rintro _ _ ⟨rfl, rfl⟩
    refine ⟨.d (.str (t.filter kept)), [(0, .dead)], ⟨trivial, trivial⟩, rfl, rfl, ?_⟩
    refine ⟨.d (.str (bare s)), ⟨0, []⟩, fin_mv [] rfl rfl rfl trivial ?_, rfl, rfl⟩
    exact congrArg D.str (by rw [bare, ← ht])
end Go.Proofs.Ytampfnlmojgjgaa
