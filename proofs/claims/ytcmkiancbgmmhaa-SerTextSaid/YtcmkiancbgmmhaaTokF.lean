import Derived.Test.YtcmkiancbgmmhaaTokE
namespace Go.Proofs.Ytcmkiancbgmmhaa
open Go.Aw
set_option maxHeartbeats 1600000
set_option linter.unusedSimpArgs false
set_option linter.unusedVariables false

/-- A scope within which the run jumps, the code behind a label being told once. -/
theorem _root_.Go.Aw.scopeL {P : Program} {N B : Nat} (hw : wfP P = true) {c : Code} {K : Exit → St → Store → Prop} (J : Nat → Nat → St → Store → Prop)
    (pass : ∀ l n s σ, J l n s σ → ∃ r, findLabel c l = some (.seq .skip r) ∧ E P N B r (fun e s' σ' => match e with | .goto l' => ∃ n' s'' σ'', J l' n' s'' σ'' ∧ n' < n ∧ Mv B s' σ' s'' σ'' | e => K e s' σ') s σ)
    {s : St} {σ : Store} (first : (∀ l n s σ, J l n s σ → ∃ r, findLabel c l = some (.seq .skip r) ∧ E P N B r (fun e s' σ' => match e with | .goto l' => ∃ n' s'' σ'', J l' n' s'' σ'' ∧ Mv B s' σ' s'' σ'' | e => K e s' σ') s σ) →
      E P N B c (fun e s' σ' => match e with | .goto l' => ∃ n' s'' σ'', J l' n' s'' σ'' ∧ Mv B s' σ' s'' σ'' | e => K e s' σ') s σ) : E P N B (.scope c) K s σ := by
  refine scopeJ J (fun l n s σ h => ?_) (first fun l n s σ h => ?_)
  · obtain ⟨r, h1, h2⟩ := pass l n s σ h
    exact ⟨_, h1, E.seq (E.of hw rfl h2)⟩
  · obtain ⟨r, h1, h2⟩ := pass l n s σ h
    refine ⟨r, h1, h2.mono fun e s' σ' hk => ?_⟩
    cases e with
    | goto l' => obtain ⟨n', s'', σ'', q1, _, q2⟩ := hk; exact ⟨n', s'', σ'', q1, q2⟩
    | _ => exact hk

theorem rd_any {f : FuncId} {args : List AV} {r0 : AV} (hc : Callable Try.prog f) {s : List UInt8} {n n' : Nat} {l : List Tok} (hp : pureL args = true) (hr : r0.pure = true)
    (h : CallsAbs Try.prog f (.ref 0 0 0 :: args) (rdS s n l) fun r σ' => r = r0 ∧ σ' = rdS s n' l) (σ : Store) (h0 : σ.get 0 = rdO s n l.length) (h1 : σ.get 1 = outO l) :
    CallsAbs Try.prog f (.ref 0 0 0 :: args) σ fun r σ' => r = r0 ∧ σ' = ⟨σ.n, (0, rdO s n' l.length) :: (1, outO l) :: σ.objs⟩ := by
  rcases Nat.lt_or_ge 1 σ.n with hn | hn
  · obtain ⟨k, objs⟩ := σ
    obtain ⟨k, rfl⟩ : ∃ j, k = j + 2 := ⟨k - 2, by dsimp only at hn; omega⟩
    refine CallsAbs.frame h [.old 0, .old 1] ⟨Nat.zero_le _, rfl, by simp [goodr, idx], ⟨?_, ?_, trivial⟩⟩ ⟨⟨rfl, rfl, rfl⟩, vrelL_self args hp⟩ ?_
    · show orel _ (outO l) (Store.get ⟨k + 2, objs⟩ 1)
      rw [h1]
      exact ⟨rfl, .inl ⟨rfl, dataA_pure _⟩⟩
    · show orel _ (rdO s n l.length) (Store.get ⟨k + 2, objs⟩ 0)
      rw [h0]
      exact ⟨rfl, .inr ⟨⟨rfl, rfl, ⟨rfl, rfl, rfl⟩, trivial⟩, trivial⟩⟩
    · rintro _ _ ⟨rfl, rfl⟩
      exact ⟨_, [(0, rdO s n' l.length), (1, outO l)], ⟨⟨rfl, .inr ⟨⟨rfl, rfl, ⟨rfl, rfl, rfl⟩, trivial⟩, trivial⟩⟩, ⟨rfl, .inl ⟨rfl, dataA_pure _⟩⟩, trivial⟩, rfl, vrel_self _ hr, rfl, rfl⟩
  · exact .inl ⟨hc, fun g w vs R hL => by
      have := R.dead 1 (by rw [← R.n]; exact hn)
      rw [h1] at this; cases this⟩

theorem pass_any (f : FuncId) (p : UInt8 → Bool) (hf : ∀ c : UInt8, PureC Try.prog f [.d (.int .u8 c.toNat)] (.d (.bool (p c)))) (s : List UInt8) (n n' : Nat) (l : List Tok) (hn : n ≤ s.length) (hs : s.length ≤ 1000000) (e : n' = n + runN (hdB p) (s.drop n)) (σ : Store) (h0 : σ.get 0 = rdO s n l.length) (h1 : σ.get 1 = outO l) :
    CallsAbs Try.prog 69 [.ref 0 0 0, .fn (.func f) [] []] σ fun r σ' => r = .d (.str ((s.drop n).take (n' - n))) ∧ σ' = ⟨σ.n, (0, rdO s n' l.length) :: (1, outO l) :: σ.objs⟩ := by
  subst e
  rw [Nat.add_sub_cancel_left]
  exact rd_any ⟨_, Try.func69, by decide +kernel, rfl⟩ rfl rfl (pass_ok f p hf s n l hn (by omega)) σ h0 h1
theorem over_any (s : List UInt8) (n : Nat) (l : List Tok) (t : List UInt8) (ht : t ≠ []) (htl : t.length ≤ 1000) (hn : n ≤ s.length) (hs : s.length ≤ 1000000) (σ : Store) (h0 : σ.get 0 = rdO s n l.length) (h1 : σ.get 1 = outO l) :
    CallsAbs Try.prog 52 [.ref 0 0 0, .d (.str t)] σ fun r σ' => r = .d (.str ((s.drop n).take (toN t (s.drop n)))) ∧ σ' = ⟨σ.n, (0, rdO s (s.length - ((s.drop n).drop (toN t (s.drop n) + t.length)).length) l.length) :: (1, outO l) :: σ.objs⟩ :=
  rd_any ⟨_, Try.func52, by decide +kernel, rfl⟩ rfl rfl (over_ok s n l t ht htl hn hs) σ h0 h1

end Go.Proofs.Ytcmkiancbgmmhaa
