import Derived.Test.YtcmkiancbgmmhaaSerJ
import Derived.Test.YtcmkiancbgmmhaaSerK
namespace Go.Proofs.Ytcmkiancbgmmhaa
open Go.Aw

set_option maxRecDepth 100000 in
theorem SerUnlike_ok (a b : List Node) : PureC Try.prog 5 [.d (.sl (nodesD a)), .d (.sl (nodesD b))] (.d (.bool true)) := by
  refine pure_okT Try.wf Try.tab_ok Try.func5 (by decide +kernel) rfl rfl rfl rfl ?_
  refine PureC.use awake_ok ?_
  refine (Light_ok a).mono ?_
  rintro _ _ ⟨⟨x, rfl, hx⟩, rfl⟩
  refine (Light_ok b).mono ?_
  rintro _ _ ⟨⟨y, rfl, hy⟩, rfl⟩
  cases x with
  | false =>
    repeat (first | refine ⟨fun _ => ?_, fun h => absurd h (by decide)⟩ | refine ⟨fun h => absurd h (by decide), fun _ => ?_⟩)
    exact ⟨_, _, fin_out rfl, rfl⟩
  | true =>
    cases y with
    | false =>
      repeat (first | refine ⟨fun _ => ?_, fun h => absurd h (by decide)⟩ | refine ⟨fun h => absurd h (by decide), fun _ => ?_⟩)
      exact ⟨_, _, fin_out rfl, rfl⟩
    | true =>
      have hw := hx rfl
      have hsz := sz_wtL a
      have hht := ht_wtL a
      have hsh := Sh_wtL a (by omega)
      have hw2 := hy rfl
      have hsz2 := sz_wtL b
      have hht2 := ht_wtL b
      have hsh2 := Sh_wtL b (by omega)
      have c1 := HTML_ok a hsh (by omega) (by omega)
      have c2 := HTML_ok b hsh2 (by omega) (by omega)
      have c3 := Stable_ok a (by omega) hsh
      have c4 := Stable_ok b (by omega) hsh2
      have c5 := Same_ok (szL a) a b (Nat.le_refl _) (by omega) hsh
      have key := fun ha hb => ht_eq (a := a) (b := b) ha hb
      generalize stableB a = sa at *
      generalize stableB b = sb at *
      repeat (first | refine ⟨fun _ => ?_, fun h => absurd h (by decide)⟩ | refine ⟨fun h => absurd h (by decide), fun _ => ?_⟩)
      refine PureC.use c3 ?_
      cases sa with
      | false =>
        repeat (first | refine ⟨fun _ => ?_, fun h => absurd h (by decide)⟩ | refine ⟨fun h => absurd h (by decide), fun _ => ?_⟩)
        exact ⟨_, _, fin_out rfl, rfl⟩
      | true =>
        repeat (first | refine ⟨fun _ => ?_, fun h => absurd h (by decide)⟩ | refine ⟨fun h => absurd h (by decide), fun _ => ?_⟩)
        refine PureC.use c4 ?_
        cases sb with
        | false =>
          repeat (first | refine ⟨fun _ => ?_, fun h => absurd h (by decide)⟩ | refine ⟨fun h => absurd h (by decide), fun _ => ?_⟩)
          exact ⟨_, _, fin_out rfl, rfl⟩
        | true =>
          repeat (first | refine ⟨fun _ => ?_, fun h => absurd h (by decide)⟩ | refine ⟨fun h => absurd h (by decide), fun _ => ?_⟩)
          refine PureC.use c5 ?_
          repeat (first | refine ⟨fun _ => ?_, fun h => absurd h (by decide)⟩ | refine ⟨fun h => absurd h (by decide), fun _ => ?_⟩)
          refine PureC.use c1 (PureC.use c2 ?_)
          refine ⟨_, _, fin_out rfl, congrArg (fun b => AV.d (.bool b)) ?_⟩
          have k := key rfl rfl
          by_cases e : a = b
          · rw [sameB_true e, decide_eq_true (k.2 e)]; rfl
          · rw [sameB_false e, decide_eq_false (fun h => e (k.1 h))]; rfl

theorem SerUnlike_law {n m : Nat} {r q : List D} (h : DOk Try.prog n 22 r) (k : DOk Try.prog m 22 q) : PureC Try.prog 5 [argAV Try.prog 22 r, argAV Try.prog 22 q] (.d (.bool true)) := by
  obtain ⟨l, rfl⟩ := dok_nodes n h
  obtain ⟨l2, rfl⟩ := dok_nodes m k
  rw [arg_nodes, arg_nodes]; exact SerUnlike_ok l l2

end Go.Proofs.Ytcmkiancbgmmhaa
