import Derived.Test.YtcmkiancbgmmhaaSerI
namespace Go.Proofs.Ytcmkiancbgmmhaa
open Go.Aw

set_option maxRecDepth 100000 in
theorem SerPages_ok (l : List Node) : PureC Try.prog 3 [.d (.sl (nodesD l))] (.d (.bool true)) := by
  refine pure_okT Try.wf Try.tab_ok Try.func3 (by decide +kernel) rfl rfl rfl rfl ?_
  refine PureC.use awake_ok ?_
  refine (Light_ok l).mono ?_
  rintro _ _ ⟨⟨b, rfl, hb⟩, rfl⟩
  cases b with
  | false =>
    repeat (first | refine ⟨fun _ => ?_, fun h => absurd h (by decide)⟩ | refine ⟨fun h => absurd h (by decide), fun _ => ?_⟩)
    exact ⟨_, _, fin_out rfl, rfl⟩
  | true =>
    have hw := hb rfl
    have hsz := sz_wtL l
    have hht := ht_wtL l
    have hsh := Sh_wtL l (by omega)
    have c1 := HTML_ok l hsh (by omega) (by omega)
    have c2 := rHTML_ok (szL l) l (Nat.le_refl _) (by omega) hsh (by omega)
    have c3 := Stable_ok l (by omega) hsh
    have c4 := rStable_ok l (by omega) hsh
    generalize htL l = x at *
    generalize stableB l = y at *
    repeat (first | refine ⟨fun _ => ?_, fun h => absurd h (by decide)⟩ | refine ⟨fun h => absurd h (by decide), fun _ => ?_⟩)
    refine PureC.use c1 (PureC.use c2 ?_)
    refine ⟨fun _ => ?_, fun h => absurd h (by simp)⟩
    refine PureC.use c3 (PureC.use c4 ?_)
    exact ⟨_, _, fin_out rfl, congrArg (fun b => AV.d (.bool b)) (by simp)⟩

theorem SerPages_law {n : Nat} {r : List D} (h : DOk Try.prog n 22 r) : PureC Try.prog 3 [argAV Try.prog 22 r] (.d (.bool true)) := by
  obtain ⟨l, rfl⟩ := dok_nodes n h
  rw [arg_nodes]; exact SerPages_ok l

end Go.Proofs.Ytcmkiancbgmmhaa
