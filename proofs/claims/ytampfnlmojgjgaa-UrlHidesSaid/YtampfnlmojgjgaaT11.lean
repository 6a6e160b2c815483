import Derived.Test.YtampfnlmojgjgaaT10
namespace Go.Proofs.Ytampfnlmojgjgaa
open Go.Aw

set_option maxRecDepth 10000 in
theorem UrlSchemes_ok (s : List UInt8) : PureC Try.prog 3 [.d (.str s)] (.d (.bool true)) := by
  refine pure_okT Try.wf Try.tab_ok Try.func3 (by decide +kernel) rfl rfl rfl rfl ?_
  refine PureC.use awake_ok ⟨fun h => ?_, fun h => ?_⟩
  · exact ⟨_, _, FinMove.refl _ _ _, rfl⟩
  · have hs : s.length ≤ 2000 := by have := of_decide_eq_false h; omega
    have c1 := Scheme_ok s (by omega)
    have c2 := rScheme_ok s (by omega)
    rw [schemeV] at c1 c2
    generalize schemeS s = x at c1 c2
    generalize schemeB s = y at c1 c2
    refine PureC.use c1 ?_
    refine PureC.use c2 ?_
    have c3 := Bare_ok s (by omega) (by omega)
    have c4 := rBare_ok s (by omega)
    generalize bare s = z at c3 c4
    refine ⟨fun _ => ⟨fun _ => ⟨fun _ => ?_, fun h => absurd h (by simp)⟩, fun h => absurd h (by simp)⟩, fun h => absurd h (by decide)⟩
    refine PureC.use c3 ?_
    refine PureC.use c4 ?_
    exact ⟨_, _, FinMove.refl _ _ _, congrArg (fun b => AV.d (.bool b)) (by simp)⟩
end Go.Proofs.Ytampfnlmojgjgaa
