import Derived.Test.YtampfnlmojgjgaaT9
namespace Go.Proofs.Ytampfnlmojgjgaa
open Go.Aw

theorem sub_nil1 (a : AV) : Sub (.agg [a, .nil]) (.agg [a, .d (.sl [])]) := Sub.agg rfl (fun i x y hx hy => by
  match i with
  | 0 => cases hx; cases hy; exact Sub.refl _
  | 1 => cases hx; cases hy; exact Sub.nil
  | n + 2 => simp at hx)

set_option maxRecDepth 10000 in
theorem awake_ok : PureC Try.prog 9 [] (.d (.bool true)) := by
  refine pure_okT Try.wf Try.tab_ok Try.func9 (by decide +kernel) rfl rfl rfl rfl ?_
  refine PureC.use (Scheme_ok [32, 74, 97, 118, 97, 9, 83, 99, 114, 105, 112, 116, 58, 120] (by decide)) ?_
  have e1 : schemeS [32, 74, 97, 118, 97, 9, 83, 99, 114, 105, 112, 116, 58, 120] = [106, 97, 118, 97, 115, 99, 114, 105, 112, 116] := by decide +kernel
  have e2 : schemeB [32, 74, 97, 118, 97, 9, 83, 99, 114, 105, 112, 116, 58, 120] = true := by decide +kernel
  have a1 : allowed [47, 97] [[104, 116, 116, 112, 115]] = true := by decide +kernel
  have a2 : allowed [47, 47, 120] [] = false := by decide +kernel
  rw [schemeV, e1, e2]
  refine ⟨fun _ => ⟨fun _ => ?_, fun h => absurd h (by decide)⟩, fun h => absurd h (by decide)⟩
  refine CallsAbs.freeze 0 rfl rfl ⟨trivial, fun _ => Nat.le_refl _, trivial⟩ (PureC.use (Allowed_ok [47, 97] [[104, 116, 116, 112, 115]] (by decide) (by decide)) ?_)
  rw [a1]
  refine ⟨fun _ => ?_, fun h => absurd h (by decide)⟩
  refine CallsAbs.sub (sub_nil1 _) (PureC.use (Allowed_ok [47, 47, 120] [] (by decide) (by decide)) ?_)
  rw [a2]
  exact ⟨.d (.bool true), ⟨0, []⟩, fin_mv [] rfl rfl rfl trivial rfl, rfl⟩
end Go.Proofs.Ytampfnlmojgjgaa
