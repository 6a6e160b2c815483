import Derived.Test.YtcmkiancbgmmhaaStr
namespace Go.Proofs.Ytcmkiancbgmmhaa
open Go.Aw
set_option maxHeartbeats 1600000
set_option linter.unusedSimpArgs false
set_option linter.unusedVariables false

/-- A tree, as plain data. -/
inductive Node where
  | mk (name : List UInt8) (attrs : List (List UInt8 × List UInt8)) (text : List UInt8) (kids : List Node)
def Node.name : Node → List UInt8
  | .mk n _ _ _ => n
def Node.attrs : Node → List (List UInt8 × List UInt8)
  | .mk _ a _ _ => a
def Node.text : Node → List UInt8
  | .mk _ _ t _ => t
def Node.kids : Node → List Node
  | .mk _ _ _ k => k
def attrD (a : List UInt8 × List UInt8) : List D := [.str a.1, .str a.2]
def attrsD (l : List (List UInt8 × List UInt8)) : List (List D) := l.map attrD
mutual
def nodeD : Node → List D
  | .mk n a t k => [.str n, .sl (attrsD a), .str t, .sl (nodesD k)]
def nodesD : List Node → List (List D)
  | [] => []
  | n :: r => nodeD n :: nodesD r
end
theorem nodesD_map : ∀ l : List Node, nodesD l = l.map nodeD
  | [] => by unfold nodesD; rfl
  | n :: r => by unfold nodesD; rw [nodesD_map r]; rfl
theorem nodeD_eq (n : Node) : nodeD n = [.str n.name, .sl (attrsD n.attrs), .str n.text, .sl (nodesD n.kids)] := by
  cases n; unfold nodeD; rfl
theorem nodesD_len (l : List Node) : (nodesD l).length = l.length := by rw [nodesD_map]; simp
theorem attrsD_len (l : List (List UInt8 × List UInt8)) : (attrsD l).length = l.length := by simp [attrsD]
theorem nodesD_get (l : List Node) (k : Nat) (h : k < l.length) : (nodesD l)[((k : Nat) : Int).toNat]? = some [.str l[k].name, .sl (attrsD l[k].attrs), .str l[k].text, .sl (nodesD l[k].kids)] := by
  rw [nodesD_map, Int.toNat_natCast]; simp [h, nodeD_eq]
theorem attrsD_get (l : List (List UInt8 × List UInt8)) (k : Nat) (h : k < l.length) : (attrsD l)[((k : Nat) : Int).toNat]? = some [.str l[k].1, .str l[k].2] := by
  rw [Int.toNat_natCast]; simp [attrsD, attrD, h]
mutual
def szN : Node → Nat
  | .mk _ _ _ k => 1 + szL k
def szL : List Node → Nat
  | [] => 0
  | n :: r => szN n + szL r
end
theorem szN_eq (n : Node) : szN n = 1 + szL n.kids := by cases n; unfold szN; rfl
theorem szL_cons (n : Node) (r : List Node) : szL (n :: r) = szN n + szL r := by rw [szL]
theorem sz_mem {l : List Node} {n : Node} (h : n ∈ l) : szN n ≤ szL l := by
  induction l with
  | nil => simp at h
  | cons m r ih =>
    rw [szL_cons]
    rcases List.mem_cons.1 h with rfl | h
    · omega
    · have := ih h; omega
theorem kids_lt {l : List Node} {n : Node} (h : n ∈ l) : szL n.kids < szL l := by
  have := sz_mem h
  rw [szN_eq] at this; omega

def voids : List (List UInt8) := [[97, 114, 101, 97], [98, 97, 115, 101], [98, 114], [99, 111, 108], [101, 109, 98, 101, 100], [104, 114], [105, 109, 103], [105, 110, 112, 117, 116], [108, 105, 110, 107], [109, 101, 116, 97], [112, 97, 114, 97, 109], [115, 111, 117, 114, 99, 101], [116, 114, 97, 99, 107], [119, 98, 114]]
def blocks : List (List UInt8) := [[97, 100, 100, 114, 101, 115, 115], [97, 114, 116, 105, 99, 108, 101], [97, 115, 105, 100, 101], [98, 108, 111, 99, 107, 113, 117, 111, 116, 101], [100, 105, 118], [100, 108], [102, 105, 101, 108, 100, 115, 101, 116], [102, 105, 103, 117, 114, 101], [102, 111, 111, 116, 101, 114], [102, 111, 114, 109], [104, 49], [104, 50], [104, 51], [104, 52], [104, 53], [104, 54], [104, 101, 97, 100, 101, 114], [104, 114], [108, 105], [109, 97, 105, 110], [110, 97, 118], [111, 108], [112], [112, 114, 101], [115, 101, 99, 116, 105, 111, 110], [116, 97, 98, 108, 101], [117, 108]]
def raws : List (List UInt8) := [[115, 99, 114, 105, 112, 116], [115, 116, 121, 108, 101], [120, 109, 112], [105, 102, 114, 97, 109, 101], [110, 111, 101, 109, 98, 101, 100], [110, 111, 102, 114, 97, 109, 101, 115], [112, 108, 97, 105, 110, 116, 101, 120, 116]]
def softs : List (List UInt8) := [[116, 101, 120, 116, 97, 114, 101, 97], [116, 105, 116, 108, 101]]
def rawV (s : List UInt8) : AV := .tup [.d (.bool (decide (s ∈ raws) || decide (s ∈ softs))), .d (.bool (decide (s ∉ raws) && decide (s ∈ softs)))]
theorem rawV_pure (s : List UInt8) : (rawV s).pure = true := rfl

set_option maxRecDepth 100000 in
theorem Void_ok (s : List UInt8) : PureC Try.prog 17 [.d (.str s)] (.d (.bool (decide (s ∈ voids)))) := by
  refine pure_okT Try.wf Try.tab_ok Try.func17 (by decide +kernel) rfl rfl rfl rfl ?_
  have yes : ∀ σ : Store, s ∈ voids → ∃ r2 σ2, FinMove ⟨0, []⟩ (AV.d (.bool true)) σ r2 σ2 ∧ r2 = AV.d (.bool (decide (s ∈ voids))) := fun σ h => ⟨_, _, fin_out rfl, by rw [decide_eq_true h]⟩
  iterate 14 (refine ⟨fun h => yes _ (by rw [of_decide_eq_true h]; decide), fun h => ?_⟩; replace h := of_decide_eq_false h)
  refine ⟨_, _, fin_out rfl, congrArg (fun b => AV.d (.bool b)) (decide_eq_false ?_).symm⟩
  simp_all [voids]
set_option maxRecDepth 100000 in
theorem Block_ok (s : List UInt8) : PureC Try.prog 20 [.d (.str s)] (.d (.bool (decide (s ∈ blocks)))) := by
  refine pure_okT Try.wf Try.tab_ok Try.func20 (by decide +kernel) rfl rfl rfl rfl ?_
  have yes : ∀ σ : Store, s ∈ blocks → ∃ r2 σ2, FinMove ⟨0, []⟩ (AV.d (.bool true)) σ r2 σ2 ∧ r2 = AV.d (.bool (decide (s ∈ blocks))) := fun σ h => ⟨_, _, fin_out rfl, by rw [decide_eq_true h]⟩
  iterate 27 (refine ⟨fun h => yes _ (by rw [of_decide_eq_true h]; decide), fun h => ?_⟩; replace h := of_decide_eq_false h)
  refine ⟨_, _, fin_out rfl, congrArg (fun b => AV.d (.bool b)) (decide_eq_false ?_).symm⟩
  simp_all [blocks]
set_option maxRecDepth 100000 in
theorem tRaw_ok (s : List UInt8) : PureC Try.prog 55 [.d (.str s)] (rawV s) := by
  refine pure_okT Try.wf Try.tab_ok Try.func55 (by decide +kernel) rfl rfl rfl (rawV_pure s) ?_
  have yes : ∀ σ : Store, s ∈ raws → ∃ r2 σ2, FinMove ⟨0, []⟩ (AV.tup [.d (.bool true), .d (.bool false)]) σ r2 σ2 ∧ r2 = rawV s := fun σ h => ⟨_, _, fin_out rfl, by simp [rawV, h]⟩
  iterate 7 (refine ⟨fun h => yes _ (by rw [of_decide_eq_true h]; decide), fun h => ?_⟩; replace h := of_decide_eq_false h)
  have hno : s ∉ raws := by simp_all [raws]
  have yes2 : ∀ σ : Store, s ∈ softs → ∃ r2 σ2, FinMove ⟨0, []⟩ (AV.tup [.d (.bool true), .d (.bool true)]) σ r2 σ2 ∧ r2 = rawV s := fun σ h => ⟨_, _, fin_out rfl, by simp [rawV, h, hno]⟩
  iterate 2 (refine ⟨fun h => yes2 _ (by rw [of_decide_eq_true h]; decide), fun h => ?_⟩; replace h := of_decide_eq_false h)
  have hno2 : s ∉ softs := by simp_all [softs]
  have e : rawV s = .tup [.d (.bool false), .d (.bool false)] := by simp [rawV, hno, hno2]
  exact ⟨_, _, fin_out rfl, e.symm⟩

set_option maxRecDepth 100000 in
theorem has_ok (l : List (List UInt8)) (v : List UInt8) (hl : l.length ≤ 4611686018427387903) : PureC Try.prog 44 [.d (.sl (strsD l)), .d (.str v)] (.d (.bool (decide (v ∈ l)))) := by
  refine pure_okT Try.wf Try.tab_ok Try.func44 (by decide +kernel) rfl rfl rfl rfl ?_
  have hn := strsD_len l
  refine loopT Try.wf Try.tab_ok (fun n s' σ => ∃ k : Nat, n = l.length - k ∧ k ≤ l.length ∧ v ∉ l.take k ∧ s' = [(0, .d (.sl (strsD l))), (1, .d (.str v)), (5, .d (.int .i64 k))] ∧ σ = ⟨0, []⟩)
    ⟨0, rfl, Nat.zero_le _, by simp, rfl, rfl⟩ (Mv.of [] rfl rfl rfl trivial ⟨rfl, rfl, rfl, trivial⟩) ?_
  rintro _ _ _ ⟨k, rfl, hk, hI, rfl, rfl⟩
  refine ⟨fun h => ?_, fun h => ?_⟩
  · have hlt : k < l.length := by have := of_decide_eq_true h; omega
    refine ⟨⟨by omega, by rw [hn]; omega⟩, _, strsD_get l k hlt, rfl, _, rfl, ⟨fun h1 => ?_, fun h1 => ?_⟩⟩
    · have h1' := of_decide_eq_true h1
      exact ⟨_, _, fin_out rfl, congrArg (fun b => AV.d (.bool b)) (decide_eq_true (h1' ▸ List.getElem_mem hlt)).symm⟩
    · have h1' := of_decide_eq_false h1
      refine .inl ⟨⟨by omega, by omega⟩, _, _, _, ⟨k + 1, rfl, hlt, ?_, rfl, rfl⟩, by omega, Mv.of [] rfl rfl rfl trivial ⟨rfl, rfl, rfl, trivial⟩⟩
      rw [List.take_succ_eq_append_getElem hlt]
      simp only [List.mem_append, not_or, List.mem_singleton]
      exact ⟨hI, fun e => h1' e.symm⟩
  · have hk' : k = l.length := by have := of_decide_eq_false h; omega
    subst hk'
    rw [List.take_length] at hI
    exact ⟨_, _, fin_out rfl, congrArg (fun b => AV.d (.bool b)) (decide_eq_false hI).symm⟩
set_option maxRecDepth 100000 in
theorem rVoid_ok (s : List UInt8) : PureC Try.prog 30 [.d (.str s)] (.d (.bool (decide (s ∈ voids)))) := by
  refine pure_okT Try.wf Try.tab_ok Try.func30 (by decide +kernel) rfl rfl rfl rfl ?_
  refine CallsAbs.freezeTo (ds := strsD voids) (args' := [.d (.sl (strsD voids)), .d (.str s)]) 0 rfl rfl ⟨fun _ => Nat.le_refl _, trivial, trivial⟩ rfl (PureC.use (has_ok voids s (by decide)) ?_)
  exact ⟨_, _, fin_out rfl, rfl⟩
set_option maxRecDepth 100000 in
theorem rBlock_ok (s : List UInt8) : PureC Try.prog 47 [.d (.str s)] (.d (.bool (decide (s ∈ blocks)))) := by
  refine pure_okT Try.wf Try.tab_ok Try.func47 (by decide +kernel) rfl rfl rfl rfl ?_
  refine CallsAbs.freezeTo (ds := strsD blocks) (args' := [.d (.sl (strsD blocks)), .d (.str s)]) 0 rfl rfl ⟨fun _ => Nat.le_refl _, trivial, trivial⟩ rfl (PureC.use (has_ok blocks s (by decide)) ?_)
  exact ⟨_, _, fin_out rfl, rfl⟩

end Go.Proofs.Ytcmkiancbgmmhaa
