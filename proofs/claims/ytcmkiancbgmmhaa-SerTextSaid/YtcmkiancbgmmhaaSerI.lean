import Derived.Test.YtcmkiancbgmmhaaSerE
import Derived.Test.YtcmkiancbgmmhaaSerG
import Derived.Test.YtcmkiancbgmmhaaSerH
import Derived.Test.YtcmkiancbgmmhaaDok
namespace Go.Proofs.Ytcmkiancbgmmhaa
open Go.Aw
set_option maxHeartbeats 1600000
set_option linter.unusedSimpArgs false
set_option linter.unusedVariables false

theorem attrsH_wt : ∀ l : List (List UInt8 × List UInt8), (attrsH l).length ≤ 6 * wtA l
  | [] => Nat.le_refl _
  | a :: r => by
    have e : wtA (a :: r) = (1 + a.1.length + a.2.length) + wtA r := rfl
    have ih := attrsH_wt r
    have hel := (escape_len a.2.length true a.2 (Nat.le_refl _)).2
    rw [attrsH_cons, e]
    unfold attrH
    simp only [List.length_append, List.length_cons, List.length_nil]
    omega
mutual
theorem ht_wtN : ∀ n : Node, (htN n).length ≤ 6 * wtN n
  | .mk nm a t k => by
    have h1 := attrsH_wt a
    have h2 := ht_wtL k
    have h3 := (escape_len t.length false t (Nat.le_refl _)).2
    unfold htN wtN
    split
    · omega
    · split
      · simp only [List.length_append, List.length_cons, List.length_nil]; omega
      · simp only [List.length_append, List.length_cons, List.length_nil]; omega
theorem ht_wtL : ∀ l : List Node, (htL l).length ≤ 6 * wtL l
  | [] => by simp [htL]
  | n :: r => by
    have h1 := ht_wtN n
    have h2 := ht_wtL r
    unfold htL wtL
    rw [List.length_append]
    omega
end

theorem agg_nodes : isAggB Try.prog 22 = false := by kernel_rfl
theorem arg_nodes (r : List (List D)) : argAV Try.prog 22 [.sl r] = .d (.sl r) := by rw [argAV, agg_nodes]; rfl
theorem cells_str : Try.prog.cellsOf 9 = 1 := by kernel_rfl
theorem cells_attr : Try.prog.cellsOf 42 = 2 := by kernel_rfl
theorem cells_attrs : Try.prog.cellsOf 27 = 1 := by kernel_rfl
theorem cells_node : Try.prog.cellsOf 29 = 4 := by kernel_rfl
theorem cells_nodes : Try.prog.cellsOf 22 = 1 := by kernel_rfl
theorem len2 {α : Type} {l : List α} (h : l.length = 2) : ∃ a b, l = [a, b] := by
  cases l with
  | nil => cases h
  | cons a l => cases l with
    | nil => cases h
    | cons b l => cases l with
      | nil => exact ⟨a, b, rfl⟩
      | cons c l => simp at h
theorem len4 {α : Type} {l : List α} (h : l.length = 4) : ∃ a b c d, l = [a, b, c, d] := by
  cases l with
  | nil => cases h
  | cons a l => cases l with
    | nil => cases h
    | cons b l => cases l with
      | nil => cases h
      | cons c l => cases l with
        | nil => cases h
        | cons d l => cases l with
          | nil => exact ⟨a, b, c, d, rfl⟩
          | cons c l => simp at h
theorem dok_attr {n : Nat} {row : List D} (h : DOk Try.prog n 42 row) : ∃ a : List UInt8 × List UInt8, row = attrD a := by
  cases n with
  | zero => exact h.elim
  | succ n =>
    simp only [DOk, Try.underlying42] at h
    obtain ⟨hl, hf⟩ := h
    rw [cells_attr] at hl
    obtain ⟨x, y, rfl⟩ := len2 hl
    have f1 := hf _ (List.mem_cons_self ..)
    have f2 := hf _ (List.mem_cons_of_mem _ (List.mem_cons_self ..))
    simp only [cells_str] at f1 f2
    obtain ⟨a, ha, _⟩ := dok_str f1
    obtain ⟨b, hb, _⟩ := dok_str f2
    simp at ha hb
    subst ha; subst hb
    exact ⟨(a, b), rfl⟩
theorem dok_attrs {n : Nat} {row : List D} (h : DOk Try.prog n 27 row) : ∃ l : List (List UInt8 × List UInt8), row = [.sl (attrsD l)] := by
  cases n with
  | zero => exact h.elim
  | succ n =>
    simp only [DOk, Try.underlying27] at h
    obtain ⟨rows, rfl, hbb, h2⟩ := h
    have : ∃ l : List (List UInt8 × List UInt8), rows = attrsD l := by
      clear hbb
      induction rows with
      | nil => exact ⟨[], rfl⟩
      | cons r rs ih =>
        obtain ⟨a, rfl⟩ := dok_attr (h2 r (by simp))
        obtain ⟨l, rfl⟩ := ih (fun q hq => h2 q (by simp [hq]))
        exact ⟨a :: l, rfl⟩
    obtain ⟨l, rfl⟩ := this
    exact ⟨l, rfl⟩
theorem dok_nodes (n : Nat) : ∀ {row : List D}, DOk Try.prog n 22 row → ∃ l : List Node, row = [.sl (nodesD l)] := by
  induction n using Nat.strongRecOn with
  | ind n ih =>
  intro row h
  cases n with
  | zero => exact h.elim
  | succ n =>
    simp only [DOk, Try.underlying22] at h
    obtain ⟨rows, rfl, hbb, h2⟩ := h
    cases n with
    | zero =>
      cases rows with
      | nil => exact ⟨[], by unfold nodesD; rfl⟩
      | cons r rs => exact (h2 r (by simp)).elim
    | succ n =>
      simp only [DOk, Try.underlying29] at h2
      have each : ∀ r ∈ rows, ∃ nd : Node, r = nodeD nd := by
        intro r hr
        obtain ⟨hl, hf⟩ := h2 r hr
        rw [cells_node] at hl
        obtain ⟨x, y, z, u, rfl⟩ := len4 hl
        have f1 := hf _ (List.mem_cons_self ..)
        have f2 := hf _ (List.mem_cons_of_mem _ (List.mem_cons_self ..))
        have f3 := hf _ (List.mem_cons_of_mem _ (List.mem_cons_of_mem _ (List.mem_cons_self ..)))
        have f4 := hf _ (List.mem_cons_of_mem _ (List.mem_cons_of_mem _ (List.mem_cons_of_mem _ (List.mem_cons_self ..))))
        simp only [cells_str, cells_attrs, cells_nodes] at f1 f2 f3 f4
        obtain ⟨a, ha, _⟩ := dok_str f1
        obtain ⟨b, hb⟩ := dok_attrs f2
        obtain ⟨c, hc, _⟩ := dok_str f3
        obtain ⟨d, hd⟩ := ih n (by omega) f4
        simp at ha hb hc hd
        subst ha; subst hb; subst hc; subst hd
        exact ⟨.mk a b c d, by unfold nodeD; rfl⟩
      have : ∃ l : List Node, rows = nodesD l := by
        clear h2 ih hbb
        induction rows with
        | nil => exact ⟨[], by unfold nodesD; rfl⟩
        | cons r rs ih =>
          obtain ⟨a, rfl⟩ := each r (by simp)
          obtain ⟨l, rfl⟩ := ih (fun q hq => each q (by simp [hq]))
          exact ⟨a :: l, by rw [nodesD]⟩
      obtain ⟨l, rfl⟩ := this
      exact ⟨l, rfl⟩

def awakeL : List Node := [.mk [112] [([105, 100], [34])] [] [.mk [] [] [97, 60] [], .mk [98, 114] [] [] []]]
set_option maxRecDepth 100000 in
theorem awake_ok : PureC Try.prog 11 [] (.d (.bool true)) := by
  refine PureC.of rfl rfl (fn_okTE Try.wf Try.tab_ok Try.func11 (by decide +kernel) rfl rfl ?_)
  refine E.seq (E.of Try.wf Try.tab_ok ?_)
  refine E.seq (textT Try.wf Try.tab_ok ?_)
  refine pstep _ rfl rfl (FinMove.refl _ _ _) ?_
  refine pstep (r := .d (.sl (attrsD [([105, 100], [34])]))) ⟨0, []⟩ rfl rfl (fin_lit rfl rfl rfl trivial) ?_
  refine pstep _ rfl rfl (FinMove.refl _ _ _) ?_
  refine pstep _ rfl rfl (FinMove.refl _ _ _) ?_
  refine pstep (r := .d (.sl (nodesD [.mk [] [] [97, 60] [], .mk [98, 114] [] [] []]))) ⟨0, []⟩ rfl rfl (fin_lit rfl rfl rfl trivial) ?_
  refine pstep _ rfl rfl (FinMove.refl _ _ _) ?_
  refine pstep (r := .d (.sl (nodesD awakeL))) ⟨0, []⟩ rfl rfl (fin_lit rfl rfl rfl trivial) ?_
  refine pstep _ rfl rfl (FinMove.refl _ _ _) ?_
  have e1 : htL awakeL = [60, 112, 32, 105, 100, 61, 34, 38, 113, 117, 111, 116, 59, 34, 62, 97, 38, 108, 116, 59, 60, 98, 114, 62, 60, 47, 112, 62] := by decide +kernel
  have e2 : stableB awakeL = true := by decide +kernel
  have hw : wtL awakeL ≤ 100 := by decide +kernel
  have c1 := HTML_ok awakeL (Sh_wtL _ (by omega)) (by have := sz_wtL awakeL; omega) (by have := ht_wtL awakeL; omega)
  have c2 := Stable_ok awakeL (by have := sz_wtL awakeL; omega) (Sh_wtL _ (by omega))
  rw [e1] at c1
  rw [e2] at c2
  refine E.of Try.wf Try.tab_ok ?_
  refine PureC.use c1 ?_
  repeat (first | refine ⟨fun _ => ?_, fun h => absurd h (by decide)⟩ | refine ⟨fun h => absurd h (by decide), fun _ => ?_⟩)
  refine PureC.use c2 ?_
  exact ⟨_, _, fin_out rfl, rfl, rfl⟩

end Go.Proofs.Ytcmkiancbgmmhaa
