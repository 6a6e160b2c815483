import Derived.Test.YtcmkiancbgmmhaaSerD
namespace Go.Proofs.Ytcmkiancbgmmhaa
open Go.Aw
set_option maxHeartbeats 1600000
set_option linter.unusedSimpArgs false
set_option linter.unusedVariables false

def isL (x : List UInt8) : Bool := decide (x = [108, 105]) || decide (x = [117, 108]) || decide (x = [111, 108])
def lastL (l : List (List UInt8)) : List UInt8 := l.foldl (fun a x => if isL x = true then x else a) []
theorem lastL_snoc (l : List (List UInt8)) (x : List UInt8) : lastL (l ++ [x]) = if isL x = true then x else lastL l := by
  unfold lastL; rw [List.foldl_append]; rfl
theorem li_snoc (l : List (List UInt8)) (x : List UInt8) : decide (lastL (l ++ [x]) = [108, 105]) = inLi (decide (lastL l = [108, 105])) x := by
  rw [lastL_snoc]
  unfold inLi isL
  by_cases h1 : x = [108, 105]
  · subst h1; rfl
  · rw [if_neg h1, decide_eq_false h1]
    by_cases h2 : x = [117, 108]
    · subst h2; rfl
    · by_cases h3 : x = [111, 108]
      · subst h3; rfl
      · rw [decide_eq_false h2, decide_eq_false h3, if_neg (by decide), if_neg (fun h => h.elim h2 h3)]
theorem p_snoc (l : List (List UInt8)) (x : List UInt8) : decide (([112] : List UInt8) ∈ l ++ [x]) = (decide (([112] : List UInt8) ∈ l) || decide (x = [112])) := by
  rw [← Bool.decide_or, decide_eq_decide, List.mem_append, List.mem_singleton, eq_comm (a := x)]

theorem strsRows (l : List (List UInt8)) : ∀ row ∈ (strsD l).map (fun r => r.map AV.d), row.length = 1 ∧ ∀ a ∈ row, a.one = true := by
  intro row h
  obtain ⟨r, hr, rfl⟩ := List.mem_map.1 h
  unfold strsD at hr
  obtain ⟨x, _, rfl⟩ := List.mem_map.1 hr
  exact ⟨rfl, fun a ha => by rw [List.mem_singleton.1 ha]; rfl⟩
theorem strs_rowsD (l : List (List UInt8)) (x : List UInt8) : rowsD ((strsD l).map (fun r => r.map AV.d) ++ [[.d (.str x)]]) = some (strsD (l ++ [x])) := by
  induction l with
  | nil => rfl
  | cons a r ih =>
    have e : (strsD (a :: r)).map (fun r => r.map AV.d) ++ [[.d (.str x)]] = [AV.d (.str a)] :: ((strsD r).map (fun r => r.map AV.d) ++ [[.d (.str x)]]) := rfl
    rw [e, rowsD, ih]; rfl
theorem strsPure (l : List (List UInt8)) : ∀ row ∈ (strsD l).map (fun r => r.map AV.d), pureL row = true := by
  intro row h
  obtain ⟨r, hr, rfl⟩ := List.mem_map.1 h
  unfold strsD at hr
  obtain ⟨x, _, rfl⟩ := List.mem_map.1 hr
  rfl
/-- Is the node ahead of a place a text? -/
def prevB (l : List Node) (k : Nat) : Bool := match k with
  | 0 => false
  | j + 1 => match l[j]? with
    | some m => decide (m.name = [])
    | none => false
theorem prevB_succ (l : List Node) (k : Nat) (h : k < l.length) : prevB l (k + 1) = decide (l[k].name = []) := by
  simp [prevB, h]

set_option maxHeartbeats 800000 in
set_option maxRecDepth 100000 in
theorem rstable_ok (N : Nat) : ∀ (l : List Node) (ins : List (List UInt8)), szL l ≤ N → N + ins.length ≤ 1000000000 → ShL l → PureC Try.prog 33 [.d (.sl (nodesD l)), .d (.sl (strsD ins))] (.d (.bool (stL false (decide (([112] : List UInt8) ∈ ins)) (decide (lastL ins = [108, 105])) l))) := by
  induction N using Nat.strongRecOn with
  | ind N ih =>
  intro l ins hN hB hS
  refine PureC.of rfl rfl (fn_okTE Try.wf Try.tab_ok Try.func33 (by decide +kernel) rfl rfl ?_)
  have hn := nodesD_len l
  have hin := strsD_len ins
  have hsl := sz_len l
  refine E.seq (E.of Try.wf Try.tab_ok ?_)
  refine E.seq (E.of Try.wf Try.tab_ok ?_)
  refine E.seq (E.of Try.wf Try.tab_ok ?_)
  refine midE (fun s' σ => s' = [(0, .d (.sl (nodesD l))), (1, .d (.sl (strsD ins))), (5, .d (.bool (decide (([112] : List UInt8) ∈ ins)))), (6, .d (.str (lastL ins)))] ∧ σ = ⟨0, []⟩) ?_ ?_
  · refine E.seq (E.of Try.wf Try.tab_ok ?_)
    refine blockE (loopT Try.wf Try.tab_ok (fun m s' σ => ∃ (k : Nat), m = ins.length - k ∧ k ≤ ins.length ∧ s' = [(0, .d (.sl (nodesD l))), (1, .d (.sl (strsD ins))), (5, .d (.bool (decide (([112] : List UInt8) ∈ ins.take k)))), (6, .d (.str (lastL (ins.take k)))), (7, .d (.int .i64 k))] ∧ σ = ⟨0, []⟩)
      ⟨0, rfl, Nat.zero_le _, rfl, rfl⟩ (Mv.of [] rfl rfl rfl trivial ⟨rfl, rfl, rfl, rfl, rfl, trivial⟩) ?_)
    rintro _ _ _ ⟨k, rfl, hk, rfl, rfl⟩
    refine ⟨fun h => ?_, fun h => ?_⟩
    · have hlt : k < ins.length := by have := of_decide_eq_true h; rw [hin] at this; omega
      clear h
      have htk : ins.take (k + 1) = ins.take k ++ [ins[k]] := List.take_succ_eq_append_getElem hlt
      have hget := strsD_get ins k hlt
      have e1 := p_snoc (ins.take k) ins[k]
      have e2 := lastL_snoc (ins.take k) ins[k]
      rw [← htk] at e1 e2
      generalize decide (([112] : List UInt8) ∈ ins.take k) = b at *
      generalize lastL (ins.take k) = la at *
      generalize ins[k] = x at *
      have fin : ∀ (b1 : Bool) (l1 : List UInt8), decide (([112] : List UInt8) ∈ ins.take (k + 1)) = b1 → lastL (ins.take (k + 1)) = l1 → vrelS (phi 0 []) [(0, .d (.sl (nodesD l))), (1, .d (.sl (strsD ins))), (5, .d (.bool b1)), (6, .d (.str l1)), (7, .d (.int .i64 ((k : Int) + 1)))] [(0, .d (.sl (nodesD l))), (1, .d (.sl (strsD ins))), (5, .d (.bool (decide (([112] : List UInt8) ∈ ins.take (k + 1))))), (6, .d (.str (lastL (ins.take (k + 1))))), (7, .d (.int .i64 ((k + 1 : Nat) : Int)))] := fun b1 l1 h1 h2 => by
        rw [h1, h2]; exact ⟨rfl, rfl, rfl, rfl, rfl, trivial⟩
      cases b with
      | true =>
        repeat (first | refine ⟨fun _ => ?_, fun h => absurd h (by decide)⟩ | refine ⟨fun h => absurd h (by decide), fun _ => ?_⟩)
        refine ⟨⟨by omega, by rw [hin]; omega⟩, _, hget, rfl, _, rfl, ?_⟩
        rw [Bool.true_or] at e1
        by_cases h1 : x = [108, 105]
        · have e3 : isL x = true := by rw [h1]; rfl
          rw [if_pos e3] at e2
          refine ⟨fun h => absurd (of_decide_eq_false h) (fun h => h h1), fun _ => ?_⟩
          repeat (first | refine ⟨fun _ => ?_, fun h => absurd (of_decide_eq_false h) (by omega)⟩ | refine ⟨fun h => absurd (of_decide_eq_true h) (by omega), fun _ => ?_⟩ | refine ⟨fun _ => ?_, fun h => absurd (of_decide_eq_true h) (by omega)⟩ | refine ⟨fun h => absurd (of_decide_eq_false h) (by omega), fun _ => ?_⟩ | refine .inl ⟨⟨by omega, by omega⟩, ?_⟩ | refine ⟨⟨by omega, by omega⟩, ?_⟩)
          refine ⟨_, hget, rfl, _, rfl, ?_⟩
          repeat (first | refine ⟨fun _ => ?_, fun h => absurd (of_decide_eq_false h) (by omega)⟩ | refine ⟨fun h => absurd (of_decide_eq_true h) (by omega), fun _ => ?_⟩ | refine ⟨fun _ => ?_, fun h => absurd (of_decide_eq_true h) (by omega)⟩ | refine ⟨fun h => absurd (of_decide_eq_false h) (by omega), fun _ => ?_⟩ | refine .inl ⟨⟨by omega, by omega⟩, ?_⟩ | refine ⟨⟨by omega, by omega⟩, ?_⟩)
          exact ⟨_, _, _, ⟨k + 1, rfl, hlt, rfl, rfl⟩, by omega, Mv.of [] rfl rfl rfl trivial (fin _ _ e1 e2)⟩
        · refine ⟨fun _ => ?_, fun h => absurd (of_decide_eq_true h) h1⟩
          refine ⟨⟨by omega, by rw [hin]; omega⟩, _, hget, rfl, _, rfl, ?_⟩
          by_cases h2 : x = [117, 108]
          · have e3 : isL x = true := by rw [h2]; rfl
            rw [if_pos e3] at e2
            refine ⟨fun h => absurd (of_decide_eq_false h) (fun h => h h2), fun _ => ?_⟩
            repeat (first | refine ⟨fun _ => ?_, fun h => absurd (of_decide_eq_false h) (by omega)⟩ | refine ⟨fun h => absurd (of_decide_eq_true h) (by omega), fun _ => ?_⟩ | refine ⟨fun _ => ?_, fun h => absurd (of_decide_eq_true h) (by omega)⟩ | refine ⟨fun h => absurd (of_decide_eq_false h) (by omega), fun _ => ?_⟩ | refine .inl ⟨⟨by omega, by omega⟩, ?_⟩ | refine ⟨⟨by omega, by omega⟩, ?_⟩)
            refine ⟨_, hget, rfl, _, rfl, ?_⟩
            repeat (first | refine ⟨fun _ => ?_, fun h => absurd (of_decide_eq_false h) (by omega)⟩ | refine ⟨fun h => absurd (of_decide_eq_true h) (by omega), fun _ => ?_⟩ | refine ⟨fun _ => ?_, fun h => absurd (of_decide_eq_true h) (by omega)⟩ | refine ⟨fun h => absurd (of_decide_eq_false h) (by omega), fun _ => ?_⟩ | refine .inl ⟨⟨by omega, by omega⟩, ?_⟩ | refine ⟨⟨by omega, by omega⟩, ?_⟩)
            exact ⟨_, _, _, ⟨k + 1, rfl, hlt, rfl, rfl⟩, by omega, Mv.of [] rfl rfl rfl trivial (fin _ _ e1 e2)⟩
          · refine ⟨fun _ => ?_, fun h => absurd (of_decide_eq_true h) h2⟩
            refine ⟨⟨by omega, by rw [hin]; omega⟩, _, hget, rfl, _, rfl, ?_⟩
            by_cases h3 : x = [111, 108]
            · have e3 : isL x = true := by rw [h3]; rfl
              rw [if_pos e3] at e2
              refine ⟨fun _ => ?_, fun h => absurd (of_decide_eq_false h) (fun h => h h3)⟩
              repeat (first | refine ⟨fun _ => ?_, fun h => absurd (of_decide_eq_false h) (by omega)⟩ | refine ⟨fun h => absurd (of_decide_eq_true h) (by omega), fun _ => ?_⟩ | refine ⟨fun _ => ?_, fun h => absurd (of_decide_eq_true h) (by omega)⟩ | refine ⟨fun h => absurd (of_decide_eq_false h) (by omega), fun _ => ?_⟩ | refine .inl ⟨⟨by omega, by omega⟩, ?_⟩ | refine ⟨⟨by omega, by omega⟩, ?_⟩)
              refine ⟨_, hget, rfl, _, rfl, ?_⟩
              repeat (first | refine ⟨fun _ => ?_, fun h => absurd (of_decide_eq_false h) (by omega)⟩ | refine ⟨fun h => absurd (of_decide_eq_true h) (by omega), fun _ => ?_⟩ | refine ⟨fun _ => ?_, fun h => absurd (of_decide_eq_true h) (by omega)⟩ | refine ⟨fun h => absurd (of_decide_eq_false h) (by omega), fun _ => ?_⟩ | refine .inl ⟨⟨by omega, by omega⟩, ?_⟩ | refine ⟨⟨by omega, by omega⟩, ?_⟩)
              exact ⟨_, _, _, ⟨k + 1, rfl, hlt, rfl, rfl⟩, by omega, Mv.of [] rfl rfl rfl trivial (fin _ _ e1 e2)⟩
            · have e3 : isL x = false := by unfold isL; rw [decide_eq_false h1, decide_eq_false h2, decide_eq_false h3]; rfl
              rw [if_neg (by rw [e3]; decide)] at e2
              refine ⟨fun h => absurd (of_decide_eq_true h) h3, fun _ => ?_⟩
              repeat (first | refine ⟨fun _ => ?_, fun h => absurd (of_decide_eq_false h) (by omega)⟩ | refine ⟨fun h => absurd (of_decide_eq_true h) (by omega), fun _ => ?_⟩ | refine ⟨fun _ => ?_, fun h => absurd (of_decide_eq_true h) (by omega)⟩ | refine ⟨fun h => absurd (of_decide_eq_false h) (by omega), fun _ => ?_⟩ | refine .inl ⟨⟨by omega, by omega⟩, ?_⟩ | refine ⟨⟨by omega, by omega⟩, ?_⟩)
              exact ⟨_, _, _, ⟨k + 1, rfl, hlt, rfl, rfl⟩, by omega, Mv.of [] rfl rfl rfl trivial (fin _ _ e1 e2)⟩
      | false =>
        repeat (first | refine ⟨fun _ => ?_, fun h => absurd h (by decide)⟩ | refine ⟨fun h => absurd h (by decide), fun _ => ?_⟩)
        refine ⟨⟨by omega, by rw [hin]; omega⟩, _, hget, rfl, _, rfl, ?_⟩
        refine ⟨⟨by omega, by rw [hin]; omega⟩, _, hget, rfl, _, rfl, ?_⟩
        rw [Bool.false_or] at e1
        by_cases h1 : x = [108, 105]
        · have e3 : isL x = true := by rw [h1]; rfl
          rw [if_pos e3] at e2
          refine ⟨fun h => absurd (of_decide_eq_false h) (fun h => h h1), fun _ => ?_⟩
          repeat (first | refine ⟨fun _ => ?_, fun h => absurd (of_decide_eq_false h) (by omega)⟩ | refine ⟨fun h => absurd (of_decide_eq_true h) (by omega), fun _ => ?_⟩ | refine ⟨fun _ => ?_, fun h => absurd (of_decide_eq_true h) (by omega)⟩ | refine ⟨fun h => absurd (of_decide_eq_false h) (by omega), fun _ => ?_⟩ | refine .inl ⟨⟨by omega, by omega⟩, ?_⟩ | refine ⟨⟨by omega, by omega⟩, ?_⟩)
          refine ⟨_, hget, rfl, _, rfl, ?_⟩
          repeat (first | refine ⟨fun _ => ?_, fun h => absurd (of_decide_eq_false h) (by omega)⟩ | refine ⟨fun h => absurd (of_decide_eq_true h) (by omega), fun _ => ?_⟩ | refine ⟨fun _ => ?_, fun h => absurd (of_decide_eq_true h) (by omega)⟩ | refine ⟨fun h => absurd (of_decide_eq_false h) (by omega), fun _ => ?_⟩ | refine .inl ⟨⟨by omega, by omega⟩, ?_⟩ | refine ⟨⟨by omega, by omega⟩, ?_⟩)
          exact ⟨_, _, _, ⟨k + 1, rfl, hlt, rfl, rfl⟩, by omega, Mv.of [] rfl rfl rfl trivial (fin _ _ e1 e2)⟩
        · refine ⟨fun _ => ?_, fun h => absurd (of_decide_eq_true h) h1⟩
          refine ⟨⟨by omega, by rw [hin]; omega⟩, _, hget, rfl, _, rfl, ?_⟩
          by_cases h2 : x = [117, 108]
          · have e3 : isL x = true := by rw [h2]; rfl
            rw [if_pos e3] at e2
            refine ⟨fun h => absurd (of_decide_eq_false h) (fun h => h h2), fun _ => ?_⟩
            repeat (first | refine ⟨fun _ => ?_, fun h => absurd (of_decide_eq_false h) (by omega)⟩ | refine ⟨fun h => absurd (of_decide_eq_true h) (by omega), fun _ => ?_⟩ | refine ⟨fun _ => ?_, fun h => absurd (of_decide_eq_true h) (by omega)⟩ | refine ⟨fun h => absurd (of_decide_eq_false h) (by omega), fun _ => ?_⟩ | refine .inl ⟨⟨by omega, by omega⟩, ?_⟩ | refine ⟨⟨by omega, by omega⟩, ?_⟩)
            refine ⟨_, hget, rfl, _, rfl, ?_⟩
            repeat (first | refine ⟨fun _ => ?_, fun h => absurd (of_decide_eq_false h) (by omega)⟩ | refine ⟨fun h => absurd (of_decide_eq_true h) (by omega), fun _ => ?_⟩ | refine ⟨fun _ => ?_, fun h => absurd (of_decide_eq_true h) (by omega)⟩ | refine ⟨fun h => absurd (of_decide_eq_false h) (by omega), fun _ => ?_⟩ | refine .inl ⟨⟨by omega, by omega⟩, ?_⟩ | refine ⟨⟨by omega, by omega⟩, ?_⟩)
            exact ⟨_, _, _, ⟨k + 1, rfl, hlt, rfl, rfl⟩, by omega, Mv.of [] rfl rfl rfl trivial (fin _ _ e1 e2)⟩
          · refine ⟨fun _ => ?_, fun h => absurd (of_decide_eq_true h) h2⟩
            refine ⟨⟨by omega, by rw [hin]; omega⟩, _, hget, rfl, _, rfl, ?_⟩
            by_cases h3 : x = [111, 108]
            · have e3 : isL x = true := by rw [h3]; rfl
              rw [if_pos e3] at e2
              refine ⟨fun _ => ?_, fun h => absurd (of_decide_eq_false h) (fun h => h h3)⟩
              repeat (first | refine ⟨fun _ => ?_, fun h => absurd (of_decide_eq_false h) (by omega)⟩ | refine ⟨fun h => absurd (of_decide_eq_true h) (by omega), fun _ => ?_⟩ | refine ⟨fun _ => ?_, fun h => absurd (of_decide_eq_true h) (by omega)⟩ | refine ⟨fun h => absurd (of_decide_eq_false h) (by omega), fun _ => ?_⟩ | refine .inl ⟨⟨by omega, by omega⟩, ?_⟩ | refine ⟨⟨by omega, by omega⟩, ?_⟩)
              refine ⟨_, hget, rfl, _, rfl, ?_⟩
              repeat (first | refine ⟨fun _ => ?_, fun h => absurd (of_decide_eq_false h) (by omega)⟩ | refine ⟨fun h => absurd (of_decide_eq_true h) (by omega), fun _ => ?_⟩ | refine ⟨fun _ => ?_, fun h => absurd (of_decide_eq_true h) (by omega)⟩ | refine ⟨fun h => absurd (of_decide_eq_false h) (by omega), fun _ => ?_⟩ | refine .inl ⟨⟨by omega, by omega⟩, ?_⟩ | refine ⟨⟨by omega, by omega⟩, ?_⟩)
              exact ⟨_, _, _, ⟨k + 1, rfl, hlt, rfl, rfl⟩, by omega, Mv.of [] rfl rfl rfl trivial (fin _ _ e1 e2)⟩
            · have e3 : isL x = false := by unfold isL; rw [decide_eq_false h1, decide_eq_false h2, decide_eq_false h3]; rfl
              rw [if_neg (by rw [e3]; decide)] at e2
              refine ⟨fun h => absurd (of_decide_eq_true h) h3, fun _ => ?_⟩
              repeat (first | refine ⟨fun _ => ?_, fun h => absurd (of_decide_eq_false h) (by omega)⟩ | refine ⟨fun h => absurd (of_decide_eq_true h) (by omega), fun _ => ?_⟩ | refine ⟨fun _ => ?_, fun h => absurd (of_decide_eq_true h) (by omega)⟩ | refine ⟨fun h => absurd (of_decide_eq_false h) (by omega), fun _ => ?_⟩ | refine .inl ⟨⟨by omega, by omega⟩, ?_⟩ | refine ⟨⟨by omega, by omega⟩, ?_⟩)
              exact ⟨_, _, _, ⟨k + 1, rfl, hlt, rfl, rfl⟩, by omega, Mv.of [] rfl rfl rfl trivial (fin _ _ e1 e2)⟩
    · have hk' : k = ins.length := by have := of_decide_eq_false h; rw [hin] at this; omega
      subst hk'
      rw [List.take_length]
      exact ⟨_, _, ⟨rfl, rfl⟩, Mv.of [] rfl rfl rfl trivial ⟨rfl, rfl, rfl, rfl, trivial⟩⟩
  rintro _ _ ⟨rfl, rfl⟩
  have hps := p_snoc ins
  have hls := li_snoc ins
  generalize hP : decide (([112] : List UInt8) ∈ ins) = P at *
  generalize hL : lastL ins = La at *
  generalize hli : decide (La = [108, 105]) = li at *
  refine E.seq (E.of Try.wf Try.tab_ok ?_)
  refine loopE (fun m s' σ => ∃ (k : Nat), m = l.length - k ∧ k ≤ l.length ∧ stL (prevB l k) P li (l.drop k) = stL false P li l ∧ s' = [(0, .d (.sl (nodesD l))), (1, .d (.sl (strsD ins))), (5, .d (.bool P)), (6, .d (.str La)), (8, .d (.int .i64 k))] ∧ σ = ⟨0, []⟩)
    ⟨0, rfl, Nat.zero_le _, rfl, rfl, rfl⟩ (Mv.of [] rfl rfl rfl trivial ⟨rfl, rfl, rfl, rfl, rfl, trivial⟩) ?_
  rintro _ _ _ ⟨k, rfl, hk, hI, rfl, rfl⟩
  have no : ∀ σ : Store, stL false P li l = false → ∃ r2 σ2, FinMove ⟨0, []⟩ (AV.d (.bool false)) σ r2 σ2 ∧ r2 = AV.d (.bool (stL false P li l)) ∧ σ2.n = 0 := fun σ h => ⟨_, _, fin_out rfl, by rw [h], rfl⟩
  refine E.seq (E.of Try.wf Try.tab_ok ?_)
  refine ⟨fun h => ?_, fun h => ?_⟩
  · have hlt : k < l.length := by have := of_decide_eq_true h; rw [hn] at this; omega
    clear h
    rw [List.drop_eq_getElem_cons hlt, stL_cons] at hI
    have hpb := prevB_succ l k hlt
    have hks := kids_lt (List.getElem_mem hlt)
    have hsn := (ShN_eq _).1 (ShL_mem hS _ (List.getElem_mem hlt))
    have hget := nodesD_get l k hlt
    have hkl := nodesD_len l[k].kids
    have hal := attrsD_len l[k].attrs
    have haz : decide ((0 : Int) < ((attrsD l[k].attrs).length : Nat)) = !decide (l[k].attrs = []) := by
      rw [hal]; cases l[k].attrs <;> simp
    have hkz : decide ((0 : Int) < ((nodesD l[k].kids).length : Nat)) = !decide (l[k].kids = []) := by
      rw [hkl]; cases l[k].kids <;> simp
    refine E.seq (blockE ?_)
    refine E.seq (E.of Try.wf Try.tab_ok ?_)
    refine ⟨⟨by omega, by rw [hn]; omega⟩, _, hget, rfl, ?_⟩
    refine ⟨Nat.le_refl _, _, rfl, rfl, Nat.le_refl _, ?_⟩
    refine midT Try.wf Try.tab_ok (fun s' σ => l[k].name ≠ [] ∧ s' = [(0, .d (.sl (nodesD l))), (1, .d (.sl (strsD ins))), (5, .d (.bool P)), (6, .d (.str La)), (8, .d (.int .i64 k)), (9, .ref 0 0 0)] ∧ σ = ⟨1, [(0, nodeO l[k])]⟩) ?_ ?_
    · refine ⟨_, rfl, _, rfl, ?_⟩
      by_cases hne : l[k].name = []
      · rw [if_pos hne] at hI
        rw [decide_eq_true hne] at hpb
        refine ⟨fun _ => ?_, fun h => absurd (of_decide_eq_false h) (fun h => h hne)⟩
        refine ⟨_, rfl, _, rfl, ?_⟩
        by_cases ht : l[k].text = []
        · rw [decide_eq_true ht, Bool.not_true, Bool.and_false, Bool.false_and] at hI
          refine ⟨fun h => absurd (of_decide_eq_false h) (fun h => h ht), fun _ => ?_⟩
          repeat (first | refine ⟨fun _ => ?_, fun h => absurd h (by decide)⟩ | refine ⟨fun h => absurd h (by decide), fun _ => ?_⟩)
          exact no _ hI.symm
        · rw [decide_eq_false ht] at hI
          refine ⟨fun _ => ?_, fun h => absurd (of_decide_eq_true h) ht⟩
          refine ⟨_, rfl, _, rfl, ?_⟩
          by_cases hza : l[k].attrs = []
          · rw [decide_eq_true hza] at hI haz
            refine ⟨fun _ => ?_, fun h => absurd (h.symm.trans haz) (by decide)⟩
            refine ⟨_, rfl, _, rfl, ?_⟩
            by_cases hzk : l[k].kids = []
            · rw [decide_eq_true hzk] at hI hkz
              refine ⟨fun _ => ?_, fun h => absurd (h.symm.trans hkz) (by decide)⟩
              have hI3 : (!prevB l k && stL true P li (l.drop (k + 1))) = stL false P li l := by
                rw [← hI]; simp
              have hfin : prevB l k = false → stL (prevB l (k + 1)) P li (l.drop (k + 1)) = stL false P li l := fun h => by
                rw [hpb, ← hI3, h]; rfl
              by_cases hk0 : 0 < k
              · refine ⟨fun _ => ?_, fun h => absurd (of_decide_eq_false h) (by omega)⟩
                have hgetp : (nodesD l)[((k : Int) - 1).toNat]? = some [.str (l[k - 1]'(by omega)).name, .sl (attrsD (l[k - 1]'(by omega)).attrs), .str (l[k - 1]'(by omega)).text, .sl (nodesD (l[k - 1]'(by omega)).kids)] := by
                  rw [show ((k : Int) - 1) = ((k - 1 : Nat) : Int) by omega]; exact nodesD_get l (k - 1) (by omega)
                refine .inl ⟨⟨by omega, by omega⟩, ?_⟩
                refine ⟨⟨by omega, by rw [hn]; omega⟩, _, hgetp, rfl, _, rfl, ?_⟩
                have hpk : prevB l k = decide ((l[k - 1]'(by omega)).name = []) := by
                  obtain ⟨j, rfl⟩ : ∃ j, k = j + 1 := ⟨k - 1, by omega⟩
                  exact prevB_succ l j (by omega)
                by_cases hp : (l[k - 1]'(by omega)).name = []
                · rw [hpk, decide_eq_true hp] at hI3
                  refine ⟨fun _ => ?_, fun h => absurd (of_decide_eq_false h) (fun h => h hp)⟩
                  exact no _ hI3.symm
                · refine ⟨fun h => absurd (of_decide_eq_true h) hp, fun _ => ?_⟩
                  refine E.of Try.wf Try.tab_ok ?_
                  repeat (first | refine ⟨fun _ => ?_, fun h => absurd (of_decide_eq_false h) (by omega)⟩ | refine ⟨fun h => absurd (of_decide_eq_true h) (by omega), fun _ => ?_⟩ | refine ⟨fun _ => ?_, fun h => absurd (of_decide_eq_true h) (by omega)⟩ | refine ⟨fun h => absurd (of_decide_eq_false h) (by omega), fun _ => ?_⟩ | refine .inl ⟨⟨by omega, by omega⟩, ?_⟩ | refine ⟨⟨by omega, by omega⟩, ?_⟩)
                  exact ⟨_, _, _, ⟨k + 1, rfl, hlt, hfin (by rw [hpk, decide_eq_false hp]), rfl, rfl⟩, by omega, Mv.of [] rfl rfl rfl trivial ⟨rfl, rfl, rfl, rfl, rfl, trivial⟩⟩
              · refine ⟨fun h => absurd (of_decide_eq_true h) (by omega), fun _ => ?_⟩
                repeat (first | refine ⟨fun _ => ?_, fun h => absurd h (by decide)⟩ | refine ⟨fun h => absurd h (by decide), fun _ => ?_⟩)
                refine E.of Try.wf Try.tab_ok ?_
                repeat (first | refine ⟨fun _ => ?_, fun h => absurd (of_decide_eq_false h) (by omega)⟩ | refine ⟨fun h => absurd (of_decide_eq_true h) (by omega), fun _ => ?_⟩ | refine ⟨fun _ => ?_, fun h => absurd (of_decide_eq_true h) (by omega)⟩ | refine ⟨fun h => absurd (of_decide_eq_false h) (by omega), fun _ => ?_⟩ | refine .inl ⟨⟨by omega, by omega⟩, ?_⟩ | refine ⟨⟨by omega, by omega⟩, ?_⟩)
                have hz : k = 0 := by omega
                exact ⟨_, _, _, ⟨k + 1, rfl, hlt, hfin (by rw [hz]; rfl), rfl, rfl⟩, by omega, Mv.of [] rfl rfl rfl trivial ⟨rfl, rfl, rfl, rfl, rfl, trivial⟩⟩
            · rw [decide_eq_false hzk] at hI hkz
              rw [Bool.and_false, Bool.false_and] at hI
              refine ⟨fun h => absurd (h.symm.trans hkz) (by decide), fun _ => ?_⟩
              repeat (first | refine ⟨fun _ => ?_, fun h => absurd h (by decide)⟩ | refine ⟨fun h => absurd h (by decide), fun _ => ?_⟩)
              exact no _ hI.symm
          · rw [decide_eq_false hza] at hI haz
            rw [Bool.and_false, Bool.false_and, Bool.false_and] at hI
            refine ⟨fun h => absurd (h.symm.trans haz) (by decide), fun _ => ?_⟩
            repeat (first | refine ⟨fun _ => ?_, fun h => absurd h (by decide)⟩ | refine ⟨fun h => absurd h (by decide), fun _ => ?_⟩)
            exact no _ hI.symm
      · refine ⟨fun h => absurd (of_decide_eq_true h) hne, fun _ => ?_⟩
        exact ⟨_, _, ⟨hne, rfl, rfl⟩, Mv.of [.old 0] rfl rfl rfl ⟨⟨rfl, .inl ⟨rfl, fun row h => by rw [List.mem_singleton.1 h]; rfl⟩⟩, trivial⟩ ⟨rfl, rfl, rfl, rfl, rfl, ⟨rfl, rfl, rfl⟩, trivial⟩⟩
    rintro _ _ ⟨hne, rfl, rfl⟩
    rw [if_neg hne, stN_eq] at hI
    rw [decide_eq_false hne] at hpb
    have hown : ownB l[k] = (decide (l[k].text = []) && (small l[k].name [45] && !rawB l[k].name) && attrsFrom [] l[k].attrs && !(decide (l[k].name ∈ voids) && !decide (l[k].kids = []))) := by
      unfold ownB
      cases rawB l[k].name <;> cases small l[k].name [45] <;> cases decide (l[k].text = []) <;> cases attrsFrom [] l[k].attrs <;> cases decide (l[k].name ∈ voids) <;> cases decide (l[k].kids = []) <;> rfl
    have c1 := Element_ok l[k].name (by omega)
    have c2 := rattrs_ok l[k].attrs hsn.2.1
    have c3 := rVoid_ok l[k].name
    have c4 := rBlock_ok l[k].name
    have c5 := ih (szL l[k].kids) (by omega) l[k].kids (ins ++ [l[k].name]) (Nat.le_refl _) (by simp only [List.length_append, List.length_cons, List.length_nil]; omega) hsn.2.2.2
    rw [hps, hls] at c5
    refine midT Try.wf Try.tab_ok (fun s' σ => ownB l[k] = true ∧ s' = [(0, .d (.sl (nodesD l))), (1, .d (.sl (strsD ins))), (5, .d (.bool P)), (6, .d (.str La)), (8, .d (.int .i64 k)), (9, .ref 0 0 0)] ∧ σ = ⟨1, [(0, nodeO l[k])]⟩) ?_ ?_
    · rw [hown] at hI ⊢
      have done : Mv 0 [(0, .d (.sl (nodesD l)))] ⟨0, []⟩ [(0, .d (.sl (nodesD l)))] ⟨0, []⟩ := Mv.of [] rfl rfl rfl trivial ⟨rfl, trivial⟩
      clear done
      refine ⟨_, rfl, _, rfl, ?_⟩
      by_cases ht : l[k].text = []
      · rw [decide_eq_true ht] at hI ⊢
        refine ⟨fun _ => ?_, fun h => absurd h (by rw [ht]; decide)⟩
        refine ⟨_, rfl, _, rfl, ?_⟩
        refine PureC.use c1 ?_
        generalize (small l[k].name [45] && !rawB l[k].name) = b1 at *
        cases b1 with
        | false =>
          repeat (first | refine ⟨fun _ => ?_, fun h => absurd h (by decide)⟩ | refine ⟨fun h => absurd h (by decide), fun _ => ?_⟩)
          exact no _ hI.symm
        | true =>
          repeat (first | refine ⟨fun _ => ?_, fun h => absurd h (by decide)⟩ | refine ⟨fun h => absurd h (by decide), fun _ => ?_⟩)
          refine ⟨_, rfl, _, rfl, ?_⟩
          refine PureC.use c2 ?_
          generalize attrsFrom [] l[k].attrs = b2 at *
          cases b2 with
          | false =>
            repeat (first | refine ⟨fun _ => ?_, fun h => absurd h (by decide)⟩ | refine ⟨fun h => absurd h (by decide), fun _ => ?_⟩)
            exact no _ hI.symm
          | true =>
            repeat (first | refine ⟨fun _ => ?_, fun h => absurd h (by decide)⟩ | refine ⟨fun h => absurd h (by decide), fun _ => ?_⟩)
            refine ⟨_, rfl, _, rfl, ?_⟩
            refine PureC.use c3 ?_
            generalize decide (l[k].name ∈ voids) = b3 at *
            cases b3 with
            | true =>
              repeat (first | refine ⟨fun _ => ?_, fun h => absurd h (by decide)⟩ | refine ⟨fun h => absurd h (by decide), fun _ => ?_⟩)
              refine ⟨_, rfl, _, rfl, ?_⟩
              by_cases hz : l[k].kids = []
              · rw [decide_eq_true hz] at hkz ⊢
                refine ⟨fun h => absurd (h.symm.trans hkz) (by decide), fun _ => ?_⟩
                exact ⟨_, _, ⟨rfl, rfl, rfl⟩, Mv.of [.old 0] rfl rfl rfl ⟨⟨rfl, .inl ⟨rfl, fun row h => by rw [List.mem_singleton.1 h]; rfl⟩⟩, trivial⟩ ⟨rfl, rfl, rfl, rfl, rfl, ⟨rfl, rfl, rfl⟩, trivial⟩⟩
              · rw [decide_eq_false hz] at hkz hI
                refine ⟨fun _ => no _ hI.symm, fun h => absurd (h.symm.trans hkz) (by decide)⟩
            | false =>
              repeat (first | refine ⟨fun _ => ?_, fun h => absurd h (by decide)⟩ | refine ⟨fun h => absurd h (by decide), fun _ => ?_⟩)
              exact ⟨_, _, ⟨rfl, rfl, rfl⟩, Mv.of [.old 0] rfl rfl rfl ⟨⟨rfl, .inl ⟨rfl, fun row h => by rw [List.mem_singleton.1 h]; rfl⟩⟩, trivial⟩ ⟨rfl, rfl, rfl, rfl, rfl, ⟨rfl, rfl, rfl⟩, trivial⟩⟩
      · rw [decide_eq_false ht] at hI
        refine ⟨fun h => absurd h (by show ¬ (!decide (l[k].text = [])) = false; rw [decide_eq_false ht]; decide), fun _ => ?_⟩
        repeat (first | refine ⟨fun _ => ?_, fun h => absurd h (by decide)⟩ | refine ⟨fun h => absurd h (by decide), fun _ => ?_⟩)
        exact no _ hI.symm
    rintro _ _ ⟨hQ, rfl, rfl⟩
    rw [hQ, Bool.true_and] at hI
    refine midT Try.wf Try.tab_ok (fun s' σ => (!(P && decide (l[k].name ∈ blocks)) && !(li && decide (l[k].name = [108, 105]))) = true ∧ s' = [(0, .d (.sl (nodesD l))), (1, .d (.sl (strsD ins))), (5, .d (.bool P)), (6, .d (.str La)), (8, .d (.int .i64 k)), (9, .ref 0 0 0)] ∧ σ = ⟨1, [(0, nodeO l[k])]⟩) ?_ ?_
    · rw [Bool.and_assoc] at hI
      cases P with
      | true =>
        repeat (first | refine ⟨fun _ => ?_, fun h => absurd h (by decide)⟩ | refine ⟨fun h => absurd h (by decide), fun _ => ?_⟩)
        refine ⟨_, rfl, _, rfl, ?_⟩
        refine PureC.use c4 ?_
        generalize decide (l[k].name ∈ blocks) = b4 at *
        cases b4 with
        | true =>
          repeat (first | refine ⟨fun _ => ?_, fun h => absurd h (by decide)⟩ | refine ⟨fun h => absurd h (by decide), fun _ => ?_⟩)
          exact no _ hI.symm
        | false =>
          repeat (first | refine ⟨fun _ => ?_, fun h => absurd h (by decide)⟩ | refine ⟨fun h => absurd h (by decide), fun _ => ?_⟩)
          refine ⟨_, rfl, _, rfl, ?_⟩
          by_cases hn1 : l[k].name = [108, 105]
          · rw [decide_eq_true hn1] at hI ⊢
            refine ⟨fun _ => ?_, fun h => absurd (of_decide_eq_false h) (fun h => h hn1)⟩
            by_cases hl1 : La = [108, 105]
            · rw [decide_eq_true hl1] at hli
              subst hli
              refine ⟨fun _ => ?_, fun h => absurd (of_decide_eq_false h) (fun h => h hl1)⟩
              exact no _ hI.symm
            · rw [decide_eq_false hl1] at hli
              subst hli
              refine ⟨fun h => absurd (of_decide_eq_true h) hl1, fun _ => ?_⟩
              exact ⟨_, _, ⟨(by simp), rfl, rfl⟩, Mv.of [.old 0] rfl rfl rfl ⟨⟨rfl, .inl ⟨rfl, fun row h => by rw [List.mem_singleton.1 h]; rfl⟩⟩, trivial⟩ ⟨rfl, rfl, rfl, rfl, rfl, ⟨rfl, rfl, rfl⟩, trivial⟩⟩
          · rw [decide_eq_false hn1, Bool.and_false]
            refine ⟨fun h => absurd (of_decide_eq_true h) hn1, fun _ => ?_⟩
            repeat (first | refine ⟨fun _ => ?_, fun h => absurd h (by decide)⟩ | refine ⟨fun h => absurd h (by decide), fun _ => ?_⟩)
            exact ⟨_, _, ⟨(by simp), rfl, rfl⟩, Mv.of [.old 0] rfl rfl rfl ⟨⟨rfl, .inl ⟨rfl, fun row h => by rw [List.mem_singleton.1 h]; rfl⟩⟩, trivial⟩ ⟨rfl, rfl, rfl, rfl, rfl, ⟨rfl, rfl, rfl⟩, trivial⟩⟩
      | false =>
        repeat (first | refine ⟨fun _ => ?_, fun h => absurd h (by decide)⟩ | refine ⟨fun h => absurd h (by decide), fun _ => ?_⟩)
        refine ⟨_, rfl, _, rfl, ?_⟩
        by_cases hn1 : l[k].name = [108, 105]
        · rw [decide_eq_true hn1] at hI ⊢
          refine ⟨fun _ => ?_, fun h => absurd (of_decide_eq_false h) (fun h => h hn1)⟩
          by_cases hl1 : La = [108, 105]
          · rw [decide_eq_true hl1] at hli
            subst hli
            refine ⟨fun _ => ?_, fun h => absurd (of_decide_eq_false h) (fun h => h hl1)⟩
            exact no _ hI.symm
          · rw [decide_eq_false hl1] at hli
            subst hli
            refine ⟨fun h => absurd (of_decide_eq_true h) hl1, fun _ => ?_⟩
            exact ⟨_, _, ⟨(by simp), rfl, rfl⟩, Mv.of [.old 0] rfl rfl rfl ⟨⟨rfl, .inl ⟨rfl, fun row h => by rw [List.mem_singleton.1 h]; rfl⟩⟩, trivial⟩ ⟨rfl, rfl, rfl, rfl, rfl, ⟨rfl, rfl, rfl⟩, trivial⟩⟩
        · rw [decide_eq_false hn1, Bool.and_false]
          refine ⟨fun h => absurd (of_decide_eq_true h) hn1, fun _ => ?_⟩
          repeat (first | refine ⟨fun _ => ?_, fun h => absurd h (by decide)⟩ | refine ⟨fun h => absurd h (by decide), fun _ => ?_⟩)
          exact ⟨_, _, ⟨(by simp), rfl, rfl⟩, Mv.of [.old 0] rfl rfl rfl ⟨⟨rfl, .inl ⟨rfl, fun row h => by rw [List.mem_singleton.1 h]; rfl⟩⟩, trivial⟩ ⟨rfl, rfl, rfl, rfl, rfl, ⟨rfl, rfl, rfl⟩, trivial⟩⟩
    rintro _ _ ⟨hQ2, rfl, rfl⟩
    rw [hQ2, Bool.true_and] at hI
    refine E.seq (drawnZ Try.wf Try.tab_ok [2, 4, 8] (fun t => match t with
      | 0 => ⟨1, [(0, nodeO l[k])]⟩
      | 1 => ⟨2, [(1, .rows (1, 9) []), (0, nodeO l[k])]⟩
      | 2 => ⟨3, [(2, .rows (1, 9) ((strsD ins).map fun r => r.map AV.d)), (0, nodeO l[k])]⟩
      | _ => ⟨3, [(0, nodeO l[k])]⟩) rfl Try.mixed (by decide +kernel) ?_)
    refine zblind (by decide +kernel) rfl rfl (fun _ => FinMove.refl _ _ _) ?_
    refine zreadL (List.range 5) (by decide +kernel) rfl rfl (by repeat' first | exact trivial | exact ⟨_, rfl, _, rfl, FinMove.refl _ _ _⟩ | refine ⟨?_, ?_⟩) ?_
    refine zeff (r := .own 1 0 0) rfl rfl rfl (FinMove.refl _ _ _) ?_
    refine zblind (by decide +kernel) rfl rfl (fun _ => FinMove.refl _ _ _) ?_
    refine zeff (r := .own 2 0 (0 + ((strsD ins).map fun r => r.map AV.d).length)) rfl rfl rfl ?_ ?_
    · refine ⟨[], (strsD ins).map fun r => r.map AV.d, rfl, rfl, rfl, trivial, (by rw [List.length_map, hin]; show (0 + ins.length) * 16 ≤ _; omega), Nat.le_refl _, Nat.le_of_ble_eq_true rfl, rfl, rfl, rowsNone, strsRows ins, ?_⟩
      show FinMove (⟨2, [(1, .rows (1, 9) []), (0, nodeO l[k])]⟩ : Store) (.own 2 0 (0 + ((strsD ins).map fun r => r.map AV.d).length)) ⟨3, [(2, .rows (1, 9) ([] ++ (strsD ins).map fun r => r.map AV.d)), (1, .dead), (1, .rows (1, 9) []), (0, nodeO l[k])]⟩ (.own 2 0 (0 + ((strsD ins).map fun r => r.map AV.d).length)) ⟨3, [(2, .rows (1, 9) ((strsD ins).map fun r => r.map AV.d)), (0, nodeO l[k])]⟩
      exact fin_mv [.old 2] rfl rfl rfl ⟨⟨rfl, .inl ⟨rfl, strsPure ins⟩⟩, ⟨rfl, .inl ⟨rfl, fun row h => by rw [List.mem_singleton.1 h]; rfl⟩⟩, trivial⟩ ⟨rfl, rfl, rfl⟩
    refine zblind (by decide +kernel) rfl rfl (fun _ => FinMove.refl _ _ _) ?_
    refine zreadL (List.range 5) (by decide +kernel) rfl rfl (by repeat' first | exact trivial | exact ⟨_, rfl, _, rfl, FinMove.refl _ _ _⟩ | refine ⟨?_, ?_⟩) ?_
    refine zreadL (r := .d (.sl [[.str l[k].name]])) [0, 1, 2] (by decide +kernel) rfl rfl ⟨
      fin_lit rfl rfl rfl ⟨⟨rfl, .inl ⟨rfl, fun row h => by rw [List.mem_singleton.1 h]; rfl⟩⟩, trivial⟩,
      fin_lit rfl rfl rfl ⟨⟨rfl, .inl ⟨rfl, fun _ h => by cases h⟩⟩, ⟨rfl, .inl ⟨rfl, fun row h => by rw [List.mem_singleton.1 h]; rfl⟩⟩, trivial⟩,
      fin_lit rfl rfl rfl ⟨⟨rfl, .inl ⟨rfl, strsPure ins⟩⟩, ⟨rfl, .inl ⟨rfl, fun row h => by rw [List.mem_singleton.1 h]; rfl⟩⟩, trivial⟩, trivial⟩ ?_
    refine zeff (r := .d (.sl (strsD (ins ++ [l[k].name])))) rfl rfl rfl ?_ ?_
    · have hlen : ((strsD ins).map fun r => r.map AV.d).length = ins.length := by rw [List.length_map, hin]
      refine ⟨(strsD ins).map fun r => r.map AV.d, [[.d (.str l[k].name)]], congrArg some (takeAll (Nat.zero_add _).symm), rfl, (by dsimp only [ev, putS, look, Nat.beq]; exact (show srcLen (.own 2 0 (0 + ((strsD ins).map fun r => r.map AV.d).length)) ((strsD ins).map fun r => r.map AV.d).length from (Nat.zero_add _).symm)), trivial, (by rw [hlen]; show (ins.length + 1) * 16 ≤ _; omega), Nat.le_refl _, Nat.le_of_ble_eq_true rfl, rfl, rfl, strsRows ins, rowsOne rfl rfl, ?_⟩
      show FinMove (⟨3, [(2, .rows (1, 9) ((strsD ins).map fun r => r.map AV.d)), (0, nodeO l[k])]⟩ : Store) (.own 3 0 (((strsD ins).map fun r => r.map AV.d).length + 1)) ⟨4, [(3, .rows (1, 9) (((strsD ins).map fun r => r.map AV.d) ++ [[.d (.str l[k].name)]])), (2, .dead), (2, .rows (1, 9) ((strsD ins).map fun r => r.map AV.d)), (0, nodeO l[k])]⟩ (.d (.sl (strsD (ins ++ [l[k].name])))) ⟨3, [(0, nodeO l[k])]⟩
      have hrd : rowsD (((strsD ins).map fun r => r.map AV.d) ++ [[.d (.str l[k].name)]]) = some (strsD (ins ++ [l[k].name])) := strs_rowsD ins l[k].name
      have h1 := fin_freeze (σ0 := (⟨3, [(2, .rows (1, 9) ((strsD ins).map fun r => r.map AV.d)), (0, nodeO l[k])]⟩ : Store)) (r := .own 3 0 (((strsD ins).map fun r => r.map AV.d).length + 1)) (σ := ⟨4, [(3, .rows (1, 9) (((strsD ins).map fun r => r.map AV.d) ++ [[.d (.str l[k].name)]])), (2, .dead), (2, .rows (1, 9) ((strsD ins).map fun r => r.map AV.d)), (0, nodeO l[k])]⟩) 3 rfl hrd (fun _ => by simp)
      rw [frz_whole 3 _ _ (by rw [hlen, strsD_len]; simp)] at h1
      exact h1.trans (fin_mv [] rfl rfl rfl ⟨⟨rfl, .inl ⟨rfl, fun row h => by rw [List.mem_singleton.1 h]; rfl⟩⟩, trivial⟩ rfl)
    refine zreadL [3] (by decide +kernel) rfl rfl ⟨PureC.use c5 (FinMove.refl _ _ _), trivial⟩ ?_
    refine zblind (by decide +kernel) rfl rfl (fun _ => FinMove.refl _ _ _) ?_
    generalize stL false (P || decide (l[k].name = [112])) (inLi li l[k].name) l[k].kids = b at *
    refine E.of Try.wf Try.tab_ok ?_
    cases b with
    | false =>
      repeat (first | refine ⟨fun _ => ?_, fun h => absurd h (by decide)⟩ | refine ⟨fun h => absurd h (by decide), fun _ => ?_⟩)
      exact no _ hI.symm
    | true =>
      repeat (first | refine ⟨fun _ => ?_, fun h => absurd h (by decide)⟩ | refine ⟨fun h => absurd h (by decide), fun _ => ?_⟩)
      refine E.of Try.wf Try.tab_ok ?_
      repeat (first | refine ⟨fun _ => ?_, fun h => absurd (of_decide_eq_false h) (by omega)⟩ | refine ⟨fun h => absurd (of_decide_eq_true h) (by omega), fun _ => ?_⟩ | refine ⟨fun _ => ?_, fun h => absurd (of_decide_eq_true h) (by omega)⟩ | refine ⟨fun h => absurd (of_decide_eq_false h) (by omega), fun _ => ?_⟩ | refine .inl ⟨⟨by omega, by omega⟩, ?_⟩ | refine ⟨⟨by omega, by omega⟩, ?_⟩)
      refine ⟨_, _, _, ⟨k + 1, rfl, hlt, ?_, rfl, rfl⟩, by omega, Mv.of [] rfl rfl rfl trivial ⟨rfl, rfl, rfl, rfl, rfl, trivial⟩⟩
      rw [hpb]; exact hI
  · refine E.of Try.wf Try.tab_ok ?_
    have hk' : k = l.length := by have := of_decide_eq_false h; rw [hn] at this; omega
    subst hk'
    rw [List.drop_length] at hI
    exact ⟨_, _, fin_out rfl, congrArg (fun b => AV.d (.bool b)) (show true = stL false P li l from hI), rfl⟩

set_option maxRecDepth 100000 in
theorem rStable_ok (l : List Node) (hl : szL l ≤ 1000000000) (hS : ShL l) : PureC Try.prog 16 [.d (.sl (nodesD l))] (.d (.bool (stableB l))) := by
  refine pure_okT Try.wf Try.tab_ok Try.func16 (by decide +kernel) rfl rfl rfl rfl ?_
  have c1 := rSize_ok (szL l) l (Nat.le_refl _) hl
  have c2 := rstable_ok (szL l) l [] (Nat.le_refl _) (by simpa using hl) hS
  unfold sizeV at c1
  unfold stableB
  generalize szL l = a at *
  generalize dpL l = b at *
  have e : stL false (decide (([112] : List UInt8) ∈ ([] : List (List UInt8)))) (decide (lastL [] = [108, 105])) l = stL false false false l := by simp [lastL]
  rw [e] at c2
  generalize stL false false false l = c at *
  refine PureC.use c1 ?_
  by_cases h1 : a ≤ 2000
  · rw [decide_eq_true h1]
    by_cases h2 : b ≤ 64
    · rw [decide_eq_true h2]
      repeat (first | refine ⟨fun _ => ?_, fun h => absurd (of_decide_eq_false h) (by omega)⟩ | refine ⟨fun h => absurd (of_decide_eq_true h) (by omega), fun _ => ?_⟩ | refine ⟨fun _ => ?_, fun h => absurd (of_decide_eq_true h) (by omega)⟩ | refine ⟨fun h => absurd (of_decide_eq_false h) (by omega), fun _ => ?_⟩ | refine .inl ⟨⟨by omega, by omega⟩, ?_⟩ | refine ⟨⟨by omega, by omega⟩, ?_⟩)
      refine CallsAbs.sub (args' := [.d (.sl (nodesD l)), .d (.sl (strsD []))]) (Sub.agg rfl fun i x y hx hy => ?_) (PureC.use c2 ⟨_, _, fin_out rfl, rfl⟩)
      match i with
      | 0 => cases hx; cases hy; exact Sub.refl _
      | 1 => cases hx; cases hy; exact Sub.nil
      | _ + 2 => cases hx
    · rw [decide_eq_false h2]
      repeat (first | refine ⟨fun _ => ?_, fun h => absurd (of_decide_eq_false h) (by omega)⟩ | refine ⟨fun h => absurd (of_decide_eq_true h) (by omega), fun _ => ?_⟩ | refine ⟨fun _ => ?_, fun h => absurd (of_decide_eq_true h) (by omega)⟩ | refine ⟨fun h => absurd (of_decide_eq_false h) (by omega), fun _ => ?_⟩ | refine .inl ⟨⟨by omega, by omega⟩, ?_⟩ | refine ⟨⟨by omega, by omega⟩, ?_⟩)
      exact ⟨_, _, fin_out rfl, rfl⟩
  · rw [decide_eq_false h1]
    repeat (first | refine ⟨fun _ => ?_, fun h => absurd (of_decide_eq_false h) (by omega)⟩ | refine ⟨fun h => absurd (of_decide_eq_true h) (by omega), fun _ => ?_⟩ | refine ⟨fun _ => ?_, fun h => absurd (of_decide_eq_true h) (by omega)⟩ | refine ⟨fun h => absurd (of_decide_eq_false h) (by omega), fun _ => ?_⟩ | refine .inl ⟨⟨by omega, by omega⟩, ?_⟩ | refine ⟨⟨by omega, by omega⟩, ?_⟩)
    exact ⟨_, _, fin_out rfl, rfl⟩

end Go.Proofs.Ytcmkiancbgmmhaa
