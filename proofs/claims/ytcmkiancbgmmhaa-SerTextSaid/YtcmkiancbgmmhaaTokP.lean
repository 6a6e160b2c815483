import Derived.Test.YtcmkiancbgmmhaaRefsP
import Derived.Test.YtcmkiancbgmmhaaSerB
import Derived.Test.YtcmkiancbgmmhaaWk
namespace Go.Proofs.Ytcmkiancbgmmhaa
open Go.Aw
set_option maxHeartbeats 1600000
set_option linter.unusedSimpArgs false
set_option linter.unusedVariables false

abbrev Attr := List UInt8 × List UInt8
/-- A token, as plain data. -/
structure Tok where
  kd : Int
  nm : List UInt8
  ats : List (List UInt8 × List UInt8)
  cl : Bool
  tx : List UInt8
  deriving DecidableEq
def tokD (t : Tok) : List D := [.int .i64 t.kd, .str t.nm, .sl (attrsD t.ats), .bool t.cl, .str t.tx]
def toksD (l : List Tok) : List (List D) := l.map tokD
theorem toksD_len (l : List Tok) : (toksD l).length = l.length := by simp [toksD]
theorem toksD_get (l : List Tok) (k : Nat) (h : k < l.length) : (toksD l)[((k : Nat) : Int).toNat]? = some (tokD l[k]) := by
  rw [Int.toNat_natCast]; simp [toksD, h]

def blkB (c : UInt8) : Bool := decide (c.toNat = 9) || (decide (c.toNat = 10) || (decide (c.toNat = 12) || (decide (c.toNat = 13) || decide (c.toNat = 32))))
def ltrB (c : UInt8) : Bool := (decide (97 ≤ c.toNat) && decide (c.toNat ≤ 122)) || (decide (65 ≤ c.toNat) && decide (c.toNat ≤ 90))
/-- Of what a text begins with. -/
def hdB (p : UInt8 → Bool) : List UInt8 → Bool
  | c :: _ => p c
  | [] => false
/-- How far something holds of what is left. -/
def runN (p : List UInt8 → Bool) : List UInt8 → Nat
  | [] => 0
  | c :: r => if p (c :: r) then runN p r + 1 else 0
theorem runN_le (p : List UInt8 → Bool) : ∀ s : List UInt8, runN p s ≤ s.length
  | [] => Nat.le_refl _
  | c :: r => by
    have := runN_le p r
    unfold runN
    split <;> simp <;> omega
theorem runN_in (p : List UInt8 → Bool) : ∀ (s : List UInt8) (j : Nat), j < runN p s → p (s.drop j) = true
  | [], j, h => by simp [runN] at h
  | c :: r, j, h => by
    unfold runN at h
    split at h
    · rename_i hp
      cases j with
      | zero => exact hp
      | succ j => exact runN_in p r j (by omega)
    · omega
theorem runN_stop (p : List UInt8 → Bool) : ∀ (s : List UInt8), runN p s < s.length → p (s.drop (runN p s)) = false
  | [], h => by simp [runN] at h
  | c :: r, h => by
    unfold runN at h ⊢
    split
    · rename_i hp
      rw [if_pos hp] at h
      exact runN_stop p r (by simp at h; omega)
    · rename_i hp
      simpa using hp
theorem runN_eq (p : List UInt8 → Bool) (s : List UInt8) (k : Nat) (hk : k ≤ s.length) (h1 : ∀ j, j < k → p (s.drop j) = true) (h2 : k < s.length → p (s.drop k) = false) : runN p s = k := by
  have h3 := runN_le p s
  rcases Nat.lt_trichotomy (runN p s) k with h | h | h
  · have := runN_stop p s (by omega)
    rw [h1 _ h] at this; cases this
  · exact h
  · have := runN_in p s k h
    rw [h2 (by omega)] at this; cases this
theorem runN_more (p : List UInt8 → Bool) (s : List UInt8) (k : Nat) (hk : k ≤ runN p s) (hl : k < s.length) (h : p (s.drop k) = true) : k + 1 ≤ runN p s := by
  rcases Nat.lt_or_ge k (runN p s) with h1 | h1
  · exact h1
  · have : k = runN p s := by omega
    have h2 := runN_stop p s (by omega)
    rw [← this, h] at h2; cases h2
theorem runN_done (p : List UInt8 → Bool) (s : List UInt8) (k : Nat) (hk : k ≤ runN p s) (h : k < s.length → p (s.drop k) = false) : k = runN p s := by
  rcases Nat.lt_or_ge k (runN p s) with h1 | h1
  · have h2 := runN_in p s k h1
    have := runN_le p s
    rw [h (by omega)] at h2; cases h2
  · omega

def kindL (s : List UInt8) : Nat := match s with
  | a :: c :: r => if a = 60 then
      (if hasPre (c :: r) [33, 45, 45] then 1 else if c = 33 ∨ c = 63 then 3 else if ltrB c then 4 else if c = 47 then (match r with
        | [] => 0
        | d :: _ => if d = 62 then 2 else if ltrB d then 5 else 3) else 0)
    else 0
  | _ => 0
def plainB (s : List UInt8) : Bool := decide (kindL s = 0)
def nameC (c : UInt8) : Bool := !(blkB c || (decide (c = 47) || decide (c = 62)))
def attrC (c : UInt8) : Bool := !(blkB c || (decide (c = 47) || (decide (c = 62) || decide (c = 61))))
def bareC (c : UInt8) : Bool := !(blkB c || decide (c = 62))
def skipB (s : List UInt8) : List UInt8 := s.drop (runN (hdB blkB) s)

def valueAt (s : List UInt8) : Option (List UInt8 × List UInt8) := match s with
  | [] => some ([], [])
  | c :: r => if c = 34 ∨ c = 39 then
      (if runN (hdB fun x => !decide (x = c)) r = r.length then none else some (r.take (runN (hdB fun x => !decide (x = c)) r), r.drop (runN (hdB fun x => !decide (x = c)) r + 1)))
    else some ((c :: r).take (runN (hdB bareC) (c :: r)), (c :: r).drop (runN (hdB bareC) (c :: r)))
def addA (ats : List (List UInt8 × List UInt8)) (a : List UInt8 × List UInt8) : List (List UInt8 × List UInt8) := if a.1 ∈ ats.map (·.1) then ats else ats ++ [a]
/-- An attribute and what is left behind it. -/
def attrAt (c : UInt8) (r : List UInt8) : Option ((List UInt8 × List UInt8) × List UInt8) :=
  match skipB (r.drop (runN (hdB attrC) r)) with
  | [] => some ((lower (c :: r.take (runN (hdB attrC) r)), []), [])
  | d :: r1 => if d = 61 then (valueAt (skipB r1)).map fun v => ((lower (c :: r.take (runN (hdB attrC) r)), resolve v.1), v.2)
    else some ((lower (c :: r.take (runN (hdB attrC) r)), []), d :: r1)
def tagF : Nat → List UInt8 → Bool → List (List UInt8 × List UInt8) → Option (Bool × List (List UInt8 × List UInt8) × List UInt8)
  | 0, _, _, _ => none
  | _ + 1, [], _, _ => none
  | n + 1, c :: r, cl, ats =>
    if blkB c then tagF n r cl ats
    else if c = 47 then tagF n r (cl || hdB (fun x => decide (x = 62)) r) ats
    else if c = 62 then some (cl, ats, r)
    else match attrAt c r with
      | none => none
      | some (a, r') => tagF n r' cl (addA ats a)
theorem runN_lt (p : List UInt8 → Bool) (s : List UInt8) : (s.drop (runN p s)).length ≤ s.length := by simp
theorem skipB_le (s : List UInt8) : (skipB s).length ≤ s.length := by unfold skipB; simp
theorem valueAt_le {s v r : List UInt8} (h : valueAt s = some (v, r)) : r.length ≤ s.length := by
  unfold valueAt at h
  split at h
  · cases h; simp
  · split at h
    · split at h
      · cases h
      · cases h; simp; omega
    · cases h; simp
theorem attrAt_le {c : UInt8} {r r' : List UInt8} {a : List UInt8 × List UInt8} (h : attrAt c r = some (a, r')) : r'.length ≤ r.length := by
  have h1 := skipB_le (r.drop (runN (hdB attrC) r))
  rw [List.length_drop] at h1
  unfold attrAt at h
  split at h
  · cases h; simp
  · rename_i d r1 e
    rw [e, List.length_cons] at h1
    split at h
    · cases hv : valueAt (skipB r1) with
      | none => rw [hv] at h; cases h
      | some v =>
        rw [hv] at h
        cases h
        have := valueAt_le (v := v.1) (r := v.2) hv
        have := skipB_le r1
        omega
    · cases h; simp; omega
theorem tagF_fuel : ∀ (n m : Nat) (s : List UInt8) (cl : Bool) (ats : List (List UInt8 × List UInt8)), s.length < n → s.length < m → tagF n s cl ats = tagF m s cl ats
  | 0, _, _, _, _, h, _ => by omega
  | _ + 1, 0, _, _, _, _, h => by omega
  | n + 1, m + 1, [], _, _, _, _ => rfl
  | n + 1, m + 1, c :: r, cl, ats, h1, h2 => by
    simp at h1 h2
    unfold tagF
    rw [tagF_fuel n m r _ _ h1 h2, tagF_fuel n m r _ _ h1 h2]
    cases e : attrAt c r with
    | none => rfl
    | some x =>
      obtain ⟨a, r'⟩ := x
      have := attrAt_le e
      dsimp only
      rw [tagF_fuel n m r' _ _ (by omega) (by omega)]
def between (s : List UInt8) (cl : Bool) (ats : List (List UInt8 × List UInt8)) : Option (Bool × List (List UInt8 × List UInt8) × List UInt8) := tagF (s.length + 1) s cl ats
theorem between_nil (cl : Bool) (ats : List (List UInt8 × List UInt8)) : between [] cl ats = none := rfl
theorem between_cons (c : UInt8) (r : List UInt8) (cl : Bool) (ats : List (List UInt8 × List UInt8)) : between (c :: r) cl ats =
    if blkB c then between r cl ats
    else if c = 47 then between r (cl || hdB (fun x => decide (x = 62)) r) ats
    else if c = 62 then some (cl, ats, r)
    else match attrAt c r with
      | none => none
      | some (a, r') => between r' cl (addA ats a) := by
  show tagF (r.length + 1 + 1) (c :: r) cl ats = _
  rw [tagF]
  repeat' split
  all_goals first | rfl | skip
  rename_i a r' e
  have := attrAt_le e
  exact tagF_fuel _ _ _ _ _ (by omega) (by omega)
theorem tagF_le : ∀ (n : Nat) (s : List UInt8) (cl : Bool) (ats : List (List UInt8 × List UInt8)) {x : Bool} {y : List (List UInt8 × List UInt8)} {r : List UInt8}, tagF n s cl ats = some (x, y, r) → r.length < s.length
  | 0, _, _, _, _, _, _, h => by cases h
  | n + 1, [], _, _, _, _, _, h => by cases h
  | n + 1, c :: r, cl, ats, x, y, r', h => by
    unfold tagF at h
    rw [List.length_cons]
    split at h
    · have := tagF_le n _ _ _ h; omega
    · split at h
      · have := tagF_le n _ _ _ h; omega
      · split at h
        · cases h; omega
        · split at h
          · cases h
          · rename_i e
            have := attrAt_le e
            have := tagF_le n _ _ _ h; omega

/-- A tag from its name on. -/
def tagAt (s : List UInt8) : Option (List UInt8 × Bool × List (List UInt8 × List UInt8) × List UInt8) :=
  (between (s.drop (runN (hdB nameC) s)) false []).map fun t => (lower (s.take (runN (hdB nameC) s)), t.1, t.2.1, t.2.2)
theorem tagAt_le {s nm r : List UInt8} {cl : Bool} {ats : List (List UInt8 × List UInt8)} (h : tagAt s = some (nm, cl, ats, r)) : r.length < s.length := by
  unfold tagAt at h
  cases e : between (s.drop (runN (hdB nameC) s)) false [] with
  | none => rw [e] at h; cases h
  | some t =>
    rw [e] at h
    cases h
    have := tagF_le _ _ _ _ (x := t.1) (y := t.2.1) (r := t.2.2) e
    simp at this
    omega

def plaintext : List UInt8 := [112, 108, 97, 105, 110, 116, 101, 120, 116]
/-- Does a raw element of a name end here? -/
def rawEnd (nm s : List UInt8) : Bool := !decide (nm = plaintext) && (hasPre s [60, 47] && (decide (nm.length + 2 < s.length) && (decide (lower ((s.drop 2).take nm.length) = nm) && hdB (fun c => blkB c || (decide (c = 47) || decide (c = 62))) (s.drop (nm.length + 2)))))
def rawN (nm s : List UInt8) : Nat := runN (fun x => !rawEnd nm x) s
def textT (x : List UInt8) : Tok := ⟨1, [], [], false, x⟩
def noteT (x : List UInt8) : Tok := ⟨4, [], [], false, x⟩
def endT (x : List UInt8) : Tok := ⟨3, x, [], false, []⟩
def startT (nm : List UInt8) (cl : Bool) (ats : List (List UInt8 × List UInt8)) : Tok := ⟨2, nm, ats, cl, []⟩
def softB (nm : List UInt8) : Bool := decide (nm ∉ raws) && decide (nm ∈ softs)
def rawText (nm s : List UInt8) : List UInt8 := if softB nm then resolve (s.take (rawN nm s)) else s.take (rawN nm s)
/-- What begins here: its tokens, and what is left. -/
def step (s : List UInt8) : Option (List Tok × List UInt8) := match kindL s with
  | 0 => some ([textT (resolve (s.take (runN plainB s)))], s.drop (runN plainB s))
  | 1 => some ([noteT ((s.drop 4).take (runN (fun x => !hasPre x [45, 45, 62]) (s.drop 4)))], (s.drop 4).drop (runN (fun x => !hasPre x [45, 45, 62]) (s.drop 4) + 3))
  | 2 => some ([], s.drop 3)
  | 3 => some ([], s.drop (runN (fun x => !hasPre x [62]) s + 1))
  | 4 => match tagAt (s.drop 1) with
    | none => none
    | some (nm, cl, ats, r) => if rawB nm then some (startT nm cl ats :: (if rawText nm r = [] then [] else [textT (rawText nm r)]), r.drop (rawN nm r)) else some ([startT nm cl ats], r)
  | _ => match tagAt (s.drop 2) with
    | none => none
    | some (nm, _, _, r) => some ([endT nm], r)
theorem plain_pos {s : List UInt8} (h : s ≠ []) (hk : kindL s = 0) : 1 ≤ runN plainB s := by
  cases s with
  | nil => exact absurd rfl h
  | cons c r =>
    unfold runN
    rw [if_pos (by unfold plainB; rw [hk]; rfl)]
    omega
theorem kind_pos {s : List UInt8} (hk : kindL s ≠ 0) : ∃ c r, s = 60 :: c :: r := by
  unfold kindL at hk
  split at hk
  · split at hk
    · rename_i h; subst h; exact ⟨_, _, rfl⟩
    · exact absurd rfl hk
  · exact absurd rfl hk
theorem step_lt {s r : List UInt8} {e : List Tok} (hs : s ≠ []) (h : step s = some (e, r)) : r.length < s.length := by
  have hp : 0 < s.length := List.length_pos_iff.2 hs
  unfold step at h
  split at h
  · rename_i hk
    have := plain_pos hs hk
    cases h; simp; omega
  · cases h; simp; omega
  · cases h; simp; omega
  · cases h; simp; omega
  · split at h
    · cases h
    · rename_i e
      have := tagAt_le e
      simp at this
      split at h
      · cases h; simp; omega
      · cases h; omega
  · split at h
    · cases h
    · rename_i e
      have := tagAt_le e
      simp at this
      cases h; omega
def toksF : Nat → List UInt8 → List Tok
  | 0, _ => []
  | n + 1, s => if s = [] then [] else match step s with
    | none => []
    | some (e, r) => e ++ toksF n r
theorem toksF_fuel : ∀ (n m : Nat) (s : List UInt8), s.length < n → s.length < m → toksF n s = toksF m s
  | 0, _, _, h, _ => by omega
  | _ + 1, 0, _, _, h => by omega
  | n + 1, m + 1, s, h1, h2 => by
    unfold toksF
    split
    · rfl
    · rename_i hs
      cases e : step s with
      | none => rfl
      | some x =>
        obtain ⟨t, r⟩ := x
        have := step_lt hs e
        dsimp only
        rw [toksF_fuel n m r (by omega) (by omega)]
def toks (s : List UInt8) : List Tok := toksF (s.length + 1) s
theorem toks_nil : toks [] = [] := rfl
theorem toks_none {s : List UInt8} (h : step s = none) : toks s = [] := by
  unfold toks toksF
  split
  · rfl
  · rw [h]
theorem toks_some {s r : List UInt8} {e : List Tok} (hs : s ≠ []) (h : step s = some (e, r)) : toks s = e ++ toks r := by
  have := step_lt hs h
  show toksF (s.length + 1) s = _
  rw [toksF, if_neg hs, h]
  exact congrArg (e ++ ·) (toksF_fuel _ _ _ (by omega) (by omega))

end Go.Proofs.Ytcmkiancbgmmhaa
