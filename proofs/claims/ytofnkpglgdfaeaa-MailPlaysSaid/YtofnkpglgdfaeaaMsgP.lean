import Derived.Test.YtofnkpglgdfaeaaPolH
namespace Go.Proofs.Ytofnkpglgdfaeaa
open Go.Aw
set_option maxHeartbeats 1600000
set_option linter.unusedSimpArgs false
set_option linter.unusedVariables false

/-- A message, as plain data. -/
structure Msg where
  kd : Int
  fr : Int
  to : Int
  ep : Int
  ids : List (List UInt8)
  posts : List (List UInt8 × List UInt8)
  pol : Pol
deriving DecidableEq
def postD (a : List UInt8 × List UInt8) : List D := [.str a.1, .str a.2]
def postsD (l : List (List UInt8 × List UInt8)) : List (List D) := l.map postD
def msgD (m : Msg) : List D := .int .i64 m.kd :: .int .i64 m.fr :: .int .i64 m.to :: .int .i64 m.ep :: .sl (strsD m.ids) :: .sl (postsD m.posts) :: polD m.pol
def msgsD (l : List Msg) : List (List D) := l.map msgD
def msgA (m : Msg) : AV := .agg ((msgD m).map .d)
theorem postsD_len (l : List (List UInt8 × List UInt8)) : (postsD l).length = l.length := by simp [postsD]
theorem postsD_get (l : List (List UInt8 × List UInt8)) (k : Nat) (h : k < l.length) : (postsD l)[((k : Nat) : Int).toNat]? = some [.str l[k].1, .str l[k].2] := by
  rw [Int.toNat_natCast]; simp [postsD, postD, h]
theorem msgsD_len (l : List Msg) : (msgsD l).length = l.length := by simp [msgsD]
theorem msgsD_get (l : List Msg) (k : Nat) (h : k < l.length) : (msgsD l)[((k : Nat) : Int).toNat]? = some (msgD l[k]) := by
  rw [Int.toNat_natCast]; simp [msgsD, h]
theorem msgs_snoc (l : List Msg) (m : Msg) : msgsD (l ++ [m]) = msgsD l ++ [msgD m] := by simp [msgsD]
theorem msgRow_len (m : Msg) : ((msgD m).map AV.d).length = 15 := rfl
theorem msgsRows (l : List Msg) : ∀ row ∈ (msgsD l).map (fun r => r.map AV.d), row.length = 15 ∧ ∀ a ∈ row, a.one = true := by
  intro row h
  obtain ⟨r, hr, rfl⟩ := List.mem_map.1 h
  unfold msgsD at hr
  obtain ⟨x, _, rfl⟩ := List.mem_map.1 hr
  refine ⟨rfl, fun a ha => ?_⟩
  obtain ⟨y, _, rfl⟩ := List.mem_map.1 ha
  rfl
theorem postsRows (l : List (List UInt8 × List UInt8)) : ∀ row ∈ (postsD l).map (fun r => r.map AV.d), row.length = 2 ∧ ∀ a ∈ row, a.one = true := by
  intro row h
  obtain ⟨r, hr, rfl⟩ := List.mem_map.1 h
  unfold postsD at hr
  obtain ⟨x, _, rfl⟩ := List.mem_map.1 hr
  refine ⟨rfl, fun a ha => ?_⟩
  obtain ⟨y, _, rfl⟩ := List.mem_map.1 ha
  rfl
theorem dataPure (l : List (List D)) : ∀ row ∈ l.map (fun r => r.map AV.d), pureL row = true := by
  intro row h
  obtain ⟨r, hr, rfl⟩ := List.mem_map.1 h
  exact pureL_d r
theorem onePure (r : List D) : ∀ row ∈ [r.map AV.d], pureL row = true := fun row h => by rw [List.mem_singleton.1 h]; exact pureL_d r

structure FitsM (m : Msg) : Prop where
  ids : FitsL m.ids
  posts : m.posts.length ≤ 1000000 ∧ ∀ p ∈ m.posts, p.1.length ≤ 1000000 ∧ p.2.length ≤ 1000000
  pol : Fits m.pol

def idOk (last x : List UInt8) : Bool := Op.bytesLess last x && decide (x.length ≤ 16)
def idRise : List UInt8 → List (List UInt8) → Bool
  | _, [] => true
  | last, x :: r => idOk last x && idRise x r
def postRise : List UInt8 → List (List UInt8 × List UInt8) → Bool
  | _, [] => true
  | last, x :: r => (idOk last x.1 && decide (x.2.length ≤ 2000)) && postRise x.1 r
theorem postRise_eq : ∀ (l : List (List UInt8 × List UInt8)) (last : List UInt8), postRise last l = (l.all (fun p => decide (p.2.length ≤ 2000)) && idRise last (l.map Prod.fst))
  | [], _ => rfl
  | x :: r, last => by
    rw [postRise, postRise_eq r x.1, List.all_cons, List.map_cons, idRise]
    generalize idOk last x.1 = a
    generalize decide (x.2.length ≤ 2000) = b
    generalize (r.all fun p => decide (p.2.length ≤ 2000)) = c
    generalize idRise x.1 (r.map Prod.fst) = d
    cases a <;> cases b <;> cases c <;> cases d <;> rfl
def headB (m : Msg) : Bool := decide (0 ≤ m.fr ∧ m.fr ≤ 5 ∧ 0 ≤ m.to ∧ m.to ≤ 5 ∧ m.fr ≠ m.to ∧ 0 ≤ m.ep ∧ m.ep ≤ 1000000)
def idsB (l : List (List UInt8)) : Bool := idRise [] l && decide (l.length ≤ 64)
def postsB (l : List (List UInt8 × List UInt8)) : Bool := postRise [] l && decide (l.length ≤ 64)
/-- May a message be? -/
def mRightB (m : Msg) : Bool := headB m &&
  (if m.kd = 1 then decide (m.posts = []) && (decide (m.pol = zeroPol) && idsB m.ids)
   else if m.kd = 2 then decide (m.ids = []) && (decide (m.pol = zeroPol) && (postsB m.posts && decide (m.ep = 0)))
   else if m.kd = 3 then decide (m.ids = []) && (decide (m.posts = []) && (rightB m.pol && decide (m.ep = 0)))
   else decide (m.ids = []) && (decide (m.posts = []) && (decide (m.pol = zeroPol) && decide (m.kd = 4))))
theorem less_nil (x : List UInt8) : Op.bytesLess [] x = !decide (x = []) := by cases x <;> simp [Op.bytesLess]
theorem less_ne {y x : List UInt8} (h : Op.bytesLess y x = true) : x ≠ [] := by
  intro e; subst e; cases y <;> simp [Op.bytesLess] at h

theorem less_gtr : ∀ (a b : List UInt8), (!(Op.bytesLess a b || decide (a = b))) = Op.bytesLess b a
  | [], [] => rfl
  | [], _ :: _ => rfl
  | _ :: _, [] => rfl
  | x :: a, y :: b => by
    have ih := less_gtr a b
    unfold Op.bytesLess
    rcases Nat.lt_trichotomy x.toNat y.toNat with h | h | h
    · have h1 : x < y := h
      have h2 : ¬ y < x := fun h' => by have : y.toNat < x.toNat := h'; omega
      have h3 : ¬ y = x := fun e => by subst e; omega
      simp [h1, h2, h3]
    · have e : x = y := UInt8.toNat_inj.1 h
      subst e
      have h1 : ¬ x < x := fun h' => by have : x.toNat < x.toNat := h'; omega
      simp only [decide_eq_false h1, Bool.false_or, beq_self_eq_true, Bool.true_and, List.cons.injEq, true_and]
      exact ih
    · have h1 : y < x := h
      have h2 : ¬ x < y := fun h' => by have : x.toNat < y.toNat := h'; omega
      have h3 : ¬ x = y := fun e => by subst e; omega
      simp [h1, h2, h3]

end Go.Proofs.Ytofnkpglgdfaeaa
