import Derived.Test.YtofnkpglgdfaeaaSerB
import Derived.Test.YtofnkpglgdfaeaaWk
namespace Go.Proofs.Ytofnkpglgdfaeaa
open Go.Aw
set_option maxHeartbeats 1600000
set_option linter.unusedSimpArgs false
set_option linter.unusedVariables false

/-- A policy, as plain data. -/
structure Pol where
  ep : Int
  el : List (List UInt8)
  at' : List (List UInt8)
  sc : List (List UInt8)
  cl : List (List UInt8)
  pr : List (List UInt8)
  dp : Int
  nd : Int
  by' : Int
deriving DecidableEq
def polD (p : Pol) : List D := [.int .i64 p.ep, .sl (strsD p.el), .sl (strsD p.at'), .sl (strsD p.sc), .sl (strsD p.cl), .sl (strsD p.pr), .int .i64 p.dp, .int .i64 p.nd, .int .i64 p.by']
def polsD (l : List Pol) : List (List D) := l.map polD
def polA (p : Pol) : AV := .agg ((polD p).map .d)
theorem polsD_len (l : List Pol) : (polsD l).length = l.length := by simp [polsD]
theorem polsD_get (l : List Pol) (k : Nat) (h : k < l.length) : (polsD l)[((k : Nat) : Int).toNat]? = some (polD l[k]) := by
  rw [Int.toNat_natCast]; simp [polsD, h]

def FitsL (l : List (List UInt8)) : Prop := l.length ≤ 1000000 ∧ ∀ s ∈ l, s.length ≤ 1000000
structure Fits (p : Pol) : Prop where
  el : FitsL p.el
  at' : FitsL p.at'
  sc : FitsL p.sc
  cl : FitsL p.cl
  pr : FitsL p.pr

def wordB (s : List UInt8) : Bool := small s [45] && decide (s.length ≤ 32)
/-- What stands ahead of the first point, and what behind. -/
def cutDot : List UInt8 → Option (List UInt8 × List UInt8)
  | [] => none
  | c :: r => if c = 46 then some ([], r) else (cutDot r).map fun x => (c :: x.1, x.2)
def attrWordB (a : List UInt8) : Bool := wordB a && (!hasPre a [111, 110] && (!decide (a = [115, 114, 99, 100, 111, 99]) && (!decide (a = [102, 111, 114, 109, 97, 99, 116, 105, 111, 110]) && !decide (a = [115, 116, 121, 108, 101]))))
def attrOk (el : List (List UInt8)) (s : List UInt8) : Bool := match cutDot s with
  | none => false
  | some (e, a) => (decide (e = [42]) || decide (e ∈ el)) && attrWordB a
def nevers : List (List UInt8) := [[98, 97, 115, 101], [101, 109, 98, 101, 100], [102, 111, 114, 109], [105, 110, 112, 117, 116], [108, 105, 110, 107], [109, 97, 116, 104], [109, 101, 116, 97], [111, 98, 106, 101, 99, 116], [112, 97, 114, 97, 109], [115, 101, 108, 101, 99, 116], [115, 118, 103], [116, 101, 109, 112, 108, 97, 116, 101], [110, 111, 115, 99, 114, 105, 112, 116], [102, 114, 97, 109, 101], [102, 114, 97, 109, 101, 115, 101, 116]]
def neverB (s : List UInt8) : Bool := decide (s ∈ nevers) || rawB s
def elemOk (s : List UInt8) : Bool := wordB s && !neverB s
def schemeOk (s : List UInt8) : Bool := wordB s && (!decide (s = [106, 97, 118, 97, 115, 99, 114, 105, 112, 116]) && (!decide (s = [100, 97, 116, 97]) && !decide (s = [118, 98, 115, 99, 114, 105, 112, 116])))
def listB (f : List UInt8 → Bool) (l : List (List UInt8)) : Bool := risesB l && l.all f && decide (l.length ≤ 64)
def sizesB (p : Pol) : Bool := decide (1 ≤ p.ep ∧ p.ep ≤ 1000000 ∧ 1 ≤ p.dp ∧ p.dp ≤ 64 ∧ 1 ≤ p.nd ∧ p.nd ≤ 2000 ∧ 1 ≤ p.by' ∧ p.by' ≤ 16384)
def liB (l : List (List UInt8)) : Bool := !decide ([108, 105] ∈ l) || (decide ([117, 108] ∈ l) && decide ([111, 108] ∈ l))
def rightB (p : Pol) : Bool := sizesB p && (listB elemOk p.el && (listB (attrOk p.el) p.at' && (listB schemeOk p.sc && (listB wordB p.cl && (listB wordB p.pr && liB p.el)))))

/-- What an attribute is allowed by for each element. -/
def anyOf (s : List UInt8) : List UInt8 := match cutDot s with
  | none => [42]
  | some (_, a) => 42 :: 46 :: a
def allIn (a b : List (List UInt8)) : Bool := a.all fun s => decide (s ∈ b)
def attrsIn (a b : List (List UInt8)) : Bool := a.all fun s => decide (s ∈ b) || decide (anyOf s ∈ b)
def stricterB (p q : Pol) : Bool := attrsIn p.at' q.at' && (decide (p.dp ≤ q.dp ∧ p.nd ≤ q.nd ∧ p.by' ≤ q.by') && (allIn p.el q.el && (allIn p.sc q.sc && (allIn p.cl q.cl && allIn p.pr q.pr))))

/-- Why a policy may not stand behind so many; 0: it may. -/
def nextE (n : Nat) (last p : Pol) : Int :=
  if rightB p = true then
    if p.ep = n + 1 then
      if n = 0 ∨ stricterB p last = true then 0 else 6
    else 7
  else 2
def zeroPol : Pol := ⟨0, [], [], [], [], [], 0, 0, 0⟩
def chainFrom (n : Nat) (last : Pol) : List Pol → Int × Int
  | [] => (0, -1)
  | p :: r => if nextE n last p = 0 then chainFrom (n + 1) p r else (nextE n last p, n)
def chainB (l : List Pol) : Int × Int := chainFrom 0 zeroPol l

theorem cutDot_none {s : List UInt8} (h : (46 : UInt8) ∉ s) : cutDot s = none := by
  induction s with
  | nil => rfl
  | cons c r ih =>
    rw [List.mem_cons, not_or] at h
    rw [cutDot, if_neg (fun e => h.1 e.symm), ih h.2]; rfl
theorem cutDot_some {a b : List UInt8} (h : (46 : UInt8) ∉ a) : cutDot (a ++ 46 :: b) = some (a, b) := by
  induction a with
  | nil => rfl
  | cons c r ih =>
    rw [List.mem_cons, not_or] at h
    rw [List.cons_append, cutDot, if_neg (fun e => h.1 e.symm), ih h.2]; rfl

theorem cutDot_len : ∀ (s : List UInt8) (x : List UInt8 × List UInt8), cutDot s = some x → x.1.length + 1 + x.2.length = s.length
  | [], x, h => by simp [cutDot] at h
  | c :: r, x, h => by
    unfold cutDot at h
    split at h
    · cases h; simp; omega
    · rw [Option.map_eq_some_iff] at h
      obtain ⟨y, hy, rfl⟩ := h
      have := cutDot_len r y hy
      simp only [List.length_cons]; omega

end Go.Proofs.Ytofnkpglgdfaeaa
