import Derived.Test.YtcmkiancbgmmhaaSerT
import Derived.Test.YtcmkiancbgmmhaaSerU
namespace Go.Proofs.Ytcmkiancbgmmhaa
open Go.Aw
set_option maxHeartbeats 1600000
set_option linter.unusedSimpArgs false
set_option linter.unusedVariables false

/-- The texts among tokens. -/
def ttx : List Tok → List UInt8
  | [] => []
  | t :: r => (if t.kd = 1 then t.tx else []) ++ ttx r
theorem ttx_append : ∀ a b : List Tok, ttx (a ++ b) = ttx a ++ ttx b
  | [], b => rfl
  | t :: r, b => by
    show (if t.kd = 1 then t.tx else []) ++ ttx (r ++ b) = (if t.kd = 1 then t.tx else []) ++ ttx r ++ ttx b
    rw [ttx_append r b, List.append_assoc]
theorem ttx_take (l : List Tok) (k : Nat) (h : k < l.length) : ttx (l.take (k + 1)) = ttx (l.take k) ++ (if l[k].kd = 1 then l[k].tx else []) := by
  rw [List.take_succ_eq_append_getElem h, ttx_append]
  show _ ++ ((if l[k].kd = 1 then l[k].tx else []) ++ []) = _
  rw [List.append_nil]
mutual
theorem ttx_node : ∀ (n : Node) (p li : Bool), n.name ≠ [] → stN p li n = true → ttx (tkN n) = txN n
  | .mk nm a t k, p, li, hn, h => by
    rw [stN] at h
    simp only [Bool.and_eq_true] at h
    obtain ⟨⟨⟨ho, _⟩, _⟩, hk⟩ := h
    obtain ⟨o1, o2, o3, o4, o5⟩ := ownB_parts ho
    have ih := ttx_page k false (p || decide (nm = [112])) (inLi li nm) hk
    dsimp only [Node.name, Node.text, Node.kids, Node.attrs] at *
    rw [tkN, txN, if_neg hn, o3]
    show ttx (startT nm false a :: _) = txL k
    by_cases hv : nm ∈ voids
    · rw [if_pos hv, o4 hv, txL]; rfl
    · rw [if_neg hv]
      show [] ++ ttx (tkL k ++ [endT nm]) = _
      rw [ttx_append, ih]
      show [] ++ (txL k ++ []) = _
      simp
theorem ttx_page : ∀ (l : List Node) (tx p li : Bool), stL tx p li l = true → ttx (tkL l) = txL l
  | [], _, _, _, _ => by rw [tkL, txL]; rfl
  | n :: r, tx, p, li, h => by
    rw [stL_cons] at h
    rw [tkL_cons, txL_cons, ttx_append]
    by_cases hn : n.name = []
    · rw [if_pos hn] at h
      simp only [Bool.and_eq_true, Bool.not_eq_true', decide_eq_true_eq, decide_eq_false_iff_not] at h
      obtain ⟨⟨⟨⟨_, h2⟩, _⟩, h4⟩, h5⟩ := h
      rw [ttx_page r true p li h5, tkN_eq, if_pos hn, txN_eq, h4, txL]
      show (n.text ++ []) ++ txL r = _
      simp
    · rw [if_neg hn, Bool.and_eq_true] at h
      rw [ttx_node n p li hn h.1, ttx_page r false p li h.2]
end

end Go.Proofs.Ytcmkiancbgmmhaa
