import Derived.Test.YtcmkiancbgmmhaaStr
namespace Go.Proofs.Ytcmkiancbgmmhaa
open Go.Aw
set_option maxHeartbeats 1600000
set_option linter.unusedSimpArgs false
set_option linter.unusedVariables false

/-- A text, or none. -/
def optV : Option (List UInt8) → AV
  | some x => .tup [.d (.str x), .d (.bool true)]
  | none => .tup [.d (.str []), .d (.bool false)]
theorem optV_pure (o : Option (List UInt8)) : (optV o).pure = true := by cases o <;> rfl
def enc (n : Int) : List UInt8 := (Utf8.encode n).data.toList
def nameTab : List (List UInt8 × Int) := [([97, 109, 112], 38), ([108, 116], 60), ([103, 116], 62), ([113, 117, 111, 116], 34), ([97, 112, 111, 115], 39), ([110, 98, 115, 112], 160), ([99, 111, 112, 121], 169), ([114, 101, 103], 174), ([100, 101, 103], 176), ([109, 105, 100, 100, 111, 116], 183), ([108, 97, 113, 117, 111], 171), ([114, 97, 113, 117, 111], 187), ([116, 105, 109, 101, 115], 215), ([101, 97, 99, 117, 116, 101], 233), ([110, 100, 97, 115, 104], 8211), ([109, 100, 97, 115, 104], 8212), ([108, 115, 113, 117, 111], 8216), ([114, 115, 113, 117, 111], 8217), ([108, 100, 113, 117, 111], 8220), ([114, 100, 113, 117, 111], 8221), ([104, 101, 108, 108, 105, 112], 8230), ([101, 117, 114, 111], 8364)]
def named (s : List UInt8) : Option (List UInt8) := (nameTab.find? fun e => decide (e.1 = s)).map fun e => enc e.2
theorem named_hit {s : List UInt8} {k : Nat} (h : k < nameTab.length) (hI : ∀ j (hj : j < nameTab.length), j < k → nameTab[j].1 ≠ s) (e : nameTab[k].1 = s) : named s = some (enc nameTab[k].2) := by
  have : nameTab.find? (fun e => decide (e.1 = s)) = some nameTab[k] := by
    rw [List.find?_eq_some_iff_getElem]
    exact ⟨decide_eq_true e, k, h, rfl, fun j hj => by simpa using hI j (by omega) hj⟩
  rw [named, this]; rfl
theorem named_miss {s : List UInt8} (hI : ∀ j (hj : j < nameTab.length), nameTab[j].1 ≠ s) : named s = none := by
  have : nameTab.find? (fun e => decide (e.1 = s)) = none := by
    rw [List.find?_eq_none]
    intro e he
    obtain ⟨j, hj, rfl⟩ := List.mem_iff_getElem.1 he
    simpa using hI j hj
  rw [named, this]; rfl

def fixN (n : Int) : Int := if n = 0 ∨ n = 13 ∨ (55296 ≤ n ∧ n ≤ 57343) ∨ 1114111 < n then 65533 else n
theorem fixN_ok (n : Int) (h : 0 ≤ n) : 0 ≤ fixN n ∧ fixN n ≤ 1114111 ∧ Utf8.valid (fixN n) = true := by
  unfold fixN
  split
  · decide
  · refine ⟨by omega, by omega, ?_⟩
    simp [Utf8.valid]; omega
theorem enc_of (n : Int) (hv : Utf8.valid n = true) : enc n =
    if n.toNat < 128 then [UInt8.ofNat n.toNat]
    else if n.toNat < 2048 then [UInt8.ofNat (192 + n.toNat / 64), UInt8.ofNat (128 + n.toNat % 64)]
    else if n.toNat < 65536 then [UInt8.ofNat (224 + n.toNat / 4096), UInt8.ofNat (128 + n.toNat / 64 % 64), UInt8.ofNat (128 + n.toNat % 64)]
    else [UInt8.ofNat (240 + n.toNat / 262144), UInt8.ofNat (128 + n.toNat / 4096 % 64), UInt8.ofNat (128 + n.toNat / 64 % 64), UInt8.ofNat (128 + n.toNat % 64)] := by
  unfold enc Utf8.encode
  dsimp only
  rw [if_pos hv]
  repeat' split
  all_goals first | rfl | omega
theorem enc_len (n : Int) : 1 ≤ (enc n).length ∧ (enc n).length ≤ 4 := by
  unfold enc Utf8.encode
  dsimp only
  repeat' split
  all_goals simp

/-- A digit's worth. -/
def hexv (c : UInt8) : Option Nat := if 48 ≤ c.toNat ∧ c.toNat ≤ 57 then some (c.toNat - 48) else if 97 ≤ c.toNat ∧ c.toNat ≤ 102 then some (c.toNat - 87) else if 65 ≤ c.toNat ∧ c.toNat ≤ 70 then some (c.toNat - 55) else none
def digs (base : Nat) : List UInt8 → Nat → Option Nat
  | [], n => some n
  | c :: r, n => match hexv c with
    | some d => if d < base then digs base r (n * base + d) else none
    | none => none
theorem hexv_lt {c : UInt8} {d : Nat} (h : hexv c = some d) : d < 16 := by
  unfold hexv at h
  split at h
  · cases h; omega
  · split at h
    · cases h; omega
    · split at h
      · cases h; omega
      · cases h
theorem digs_lt {base : Nat} (hb : base ≤ 16) : ∀ {l : List UInt8} {n m : Nat}, digs base l n = some m → m + 1 ≤ (n + 1) * 16 ^ l.length
  | [], n, m, h => by simp [digs] at h; subst h; simp
  | c :: r, n, m, h => by
    unfold digs at h
    split at h
    · rename_i d hd
      split at h
      · rename_i hlt
        have := digs_lt hb h
        have h1 : n * base + d + 1 ≤ (n + 1) * 16 := by
          have : n * base ≤ n * 16 := Nat.mul_le_mul_left _ hb
          have := hexv_lt hd
          omega
        calc m + 1 ≤ (n * base + d + 1) * 16 ^ r.length := this
          _ ≤ ((n + 1) * 16) * 16 ^ r.length := Nat.mul_le_mul_right _ h1
          _ = (n + 1) * 16 ^ (c :: r).length := by rw [List.length_cons, Nat.pow_succ, Nat.mul_assoc, Nat.mul_comm 16]
      · cases h
    · cases h
def number (s : List UInt8) (base most : Nat) : Option Nat := if s = [] ∨ most < s.length then none else digs base s 0

def hashN (d : List UInt8) : Option Nat := match d with
  | 120 :: e => number e 16 6
  | 88 :: e => number e 16 6
  | _ => number d 10 7
def stands (s : List UInt8) : Option (List UInt8) := match s with
  | 35 :: d => (hashN d).map fun (n : Nat) => enc (fixN (n : Int))
  | _ => named s
theorem stands_hash (d : List UInt8) : stands (35 :: d) = (hashN d).map fun (n : Nat) => enc (fixN (n : Int)) := rfl
theorem hash_x (e : List UInt8) : hashN (120 :: e) = number e 16 6 := rfl
theorem hash_X (e : List UInt8) : hashN (88 :: e) = number e 16 6 := rfl
theorem hash_d (d : List UInt8) (h1 : ∀ e, d ≠ 120 :: e) (h2 : ∀ e, d ≠ 88 :: e) : hashN d = number d 10 7 := by
  unfold hashN
  split
  · exact absurd rfl (h1 _)
  · exact absurd rfl (h2 _)
  · rfl
theorem stands_named (s : List UInt8) (h : ∀ d, s ≠ 35 :: d) : stands s = named s := by
  unfold stands
  split
  · rename_i d; exact absurd rfl (h d)
  · rfl

theorem find_at (a b : List UInt8) (h : (59 : UInt8) ∉ a) : (a ++ 59 :: b).findIdx (fun c => decide (c = 59)) = a.length := by
  induction a with
  | nil => rw [List.nil_append, List.findIdx_cons]; rfl
  | cons x r ih =>
    have h1 : x ≠ 59 := fun e => h (by simp [e])
    have h2 : (59 : UInt8) ∉ r := fun e => h (by simp [e])
    rw [List.cons_append, List.findIdx_cons, decide_eq_false h1]
    simp only [cond_false, List.length_cons]
    rw [ih h2]
def oneR (r : List UInt8) : Option (List UInt8 × List UInt8) :=
  if r.findIdx (fun c => decide (c = 59)) ≤ 10 ∧ r.findIdx (fun c => decide (c = 59)) < r.length then
    (stands (r.take (r.findIdx fun c => decide (c = 59)))).map fun t => (t, r.drop (r.findIdx (fun c => decide (c = 59)) + 1))
  else none
theorem oneR_some (a b : List UInt8) (h : (59 : UInt8) ∉ a) (hl : a.length ≤ 10) : oneR (a ++ 59 :: b) = (stands a).map fun t => (t, b) := by
  unfold oneR
  rw [find_at a b h, if_pos ⟨hl, by simp⟩]
  simp
theorem oneR_none (r : List UInt8) (h : (59 : UInt8) ∉ r.take 11) : oneR r = none := by
  unfold oneR
  rw [if_neg]
  rintro ⟨h1, h2⟩
  have h3 := List.findIdx_getElem (w := h2)
  apply h
  have : r[r.findIdx fun c => decide (c = 59)] = 59 := by simpa using h3
  rw [List.mem_iff_getElem]
  refine ⟨r.findIdx fun c => decide (c = 59), by simp; omega, ?_⟩
  rw [List.getElem_take]; exact this
theorem split_take (r : List UInt8) (h : (59 : UInt8) ∈ r.take 11) : ∃ a b, r = a ++ 59 :: b ∧ (59 : UInt8) ∉ a ∧ a.length ≤ 10 := by
  obtain ⟨a, b, e, ha⟩ := split_first h
  have hl : a.length < (r.take 11).length := by rw [e]; simp
  refine ⟨a, b ++ r.drop 11, ?_, ha, by simp at hl; omega⟩
  calc r = r.take 11 ++ r.drop 11 := (List.take_append_drop 11 r).symm
    _ = a ++ 59 :: (b ++ r.drop 11) := by rw [e]; simp
theorem oneR_lt {r t r' : List UInt8} (h : oneR r = some (t, r')) : r'.length < r.length := by
  by_cases hm : (59 : UInt8) ∈ r.take 11
  · obtain ⟨a, b, rfl, ha, hl⟩ := split_take r hm
    rw [oneR_some a b ha hl] at h
    cases hs : stands a with
    | none => rw [hs] at h; cases h
    | some u => rw [hs] at h; cases h; simp; omega
  · rw [oneR_none r hm] at h; cases h

def rsv : Nat → List UInt8 → List UInt8
  | 0, _ => []
  | _ + 1, [] => []
  | n + 1, c :: r => if c = 38 then (match oneR r with
      | some (t, r') => t ++ rsv n r'
      | none => 38 :: rsv n r) else c :: rsv n r
theorem rsv_fuel : ∀ (n m : Nat) (s : List UInt8), s.length ≤ n → s.length ≤ m → rsv n s = rsv m s
  | 0, 0, _, _, _ => rfl
  | 0, m + 1, s, h, _ => by
    have : s = [] := List.length_eq_zero_iff.1 (by omega)
    subst this; rfl
  | n + 1, 0, s, _, h => by
    have : s = [] := List.length_eq_zero_iff.1 (by omega)
    subst this; rfl
  | n + 1, m + 1, [], _, _ => rfl
  | n + 1, m + 1, c :: r, h1, h2 => by
    simp at h1 h2
    unfold rsv
    split
    · split
      · rename_i t r' ho
        have := oneR_lt ho
        rw [rsv_fuel n m r' (by omega) (by omega)]
      · rw [rsv_fuel n m r h1 h2]
    · rw [rsv_fuel n m r h1 h2]
def resolve (s : List UInt8) : List UInt8 := rsv s.length s
theorem resolve_nil : resolve [] = [] := rfl
theorem resolve_amp (r : List UInt8) : resolve (38 :: r) = match oneR r with
    | some (t, r') => t ++ resolve r'
    | none => 38 :: resolve r := by
  show rsv (r.length + 1) (38 :: r) = _
  unfold rsv
  rw [if_pos rfl]
  split
  · rename_i t r' ho
    have := oneR_lt ho
    rw [rsv_fuel r.length r'.length r' (by omega) (Nat.le_refl _)]; rfl
  · rfl
theorem resolve_other (c : UInt8) (r : List UInt8) (h : c ≠ 38) : resolve (c :: r) = c :: resolve r := by
  show rsv (r.length + 1) (c :: r) = _
  unfold rsv
  rw [if_neg h]; rfl
theorem resolve_plain : ∀ (a b : List UInt8), (38 : UInt8) ∉ a → resolve (a ++ b) = a ++ resolve b
  | [], _, _ => rfl
  | c :: a, b, h => by
    rw [List.cons_append, resolve_other _ _ (fun e => h (by simp [e])), resolve_plain a b (fun e => h (by simp [e]))]; rfl
theorem resolve_same (a : List UInt8) (h : (38 : UInt8) ∉ a) : resolve a = a := by
  have := resolve_plain a [] h
  rw [List.append_nil, resolve_nil, List.append_nil] at this; exact this
theorem nameTab_len : ∀ e ∈ nameTab, (enc e.2).length ≤ e.1.length + 2 := by decide +kernel
theorem named_len {a t : List UInt8} (h : named a = some t) : t.length ≤ a.length + 2 := by
  unfold named at h
  obtain ⟨e, he, rfl⟩ := Option.map_eq_some_iff.1 h
  have hm := List.mem_of_find?_eq_some he
  have hp := List.find?_some he
  have : e.1 = a := by simpa using hp
  rw [← this]
  exact nameTab_len e hm
theorem number_pos {s : List UInt8} {b m n : Nat} (h : number s b m = some n) : 1 ≤ s.length ∧ s.length ≤ m ∧ digs b s 0 = some n := by
  unfold number at h
  split at h
  · cases h
  · rename_i hn
    have : s ≠ [] := fun e => hn (.inl e)
    have := List.length_pos_iff.2 this
    exact ⟨this, by omega, h⟩
theorem stands_len {a t : List UInt8} (h : stands a = some t) : t.length ≤ a.length + 2 := by
  by_cases hh : ∃ d, a = 35 :: d
  · obtain ⟨d, rfl⟩ := hh
    rw [stands_hash] at h
    obtain ⟨n, hn, rfl⟩ := Option.map_eq_some_iff.1 h
    have h4 := (enc_len (fixN n)).2
    unfold hashN at hn
    split at hn
    · have := (number_pos hn).1; simp at this ⊢; omega
    · have := (number_pos hn).1; simp at this ⊢; omega
    · have := (number_pos hn).1; simp at this ⊢; omega
  · rw [stands_named a (fun d e => hh ⟨d, e⟩)] at h
    exact named_len h
theorem oneR_len {r t r' : List UInt8} (h : oneR r = some (t, r')) : t.length + r'.length ≤ r.length + 1 := by
  by_cases hm : (59 : UInt8) ∈ r.take 11
  · obtain ⟨a, b, rfl, ha, hl⟩ := split_take r hm
    rw [oneR_some a b ha hl] at h
    cases hs : stands a with
    | none => rw [hs] at h; cases h
    | some u =>
      rw [hs] at h; cases h
      have := stands_len hs
      simp; omega
  · rw [oneR_none r hm] at h; cases h
theorem resolve_len : ∀ (n : Nat) (s : List UInt8), s.length ≤ n → (resolve s).length ≤ s.length
  | _, [], _ => by simp [resolve_nil]
  | 0, _ :: _, h => by simp at h
  | n + 1, c :: r, h => by
    simp at h
    by_cases hc : c = 38
    · subst hc
      rw [resolve_amp]
      split
      · rename_i t r' ho
        have h1 := oneR_lt ho
        have h2 := oneR_len ho
        have := resolve_len n r' (by omega)
        simp; omega
      · have := resolve_len n r h
        simp; omega
    · rw [resolve_other c r hc]
      have := resolve_len n r h
      simp; omega

def esc1 (q : Bool) (c : UInt8) : List UInt8 := if c = 38 then [38, 97, 109, 112, 59] else if c = 60 then [38, 108, 116, 59] else if c = 62 then [38, 103, 116, 59] else if c = 34 ∧ q = true then [38, 113, 117, 111, 116, 59] else [c]
def escape (q : Bool) : List UInt8 → List UInt8
  | [] => []
  | [c] => esc1 q c
  | c :: d :: r => if c = 194 ∧ d = 160 then [38, 110, 98, 115, 112, 59] ++ escape q r else esc1 q c ++ escape q (d :: r)
theorem escape_nb (q : Bool) (r : List UInt8) : escape q (194 :: 160 :: r) = [38, 110, 98, 115, 112, 59] ++ escape q r := by simp [escape]
theorem escape_cons (q : Bool) (c : UInt8) (r : List UInt8) (h : ¬ (c = 194 ∧ ∃ t, r = 160 :: t)) : escape q (c :: r) = esc1 q c ++ escape q r := by
  cases r with
  | nil => simp [escape]
  | cons d t =>
    rw [escape, if_neg]
    rintro ⟨h1, h2⟩
    exact h ⟨h1, t, by rw [h2]⟩
theorem esc1_len (q : Bool) (c : UInt8) : 1 ≤ (esc1 q c).length ∧ (esc1 q c).length ≤ 6 := by
  unfold esc1
  repeat' split
  all_goals simp
theorem escape_len : ∀ (n : Nat) (q : Bool) (s : List UInt8), s.length ≤ n → s.length ≤ (escape q s).length ∧ (escape q s).length ≤ 6 * s.length
  | _, _, [], _ => by simp [escape]
  | 0, _, _ :: _, h => by simp at h
  | n + 1, q, c :: r, h => by
    simp at h
    by_cases hc : c = 194 ∧ ∃ t, r = 160 :: t
    · obtain ⟨rfl, t, rfl⟩ := hc
      rw [escape_nb]
      have := escape_len n q t (by simp at h; omega)
      simp; omega
    · rw [escape_cons q c r hc]
      have := escape_len n q r h
      have := esc1_len q c
      simp; omega

/-- How many bytes the right sequence has that a text begins with. -/
def lead (c : UInt8) : Nat × Nat × Nat :=
  if 194 ≤ c.toNat ∧ c.toNat ≤ 223 then (2, 128, 191)
  else if 224 ≤ c.toNat ∧ c.toNat ≤ 239 then (3, if c.toNat = 224 then 160 else 128, if c.toNat = 237 then 159 else 191)
  else if 240 ≤ c.toNat ∧ c.toNat ≤ 244 then (4, if c.toNat = 240 then 144 else 128, if c.toNat = 244 then 143 else 191)
  else (0, 128, 191)
def goesB (c : UInt8) : Bool := decide (128 ≤ c.toNat) && decide (c.toNat ≤ 191)
def right (s : List UInt8) : Nat := match s with
  | [] => 0
  | c :: r => if c.toNat < 128 then 1 else
    if (lead c).1 = 0 ∨ s.length < (lead c).1 ∨ (r.getD 0 0).toNat < (lead c).2.1 ∨ (lead c).2.2 < (r.getD 0 0).toNat then 0 else
    if ((r.drop 1).take ((lead c).1 - 2)).all goesB then (lead c).1 else 0
theorem lead_le (c : UInt8) : (lead c).1 ≤ 4 := by
  unfold lead
  repeat' split
  all_goals simp
theorem right_le (s : List UInt8) : right s ≤ s.length := by
  unfold right
  split
  · simp
  · rename_i c r
    repeat' split
    all_goals first | omega | (simp; done) | skip
theorem right_le4 (s : List UInt8) : right s ≤ 4 := by
  unfold right
  split
  · simp
  · rename_i c r
    have := lead_le c
    repeat' split
    all_goals omega
def chrs : Nat → List UInt8 → List (List UInt8)
  | 0, _ => []
  | _ + 1, [] => []
  | n + 1, c :: r => (c :: r).take (max (right (c :: r)) 1) :: chrs n ((c :: r).drop (max (right (c :: r)) 1))
def chars (s : List UInt8) : List (List UInt8) := chrs s.length s
theorem chrs_fuel : ∀ (n m : Nat) (s : List UInt8), s.length ≤ n → s.length ≤ m → chrs n s = chrs m s
  | 0, 0, _, _, _ => rfl
  | 0, m + 1, s, h, _ => by
    have : s = [] := List.length_eq_zero_iff.1 (by omega)
    subst this; rfl
  | n + 1, 0, s, _, h => by
    have : s = [] := List.length_eq_zero_iff.1 (by omega)
    subst this; rfl
  | n + 1, m + 1, [], _, _ => rfl
  | n + 1, m + 1, c :: r, h1, h2 => by
    unfold chrs
    rw [chrs_fuel n m _ (by simp at h1 ⊢; omega) (by simp at h2 ⊢; omega)]
theorem chars_cons (s : List UInt8) (h : s ≠ []) : chars s = s.take (max (right s) 1) :: chars (s.drop (max (right s) 1)) := by
  cases s with
  | nil => exact absurd rfl h
  | cons c r =>
    show chrs (r.length + 1) (c :: r) = _
    unfold chrs
    rw [chrs_fuel r.length _ _ (by simp; omega) (Nat.le_refl _)]
    rfl
theorem chars_len : ∀ (n : Nat) (s : List UInt8), s.length ≤ n → (chars s).length ≤ s.length
  | _, [], _ => by simp [chars, chrs]
  | 0, _ :: _, h => by simp at h
  | n + 1, c :: r, h => by
    rw [chars_cons _ (by simp)]
    have := chars_len n ((c :: r).drop (max (right (c :: r)) 1)) (by simp at h ⊢; omega)
    simp at this ⊢; omega
end Go.Proofs.Ytcmkiancbgmmhaa
