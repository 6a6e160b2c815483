/- The abstract walk, thirteenth part: strings.Builder, opened and closed. -/
import Derived.Test.YtcmkiancbgmmhaaAwC
namespace Go.Aw
set_option linter.unusedVariables false
set_option linter.unusedSimpArgs false
section
variable {P : Program} {N B : Nat}

theorem bytesA_get (s : List UInt8) (i : Nat) (x : UInt8) (h : s[i]? = some x) : (bytesA s)[i]? = some [.d (.int .u8 x.toNat)] := by simp [bytesA, h]

/-- A builder is looked into: its two cells, and its buffer. -/
theorem E.open {c : Code} {K : Exit → St → Store → Prop} {st : St} {σ : Store} {i : Nat} {T U : TypeId} {s : List UInt8} (ho : σ.get i = .bld T U s)
    (h : ∀ pv, (pv = .nilp ∨ pv = .ref i 0 0) → (s = [] → E P N B c K st ⟨σ.n, (i, .two T pv .nil) :: σ.objs⟩) ∧ (s ≠ [] → E P N B c K st ⟨σ.n + 1, (i, .two T pv (.own σ.n 0 s.length)) :: (σ.n, .rows (1, U) (bytesA s)) :: σ.objs⟩)) : E P N B c K st σ := fun g a w hB hT R => by
  have hi : i < g.n := by
    rcases Nat.lt_or_ge i g.n with h | h
    · exact h
    · have := R.dead i h; rw [ho] at this; cases this
  have hob := R.ob i hi
  rw [ho] at hob
  obtain ⟨hk, hz, hc, p, v, hw, hp, hv⟩ := hob
  have hget : ∀ (n : Nat) (o : Ob) (r : List (Nat × Ob)) (j : Nat), (Store.mk n ((i, o) :: r)).get j = if i = j then o else look .dead r j := fun n o r j => by simp only [Store.get, look_cons]
  rcases hv with ⟨rfl, rfl⟩ | ⟨b, cap, cs, fr, rfl, hne, hkb, hwb, hfz, hcs, hcap, hs, hcell⟩
  · -- nothing written yet
    have go : ∀ pv, (pv = .nilp ∨ pv = .ref i 0 0) → RepA g w pv p → p.oneCell' = true → c.wp P (Post (P := P) N B g σ w K) a w := by
      intro pv hpv hrp hop
      have hR : StoreRel P g ⟨σ.n, (i, .two T pv .nil) :: σ.objs⟩ w := by
        refine ⟨R.n, R.lt, R.owner, fun j hj => ?_, fun j hj => ?_, R.glob⟩
        · rw [hget, if_neg (by omega)]; exact R.dead j hj
        · rw [hget]
          split
          · rename_i e; subst e; exact ⟨hk, hz, hc, p, _, hw, hrp, .nil, hop, rfl⟩
          · exact R.ob j hj
      have hX : ExtB B g σ w g ⟨σ.n, (i, .two T pv .nil) :: σ.objs⟩ w := by
        refine ⟨hB, fun _ _ => ⟨rfl, rfl, rfl⟩, fun j hj hd => ?_, Nat.le_refl _, fun _ _ _ => ⟨rfl, rfl⟩, rfl, rfl, rfl⟩
        rw [hget, if_neg (fun e => by subst e; rw [ho] at hd; cases hd)]; exact hd
      exact wp_mono ((h pv hpv).1 rfl g a w hB hT hR) fun e a' w' ⟨s2, σ2, g2, q1, q2, q3, q4⟩ => ⟨s2, σ2, g2, q1, q2, hX.trans q3, q4⟩
    rcases hp with rfl | rfl
    · exact go _ (.inl rfl) .nilp rfl
    · exact go _ (.inr rfl) (by simpa using RepA.ref (g := g) (w := w) i 0 0 hi) rfl
  · -- the buffer becomes an object
    let g' : Ghost := ⟨g.n + 1, fun j => if j = g.n then b else g.blk j, fun j => if j = g.n then 1 else g.sz j, fun j => if j = g.n then cap else g.cap j, fun x => if x = b then .own g.n else g.kind x⟩
    have hK : Keeps g w g' w := ⟨by simp [g'], fun j hj => by simp [g', Nat.ne_of_lt hj], fun x hx => ⟨by
      have : x ≠ b := fun e => by subst e; rw [show g.kind x = .imm from hx] at hkb; cases hkb
      show g'.kind x = .imm
      simp [g', this]; exact hx, rfl⟩⟩
    have hbi : g'.kind (g'.blk i) = .own i := by
      have h1 : g'.blk i = g.blk i := (hK.place i hi).1
      rw [h1]
      simp [g', Ne.symm hne, hk]
    have go : ∀ pv, (pv = .nilp ∨ pv = .ref i 0 0) → RepA g w pv p → p.oneCell' = true → c.wp P (Post (P := P) N B g σ w K) a w := by
      intro pv hpv hrp hop
      have hR : StoreRel P g' ⟨σ.n + 1, (i, .two T pv (.own σ.n 0 s.length)) :: (σ.n, .rows (1, U) (bytesA s)) :: σ.objs⟩ w := by
        refine ⟨by simp [g', R.n], fun x hx => ?_, fun x j hx => ?_, fun j hj => ?_, fun j hj => ?_, glob_keep hK R.glob⟩
        · by_cases hxb : x = b
          · subst hxb; exact R.lt x (by rw [hkb]; intro q; cases q)
          · simp [g', hxb] at hx; exact R.lt x hx
        · by_cases hxb : x = b
          · subst hxb; simp [g'] at hx ⊢; omega
          · simp [g', hxb] at hx; have := R.owner x j hx; simp [g']; omega
        · have hj' : g.n + 1 ≤ j := hj
          have hn := R.n
          rw [hget, if_neg (by omega), look_cons, if_neg (by omega)]; exact R.dead j (by omega)
        · rw [hget]
          have hn := R.n
          split
          · rename_i e; subst e
            refine ⟨hbi, by rw [(hK.place i hi).2.1]; exact hz, by rw [(hK.place i hi).2.2]; exact hc, p, _, by rw [(hK.place i hi).1]; exact hw, hrp.mono hK, ?_, hop, rfl⟩
            have : RepA g' w (.own g.n 0 s.length) (.slice (some ⟨g'.blk g.n, 0 * g'.sz g.n, none⟩) s.length cap) := .own g.n 0 _ cap (by simp [g']) (by simp [g']) hcap
            rw [hn]; simpa [g'] using this
          · rw [look_cons]
            split
            · rename_i e; subst e
              have hsz : g'.sz σ.n = 1 := by simp [g', hn]
              refine .inr ⟨by simp [g', hn], hsz, cs, fr, by simpa [g', hn] using hwb, hfz, by rw [hsz]; simp [g', hn, hcs], by simp [g', hn, bytesA]; exact hcap, fun r row hrow => ?_⟩
              rw [hsz]
              simp only [bytesA, List.getElem?_map] at hrow
              cases hx : s[r]? with
              | none => rw [hx] at hrow; cases hrow
              | some x =>
                rw [hx] at hrow; cases hrow
                refine ⟨rfl, fun j a ha => ?_⟩
                cases j with
                | zero => simp at ha; subst ha; exact ⟨.int .u8 x.toNat, by simpa using hcell r x hx, .d (.int _ _), rfl⟩
                | succ j => simp at ha
            · rename_i hij hnj
              have hjn : j < g.n := by have : j < g.n + 1 := hj; omega
              refine (R.ob j hjn).mono hK hjn (fun x hx => ⟨?_, rfl⟩)
              have : x ≠ b := fun e => by subst e; rw [hkb] at hx; cases hx; exact hij rfl
              simp [g', this, hx]
      have hX : ExtB B g σ w g' ⟨σ.n + 1, (i, .two T pv (.own σ.n 0 s.length)) :: (σ.n, .rows (1, U) (bytesA s)) :: σ.objs⟩ w := by
        have hn := R.n
        refine ⟨by simp [g']; omega, fun j hj => hK.place j (by omega), fun j hj hd => ?_, Nat.le_refl _, fun x hx hox => ⟨?_, rfl⟩, rfl, rfl, rfl⟩
        · rw [hget, if_neg (fun e => by subst e; rw [ho] at hd; cases hd), look_cons, if_neg (by omega)]; exact hd
        · have : x ≠ b := fun e => by subst e; have := (hox i hkb).2; rw [ho] at this; cases this
          simp [g', this]
      exact wp_mono ((h pv hpv).2 hs g' a w hX.n (hT.mono hK) hR) fun e a' w' ⟨s2, σ2, g2, q1, q2, q3, q4⟩ => ⟨s2, σ2, g2, q1, q2, hX.trans q3, q4⟩
    rcases hp with rfl | rfl
    · exact go _ (.inl rfl) .nilp rfl
    · exact go _ (.inr rfl) (by simpa using RepA.ref (g := g) (w := w) i 0 0 hi) rfl

/-- A builder is closed again, empty. -/
theorem fin_close0 {σ0 σ : Store} {r : AV} (i : Nat) (T U : TypeId) {pv : AV} (hpv : pv = .nilp ∨ pv = .ref i 0 0) (ho : σ.get i = .two T pv .nil) : FinMove σ0 r σ r ⟨σ.n, (i, .bld T U []) :: σ.objs⟩ := fun _ g0 g w0 w v R0 hE R hrep => by
  have hi : i < g.n := by
    rcases Nat.lt_or_ge i g.n with h | h
    · exact h
    · have := R.dead i h; rw [ho] at this; cases this
  have hob := R.ob i hi
  rw [ho] at hob
  obtain ⟨hk, hz, hc, x, y, hw, h1, h2, _⟩ := hob
  have hget : ∀ j, (Store.mk σ.n ((i, .bld T U []) :: σ.objs)).get j = if i = j then .bld T U [] else σ.get j := fun j => by simp only [Store.get, look_cons]
  refine ⟨g, ⟨hE.n, hE.place, fun j hj hd => ?_, hE.size, hE.keep, hE.os, hE.tape, hE.output⟩, ⟨R.n, R.lt, R.owner, fun j hj => ?_, fun j hj => ?_, R.glob⟩, hrep⟩
  · have := hE.dead j hj hd
    rw [hget, if_neg (fun e => by subst e; rw [ho] at this; cases this)]; exact this
  · rw [hget, if_neg (by omega)]; exact R.dead j hj
  · rw [hget]
    split
    · rename_i e; subst e
      cases h2
      refine ⟨hk, hz, hc, x, _, hw, ?_, .inl ⟨rfl, rfl⟩⟩
      rcases hpv with rfl | rfl
      · cases h1; exact .inl rfl
      · cases h1; exact .inr (by simp)
    · exact R.ob j hj

/-- A builder is closed again, its buffer with it. -/
theorem fin_close {σ0 σ : Store} {r : AV} (i j : Nat) (T U : TypeId) (s : List UInt8) {pv : AV} (hpv : pv = .nilp ∨ pv = .ref i 0 0) (ho : σ.get i = .two T pv (.own j 0 s.length)) (hj : σ.get j = .rows (1, U) (bytesA s)) (hs : s ≠ []) (hn : σ0.n ≤ j) (hr : r.pure = true) :
    FinMove σ0 r σ r ⟨σ.n, (i, .bld T U s) :: (j, .dead) :: σ.objs⟩ := fun _ g0 g w0 w v R0 hE R hrep => by
  have lt : ∀ k, σ.get k ≠ .dead → k < g.n := fun k hk => by
    rcases Nat.lt_or_ge k g.n with h | h
    · exact h
    · exact absurd (R.dead k h) hk
  have hi := lt i (by rw [ho]; intro q; cases q)
  have hjn := lt j (by rw [hj]; intro q; cases q)
  have hij : i ≠ j := fun e => by subst e; rw [ho] at hj; cases hj
  have hob := R.ob i hi
  rw [ho] at hob
  obtain ⟨hk, hz, hc, x, y, hw, h1, h2, _⟩ := hob
  have hobj := R.ob j hjn
  rw [hj] at hobj
  obtain ⟨s0, hs0⟩ : ∃ x, s[0]? = some x := by
    cases s with
    | nil => exact absurd rfl hs
    | cons a r => exact ⟨a, rfl⟩
  have hrow0 := bytesA_get s 0 s0 hs0
  obtain ⟨jk, jz, cs, fr, jw, jf, js, jl, jr⟩ := hobj.at hrow0
  have hget : ∀ k, (Store.mk σ.n ((i, .bld T U s) :: (j, .dead) :: σ.objs)).get k = if i = k then .bld T U s else if j = k then .dead else σ.get k := fun k => by simp only [Store.get, look_cons]
  let g' : Ghost := { g with kind := fun x => if x = g.blk j then .own i else g.kind x }
  have hne : g.blk j ≠ g.blk i := fun e => by rw [e, hk] at jk; cases jk; exact hij rfl
  have hK : Keeps g w g' w := ⟨Nat.le_refl _, fun _ _ => ⟨rfl, rfl, rfl⟩, fun x hx => ⟨by
    have : x ≠ g.blk j := fun e => by subst e; rw [show g.kind (g.blk j) = .imm from hx] at jk; cases jk
    show g'.kind x = .imm
    simp [g', this]; exact hx, rfl⟩⟩
  refine ⟨g', ⟨hE.n, hE.place, fun k hk hd => ?_, hE.size, fun b hb hob => ?_, hE.os, hE.tape, hE.output⟩, ⟨R.n, fun b hb => ?_, fun b k hb => ?_, fun k hk => ?_, fun k hk' => ?_, glob_keep hK R.glob⟩, hrep.mono hK⟩
  · have := hE.dead k hk hd
    rw [hget, if_neg (fun e => by subst e; rw [ho] at this; cases this)]
    split
    · rfl
    · exact this
  · obtain ⟨q1, q2⟩ := hE.keep b hb hob
    refine ⟨?_, q2⟩
    have : b ≠ g.blk j := fun e => by
      subst e
      rw [jk] at q1
      have hbb := R0.owner (g.blk j) j q1.symm
      rw [← R0.n] at hbb
      omega
    simp [g', this, q1]
  · by_cases hbj : b = g.blk j
    · subst hbj; exact R.lt _ (by rw [jk]; intro q; cases q)
    · simp [g', hbj] at hb; exact R.lt b hb
  · by_cases hbj : b = g.blk j
    · subst hbj; simp [g'] at hb; rw [← hb]; exact hi
    · simp [g', hbj] at hb; exact R.owner b k hb
  · have hk' : g.n ≤ k := hk
    rw [hget, if_neg (by omega), if_neg (by omega)]; exact R.dead k hk'
  · rw [hget]
    split
    · rename_i e; subst e
      have h2' := h2
      generalize hln : s.length = ln at h2'
      cases h2' with
      | own0 => exact absurd (List.length_eq_zero_iff.1 hln) hs
      | own _ _ _ cap _ hcap hl =>
      subst hln
      refine ⟨by simp only [g', if_neg (Ne.symm hne)]; exact hk, hz, hc, x, _, hw, ?_, .inr ⟨g.blk j, cap, cs, fr, by simp, hne, by simp [g'], jw, jf, by rw [js, jz, ← hcap]; omega, hl, hs, fun k x hx => ?_⟩⟩
      · rcases hpv with rfl | rfl
        · cases h1; exact .inl rfl
        · cases h1; exact .inr (by simp [g'])
      · obtain ⟨_, q2⟩ := jr k _ (bytesA_get s k x hx)
        obtain ⟨u, hu, hru, _⟩ := q2 0 _ rfl
        have := repA_int hru
        subst this
        rw [jz] at hu
        simpa using hu
    · split
      · trivial
      · rename_i hik hjk
        refine (R.ob k hk').mono hK hk' (fun b hb => ⟨?_, rfl⟩)
        have : b ≠ g.blk j := fun e => by subst e; rw [jk] at hb; cases hb; exact hjk rfl
        simp [g', this, hb]

end
end Go.Aw
