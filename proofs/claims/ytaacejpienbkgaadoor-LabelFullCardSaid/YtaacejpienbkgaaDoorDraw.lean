/- A region that draws its order, walked in the order of its text: what a load reads is held till the operation that waits for it. -/
import Derived.Test.YtaacejpienbkgaaDoorBase
import Derived.OrdersHeld
namespace Go.Proofs.YtaacejpienbkgaaDoor
open Go.RowKit

/-- Conditions on the world, each held till an operation (its number) has come up. -/
abbrev Keys := List (Nat × (World → Prop))
def KS : Keys → Array Bool → World → Prop
  | [], _, _ => True
  | (k, T) :: r, l, w => (l.getD k true = false → T w) ∧ KS r l w

theorem KS.get {keys : Keys} {l : Array Bool} {w : World} (h : KS keys l w) {k : Nat} {T : World → Prop} (hm : (k, T) ∈ keys) (hk : l.getD k true = false) : T w := by
  induction keys with
  | nil => cases hm
  | cons x r ih =>
    obtain ⟨k', T'⟩ := x
    rcases List.mem_cons.1 hm with e | hm
    · cases e; exact h.1 hk
    · exact ih h.2 hm
theorem KS.unset {keys : Keys} {l : Array Bool} {w : World} {i : Nat} (hn : ∀ x ∈ keys, x.1 ≠ i) (h : KS keys (l.setIfInBounds i true) w) : KS keys l w := by
  induction keys with
  | nil => trivial
  | cons x r ih =>
    obtain ⟨k', T'⟩ := x
    have hne : k' ≠ i := hn (k', T') (by simp)
    exact ⟨fun hk => h.1 (by rw [getD_set_ne true (Ne.symm hne)]; exact hk), ih (fun y hy => hn y (by simp [hy])) h.2⟩
theorem KS.set {keys : Keys} {l : Array Bool} {w : World} {i : Nat} (hn : ∀ x ∈ keys, x.1 ≠ i) (h : KS keys l w) : KS keys (l.setIfInBounds i true) w := by
  induction keys with
  | nil => trivial
  | cons x r ih =>
    obtain ⟨k', T'⟩ := x
    have hne : k' ≠ i := hn (k', T') (by simp)
    exact ⟨fun hk => h.1 (by rw [getD_set_ne true (Ne.symm hne)] at hk; exact hk), ih (fun y hy => hn y (by simp [hy])) h.2⟩

section
variable {P : Program} {ops : Array Oper} {Q : Exit → Act → World → Prop} {keys : Keys}

/-- Whatever order is picked from here on, the conditions hold behind every operation that is carried out. -/
def wpAnyK (P : Program) (ops : Array Oper) (Q : Exit → Act → World → Prop) (keys : Keys) : Nat → Array Bool → Act → World → Prop
  | 0, listed, a, w => Region.ready .any ops listed = [] ∧ Q .normal a w
  | fuel + 1, listed, a, w =>
    (Region.ready .any ops listed = [] → Q .normal a w) ∧
    ∀ i ∈ Region.ready .any ops listed, wpOp P ops Q i (fun a' w' => KS keys (listed.setIfInBounds i true) w' ∧ wpAnyK P ops Q keys fuel (listed.setIfInBounds i true) a' w') a w

theorem wpAny_of_keys : ∀ (fuel : Nat) (listed : Array Bool) (a : Act) (w : World), wpAnyK P ops Q keys fuel listed a w → wpAny P .any ops Q fuel listed a w
  | 0, _, _, _, h => h
  | fuel + 1, _, _, _, h => ⟨h.1, fun i hi => wpOp_mono (fun a' w' h' => wpAny_of_keys fuel _ a' w' h'.2) (h.2 i hi)⟩

/-- Whatever has come up has come up behind all that it waits for. -/
def Closed (ops : Array Oper) (l : Array Bool) : Prop := ∀ (k : Nat) (ok : Oper), ops[k]? = some ok → l.getD k true = true → ∀ e ∈ ok.after, Region.binds .any e = true → l.getD e.on true = true
def closedB (ops : Array Oper) (l : Array Bool) : Bool :=
  (List.range ops.size).all fun k => match ops[k]? with
    | some ok => !l.getD k true || ok.after.all fun e => !Region.binds .any e || l.getD e.on true
    | none => true
theorem closedB_spec {l : Array Bool} (h : closedB ops l = true) : Closed ops l := fun k ok hk hl e he hb => by
  simp only [closedB, List.all_eq_true, List.mem_range] at h
  have h1 := h k (Array.getElem?_eq_some_iff.1 hk).1
  simp only [hk, hl, Bool.not_true, Bool.false_or] at h1
  have h2 := Array.all_eq_true_iff_forall_mem.1 h1 e he
  simpa [hb] using h2
theorem getD_tt {l : Array Bool} {k : Nat} (h : l.getD k false = true) : l.getD k true = true := by
  rcases Nat.lt_or_ge k l.size with h' | h'
  · simp [h'] at h ⊢; exact h
  · simp [Array.getElem?_eq_none h'] at h
theorem getD_set_tt {l : Array Bool} {i j : Nat} (h : l.getD j true = true) : (l.setIfInBounds i true).getD j true = true := by
  by_cases hij : i = j
  · subst hij
    rcases Nat.lt_or_ge i l.size with h' | h'
    · simp [h']
    · simp [h']
  · rw [getD_set_ne true hij]; exact h
theorem Closed.set {l : Array Bool} {j : Nat} (h : Closed ops l) (hj : j ∈ Region.ready .any ops l) : Closed ops (l.setIfInBounds j true) := fun k ok hk hl e he hb => by
  by_cases hjk : j = k
  · subst hjk
    obtain ⟨_, oj, hoj, hall⟩ := mem_ready.1 hj
    rw [hoj] at hk; cases hk
    exact getD_set_tt (getD_tt (hall e he hb))
  · rw [getD_set_ne true hjk] at hl
    exact getD_set_tt (h k ok hk hl e he hb)
/-- Does operation k wait for operation i, be it through others? -/
def reach (ops : Array Oper) : Nat → Nat → Nat → Bool
  | 0, _, _ => false
  | n + 1, k, i => match ops[k]? with
    | some ok => ok.after.any fun e => Region.binds .any e && (e.on == i || reach ops n e.on i)
    | none => false
theorem reach_spec {l : Array Bool} {i : Nat} (hc : Closed ops l) (hi : l.getD i true = false) : ∀ (n k : Nat), reach ops n k i = true → l.getD k true = false
  | 0, _, h => by cases h
  | n + 1, k, h => by
    unfold reach at h
    split at h
    · rename_i ok hok
      obtain ⟨e, he, hb⟩ := Array.any_eq_true'.1 h
      simp only [Bool.and_eq_true, Bool.or_eq_true, beq_iff_eq] at hb
      cases hk : l.getD k true with
      | false => rfl
      | true =>
        have h1 := hc k ok hok hk e he hb.1
        rcases hb.2 with h2 | h2
        · rw [h2] at h1; rw [h1] at hi; cases hi
        · rw [reach_spec hc hi n e.on h2] at h1; cases h1
    · cases h

theorem wpAnyK_first {i : Nat} {oi : Oper} {v : Value} {T : World → Prop} (hi : ops[i]? = some oi) (hsel : ∀ (j : Nat) (o : Oper) cs b, ops[j]? = some o → o.op ≠ .select cs b)
    (hQ : ∀ c a w, Q (.panic c) (a.put oi.dst v) w → Q (.panic c) a w) (hn : ∀ x ∈ keys, x.1 ≠ i)
    (hT : ∀ (l : Array Bool) (w : World), Closed ops l → l.getD i true = false → KS keys l w → T w) :
    ∀ (fuel : Nat) (listed : Array Bool) (a : Act) (w : World),
      (∀ j oj, ops[j]? = some oj → j ≠ i → listed.getD j true = false → (∀ e ∈ oj.after, Region.binds .any e = true → e.on ≠ i) → oi.apart ops oj = true) →
      Closed ops listed →
      i ∈ Region.ready .any ops listed → YieldsIf P ops T oi v a → KS keys listed w →
      wpAnyK P ops Q keys fuel (listed.setIfInBounds i true) (a.put oi.dst v) w → wpAnyK P ops Q keys (fuel + 1) listed a w := by
  intro fuel
  induction fuel with
  | zero =>
    intro listed a w _ hcl hr hy hS H
    refine ⟨fun h => (by rw [h] at hr; cases hr), fun j hj => ?_⟩
    by_cases hji : j = i
    · subst hji; exact hy.wpOp hi (hT _ _ hcl (mem_ready.1 hr).1 hS) ⟨hS.set hn, H⟩
    · have := ready_mono hj hji
      rw [H.1] at this
      cases this
  | succ fuel ih =>
    intro listed a w hfree hcl hr hy hS H
    refine ⟨fun h => (by rw [h] at hr; cases hr), fun j hj => ?_⟩
    by_cases hji : j = i
    · subst hji; exact hy.wpOp hi (hT _ _ hcl (mem_ready.1 hr).1 hS) ⟨hS.set hn, H⟩
    · have h1 := H.2 j (ready_mono hj hji)
      obtain ⟨hjun, oj, hoj, hall⟩ := mem_ready.1 hj
      have hnot : ∀ e ∈ oj.after, Region.binds .any e = true → e.on ≠ i := fun e he hb heq => by
        have h1 := hall e he hb
        have h0 := (mem_ready.1 hr).1
        rw [heq] at h1
        rw [getD_tt h1] at h0; cases h0
      have h2 := wpOp_putIf hoj (hfree j oj hoj hji hjun hnot) (fun cs b => hsel i oi cs b hi) (fun cs b => hsel j oj cs b hoj) hQ hy h1
      have hfree' : ∀ k ok, ops[k]? = some ok → k ≠ i → (listed.setIfInBounds j true).getD k true = false →
          (∀ e ∈ ok.after, Region.binds .any e = true → e.on ≠ i) → oi.apart ops ok = true := fun k ok hk hki hun hno => by
        refine hfree k ok hk hki ?_ hno
        by_cases hjk : j = k
        · subst hjk; exact hjun
        · rw [getD_set_ne true hjk] at hun; exact hun
      refine wpOp_mono (fun a' w' h3 => ?_) h2
      obtain ⟨hy', hS', H'⟩ := h3
      rw [Array.setIfInBounds_comm _ _ (Ne.symm hji)] at hS' H'
      have hS2 : KS keys (listed.setIfInBounds j true) w' := hS'.unset hn
      exact ⟨hS2, ih (listed.setIfInBounds j true) a' w' hfree' (hcl.set hj) (ready_mono hr (Ne.symm hji)) hy' hS2 H'⟩

/-- **Take number i next: what it yields is the same in every world.** -/
theorem kTake {i : Nat} {oi : Oper} {v : Value} {fuel : Nat} {listed : Array Bool} {a : Act} {w : World} (hi : ops[i]? = some oi)
    (hs : Region.noSelect ops = true) (hf : (Region.free .any ops listed i && (Region.ready .any ops listed).contains i && closedB ops listed && keys.all fun x => x.1 != i) = true)
    (d : Option Tmp) (hd : oi.dst = d) (hQ : ∀ c a w, Q (.panic c) (a.put d v) w → Q (.panic c) a w) (hy : Yields P ops oi v a)
    (h : KS keys (listed.setIfInBounds i true) w → wpAnyK P ops Q keys fuel (listed.setIfInBounds i true) (a.put d v) w) : KS keys listed w → wpAnyK P ops Q keys (fuel + 1) listed a w := fun hS => by
  subst hd
  simp only [Bool.and_eq_true] at hf
  obtain ⟨⟨⟨hf1, hf2⟩, hf3⟩, hf4⟩ := hf
  have hn : ∀ x ∈ keys, x.1 ≠ i := fun x hx => by simpa using (List.all_eq_true.1 hf4) x hx
  exact wpAnyK_first (T := fun _ => True) hi (Region.noSelect_spec hs) hQ hn (fun _ _ _ _ _ => trivial) fuel listed a w (Region.free_spec hi hf1) (closedB_spec hf3) (by simpa using hf2) hy.yieldsIf hS (h (hS.set hn))

/-- **Take number i next: what it yields is the same in every world that meets T, and T is held till k, which waits for i.** -/
theorem kLoad {i : Nat} (k : Nat) (T : World → Prop) {oi : Oper} {v : Value} {fuel : Nat} {listed : Array Bool} {a : Act} {w : World} (hi : ops[i]? = some oi)
    (hs : Region.noSelect ops = true) (hf : (Region.free .any ops listed i && (Region.ready .any ops listed).contains i && closedB ops listed && (keys.all fun x => x.1 != i) && reach ops ops.size k i) = true)
    (hm : (k, T) ∈ keys) (d : Option Tmp) (hd : oi.dst = d) (hQ : ∀ c a w, Q (.panic c) (a.put d v) w → Q (.panic c) a w) (hy : YieldsIf P ops T oi v a)
    (h : KS keys (listed.setIfInBounds i true) w → wpAnyK P ops Q keys fuel (listed.setIfInBounds i true) (a.put d v) w) : KS keys listed w → wpAnyK P ops Q keys (fuel + 1) listed a w := fun hS => by
  subst hd
  simp only [Bool.and_eq_true] at hf
  obtain ⟨⟨⟨⟨hf1, hf2⟩, hf3⟩, hf4⟩, hf5⟩ := hf
  have hn : ∀ x ∈ keys, x.1 ≠ i := fun x hx => by simpa using (List.all_eq_true.1 hf4) x hx
  exact wpAnyK_first (T := T) hi (Region.noSelect_spec hs) hQ hn (fun l w' hl hl2 hS' => hS'.get hm (reach_spec hl hl2 _ _ hf5)) fuel listed a w (Region.free_spec hi hf1) (closedB_spec hf3) (by simpa using hf2) hy hS (h (hS.set hn))

/-- **Only number i may come up: it is carried out.** -/
theorem kOnly {i : Nat} {oi : Oper} {fuel : Nat} {listed : Array Bool} {a : Act} {w : World} (hr : Region.ready .any ops listed = [i]) (hi : ops[i]? = some oi) (hw : Region.wanted oi (yielded ops a.tmps) = true)
    (h : ∀ K : Act → World → Prop, (∀ a' w', KS keys (listed.setIfInBounds i true) w' → (KS keys (listed.setIfInBounds i true) w' → wpAnyK P ops Q keys fuel (listed.setIfInBounds i true) a' w') → K a' w') → oi.wp P a w K Q) :
    KS keys listed w → wpAnyK P ops Q keys (fuel + 1) listed a w := fun _ => by
  refine ⟨fun h0 => absurd (hr ▸ h0) (by simp), fun j hj => ?_⟩
  rw [hr] at hj
  obtain rfl : j = i := by simpa using hj
  unfold wpOp
  simp only [hi, hw, if_true]
  exact .inl (h _ (fun a' w' hS' hK => ⟨hS', hK hS'⟩))

theorem kDone {listed : Array Bool} {a : Act} {w : World} (hr : Region.ready .any ops listed = []) (h : Q .normal a w) : KS keys listed w → wpAnyK P ops Q keys 0 listed a w := fun _ => ⟨hr, h⟩

/-- **The beginning.** -/
theorem wp_region_keys {id : Nat} {a : Act} {w : World} (keys : Keys) (hm : P.follows .mixedOrders = true) (h0 : KS keys (Array.replicate ops.size false) w.drew)
    (h : KS keys (Array.replicate ops.size false) w.drew → wpAnyK P ops Q keys ops.size (Array.replicate ops.size false) a w.drew) : (Code.region id ops true).wp P Q a w :=
  wp_region_any hm (wpAny_of_keys _ _ _ _ (h h0))

end
end Go.Proofs.YtaacejpienbkgaaDoor
