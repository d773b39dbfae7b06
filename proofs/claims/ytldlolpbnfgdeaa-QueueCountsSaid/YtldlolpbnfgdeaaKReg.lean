/- A rule for regions that draw their order: what only reads may be taken first; what is left goes one by one. -/
import Derived.OrdersHeld
import Derived.Below
import Derived.Tactics
namespace Go.Proofs.Ytldlolpbnfgdeaa
open Go.RowKit
section
variable {P : Program} {ops : Array Oper} {Q : Exit → Act → World → Prop} {md : Region.Mode} {S : World → Prop} {T : List Nat}

def waits (md : Region.Mode) (ops : Array Oper) (j i : Nat) : Bool :=
  match ops[j]? with
  | some oj => oj.after.any fun e => Region.binds md e && e.on == i
  | none => false

theorem waits_spec {j i : Nat} (h : waits md ops j i = true) : ∃ oj, ops[j]? = some oj ∧ ∃ e ∈ oj.after, Region.binds md e = true ∧ e.on = i := by
  unfold waits at h
  split at h
  · rename_i oj hj
    obtain ⟨e, he, hb⟩ := Array.any_eq_true'.1 h
    simp only [Bool.and_eq_true, beq_iff_eq] at hb
    exact ⟨oj, hj, e, he, hb.1, hb.2⟩
  · cases h

def lastB (md : Region.Mode) (ops : Array Oper) (T : List Nat) (j : Nat) : Bool := T.all fun t => waits md ops j t

def wpAnyG (P : Program) (md : Region.Mode) (ops : Array Oper) (Q : Exit → Act → World → Prop) (S : World → Prop) (T : List Nat) : Nat → Array Bool → Act → World → Prop
  | 0, listed, a, w => Region.ready md ops listed = [] ∧ Q .normal a w
  | fuel + 1, listed, a, w =>
    (Region.ready md ops listed = [] → Q .normal a w) ∧
    ∀ i ∈ Region.ready md ops listed, wpOp P ops Q i (fun a' w' => (lastB md ops T i = false → S w') ∧ wpAnyG P md ops Q S T fuel (listed.setIfInBounds i true) a' w') a w

theorem wpAny_of_G : ∀ (fuel : Nat) (listed : Array Bool) (a : Act) (w : World), wpAnyG P md ops Q S T fuel listed a w → wpAny P md ops Q fuel listed a w
  | 0, _, _, _, h => h
  | fuel + 1, _, _, _, h => ⟨h.1, fun i hi => wpOp_mono (fun a' w' h' => wpAny_of_G fuel _ a' w' h'.2) (h.2 i hi)⟩

theorem wpAnyG_first {i : Nat} {oi : Oper} {v : Value} (hT : i ∈ T) (hi : ops[i]? = some oi) (hsel : ∀ (j : Nat) (o : Oper) cs b, ops[j]? = some o → o.op ≠ .select cs b)
    (hQ : ∀ c a w, Q (.panic c) (a.put oi.dst v) w → Q (.panic c) a w) :
    ∀ (fuel : Nat) (listed : Array Bool) (a : Act) (w : World),
      (∀ j oj, ops[j]? = some oj → j ≠ i → listed.getD j true = false → (∀ e ∈ oj.after, Region.binds md e = true → e.on ≠ i) → oi.apart ops oj = true) →
      i ∈ Region.ready md ops listed → YieldsIf P ops S oi v a → S w →
      wpAnyG P md ops Q S T fuel (listed.setIfInBounds i true) (a.put oi.dst v) w → wpAnyG P md ops Q S T (fuel + 1) listed a w := by
  intro fuel
  induction fuel with
  | zero =>
    intro listed a w _ hr hy hS H
    refine ⟨fun h => (by rw [h] at hr; cases hr), fun j hj => ?_⟩
    by_cases hji : j = i
    · subst hji; exact hy.wpOp hi hS ⟨fun _ => hS, H⟩
    · have := ready_mono hj hji
      rw [H.1] at this
      cases this
  | succ fuel ih =>
    intro listed a w hfree hr hy hS H
    refine ⟨fun h => (by rw [h] at hr; cases hr), fun j hj => ?_⟩
    by_cases hji : j = i
    · subst hji; exact hy.wpOp hi hS ⟨fun _ => hS, H⟩
    · have h1 := H.2 j (ready_mono hj hji)
      obtain ⟨hjun, oj, hoj, hall⟩ := mem_ready.1 hj
      have hnot : ∀ e ∈ oj.after, Region.binds md e = true → e.on ≠ i := fun e he hb heq => by
        have h1 := hall e he hb
        have h0 := (mem_ready.1 hr).1
        rw [heq] at h1
        rcases Nat.lt_or_ge i listed.size with h' | h'
        · simp [h'] at h0 h1; rw [h0] at h1; cases h1
        · simp [Array.getElem?_eq_none h'] at h1
      have hlast : lastB md ops T j = false := by
        cases hl : lastB md ops T j with
        | false => rfl
        | true =>
          have := List.all_eq_true.1 hl i hT
          obtain ⟨o', ho', e, he, hb, hon⟩ := waits_spec this
          have : o' = oj := Option.some.inj (ho'.symm.trans hoj)
          subst this
          exact absurd hon (hnot e he hb)
      have h2 := wpOp_putIf hoj (hfree j oj hoj hji hjun hnot) (fun cs b => hsel i oi cs b hi) (fun cs b => hsel j oj cs b hoj) hQ hy h1
      have hfree' : ∀ k ok, ops[k]? = some ok → k ≠ i → (listed.setIfInBounds j true).getD k true = false →
          (∀ e ∈ ok.after, Region.binds md e = true → e.on ≠ i) → oi.apart ops ok = true := fun k ok hk hki hun hno => by
        refine hfree k ok hk hki ?_ hno
        by_cases hjk : j = k
        · subst hjk; exact hjun
        · rw [getD_set_ne true hjk] at hun; exact hun
      refine wpOp_mono (fun a' w' h3 => ?_) h2
      obtain ⟨h3y, h3S, h3K⟩ := h3
      have hS' := h3S hlast
      refine ⟨fun _ => hS', ih (listed.setIfInBounds j true) a' w' hfree' (ready_mono hr (Ne.symm hji)) h3y hS' ?_⟩
      rw [Array.setIfInBounds_comm _ _ hji]
      exact h3K

/-- What is taken first yields its value in each world that meets S. -/
def wpTake (P : Program) (ops : Array Oper) (S : World → Prop) (K : Act → Prop) : List Oper → Act → Prop
  | [], a => K a
  | o :: rest, a => ∃ v, YieldsIf P ops S o v a ∧ wpTake P ops S K rest (a.put o.dst v)

/-- What is left, one by one; S behind each that others may come behind. -/
def wpRest (P : Program) (md : Region.Mode) (ops : Array Oper) (Q : Exit → Act → World → Prop) (S : World → Prop) (T : List Nat) : List Nat → List Oper → Act → World → Prop
  | [], _, a, w => Q .normal a w
  | _ :: _, [], a, w => Q .normal a w
  | j :: js, o :: os, a, w =>
    if lastB md ops T j then wpList P ops Q (o :: os) a w
    else wpList P ops (Exit.then (fun a' w' => S w' ∧ wpRest P md ops Q S T js os a' w') Q) [o] a w

def restB (md : Region.Mode) (ops : Array Oper) : List Nat → Array Bool → Bool
  | [], listed => (Region.ready md ops listed).isEmpty
  | j :: js, listed => decide (Region.ready md ops listed = [j]) && restB md ops js (listed.setIfInBounds j true)

def takeB (md : Region.Mode) (ops : Array Oper) (R : List Nat) : List Nat → Array Bool → Bool
  | [], listed => restB md ops R listed
  | i :: is, listed => (Region.ready md ops listed).contains i && Region.free md ops listed i && takeB md ops R is (listed.setIfInBounds i true)

abbrev NoP (Q : Exit → Act → World → Prop) : Exit → Act → World → Prop := Exit.then (fun a w => Q .normal a w) (fun _ _ _ => False)

theorem wpList_weaken {Q Q' : Exit → Act → World → Prop} (h0 : ∀ a w, Q .normal a w → Q' .normal a w) (hne : ∀ e a w, Q e a w → e = .normal) (l : List Oper) :
    ∀ (a : Act) (w : World), wpList P ops Q l a w → wpList P ops Q' l a w := by
  have hl : ¬ LetsOut Q := fun ⟨a, w, h⟩ => by have := hne _ _ _ h; cases this
  induction l with
  | nil => exact fun a w h => h0 a w h
  | cons o l ih =>
    intro a w h
    unfold wpList at h ⊢
    split at h
    · rename_i hw
      rw [if_pos hw]
      rcases h with h | ⟨h, hl'⟩
      · refine .inl ?_
        unfold Oper.wp at *
        generalize (execOp a.eval o).run P w = r at *
        cases r with
        | ok n w' =>
          cases n <;> simp only [Oper.upon] at h ⊢
          case enter f args =>
            refine Calls.mono h fun e w'' he => ?_
            cases e with
            | returned u => exact ih _ _ he
            | panicked c => have := hne _ _ _ he; cases this
            | outgrown => exact absurd he hl
          case row r args => exact Rows.mono h fun u w'' he => ih _ _ he
          all_goals exact ih _ _ h
        | halt x w' =>
          cases x <;> simp only [Oper.upon] at h ⊢
          case panic u => have := hne _ _ _ h; cases this
      · exact absurd hl' hl
    · rename_i hw
      rw [if_neg hw]
      exact ih _ _ h

theorem wpOp_of_single {j : Nat} {o : Oper} {K : Act → World → Prop} {a : Act} {w : World} (ho : ops[j]? = some o)
    (h : wpList P ops (Exit.then K (NoP Q)) [o] a w) : wpOp P ops (NoP Q) j K a w := by
  unfold wpOp
  simp only [ho]
  unfold wpList at h
  split at h
  · rename_i hw
    rw [if_pos hw]
    rcases h with h | ⟨h, hl⟩
    · refine .inl ?_
      unfold Oper.wp at *
      generalize (execOp a.eval o).run P w = r at *
      cases r with
      | ok n w' =>
        cases n <;> simp only [Oper.upon] at h ⊢
        case enter f args =>
          refine Calls.mono h fun e w'' he => ?_
          cases e with
          | returned u => exact he
          | panicked c => exact (he : False).elim
          | outgrown => obtain ⟨_, _, hh⟩ := (he : LetsOut _); exact (hh : False).elim
        case row r args => exact Rows.mono h fun u w'' he => he
        all_goals exact h
      | halt x w' =>
        cases x <;> simp only [Oper.upon] at h ⊢
        case panic u => exact (h : False).elim
    · obtain ⟨_, _, hh⟩ := hl; exact (hh : False).elim
  · rename_i hw
    rw [if_neg hw]
    exact h

theorem wpAny_rest {K : Exit → Act → World → Prop} : ∀ (js : List Nat) (os : List Oper) (listed : Array Bool) (a : Act) (w : World),
    (∀ n : Nat, os[n]? = (js[n]?).bind (fun j => ops[j]?)) → restB md ops js listed = true → wpList P ops K os a w → wpAny P md ops K js.length listed a w
  | [], os, listed, a, w, ho, hB, h => by
    have : os = [] := by cases os with
      | nil => rfl
      | cons o os => have := ho 0; simp at this
    subst this
    exact ⟨by simpa [restB] using hB, h⟩
  | j :: js, os, listed, a, w, ho, hB, h => by
    simp only [restB, Bool.and_eq_true, decide_eq_true_eq] at hB
    have h0 := ho 0
    simp at h0
    refine ⟨fun h1 => (by rw [hB.1] at h1; cases h1), fun i hi => ?_⟩
    rw [hB.1] at hi
    have : i = j := by simpa using hi
    subst this
    cases os with
    | nil =>
      unfold wpOp
      have : ops[i]? = none := by simpa using h0.symm
      exfalso
      have hm : i ∈ Region.ready md ops listed := by rw [hB.1]; simp
      obtain ⟨_, oj, hoj, _⟩ := mem_ready.1 hm
      rw [this] at hoj; cases hoj
    | cons o os =>
      have h0' : ops[i]? = some o := by simpa using h0.symm
      have hw : wpOp P ops K i (wpList P ops K os) a w := by unfold wpOp; simp only [h0']; exact h
      exact wpOp_mono (fun a' w' h' => wpAny_rest js os _ a' w' (fun n => by have := ho (n + 1); simpa using this) hB.2 h') hw

theorem wpAnyG_of_any {K : Exit → Act → World → Prop} : ∀ (js : List Nat) (listed : Array Bool) (a : Act) (w : World), (∀ j ∈ js, lastB md ops T j = true) → restB md ops js listed = true →
    wpAny P md ops K js.length listed a w → wpAnyG P md ops K S T js.length listed a w
  | [], _, _, _, _, _, h => h
  | j :: js, listed, a, w, hl, hB, h => by
    simp only [restB, Bool.and_eq_true, decide_eq_true_eq] at hB
    rw [List.length_cons] at h ⊢
    unfold wpAny at h
    unfold wpAnyG
    refine ⟨h.1, fun i hi => ?_⟩
    have h2 := h.2 i hi
    rw [hB.1] at hi
    have : i = j := by simpa using hi
    subst this
    exact wpOp_mono (fun a' w' h' => ⟨fun hf => (by rw [hl i (by simp)] at hf; cases hf), wpAnyG_of_any js _ a' w' (fun k hk => hl k (by simp [hk])) hB.2 h'⟩) h2

/-- The tail waits for all that is taken. -/
def lastsB (md : Region.Mode) (ops : Array Oper) (T : List Nat) : List Nat → Bool
  | [] => true
  | j :: js => if lastB md ops T j then js.all (lastB md ops T) else lastsB md ops T js

theorem wpAnyG_rest : ∀ (js : List Nat) (os : List Oper) (listed : Array Bool) (a : Act) (w : World),
    (∀ n : Nat, os[n]? = (js[n]?).bind (fun j => ops[j]?)) → restB md ops js listed = true → lastsB md ops T js = true → wpRest P md ops (NoP Q) S T js os a w → wpAnyG P md ops (NoP Q) S T js.length listed a w
  | [], os, listed, a, w, ho, hB, _, h => ⟨by simpa [restB] using hB, by simpa [wpRest] using h⟩
  | j :: js, [], listed, a, w, ho, hB, _, h => by
    exfalso
    simp only [restB, Bool.and_eq_true, decide_eq_true_eq] at hB
    have h0 := ho 0
    simp at h0
    have hm : j ∈ Region.ready md ops listed := by rw [hB.1]; simp
    obtain ⟨_, oj, hoj, _⟩ := mem_ready.1 hm
    rw [Array.getElem?_eq_none h0] at hoj; cases hoj
  | j :: js, o :: os, listed, a, w, ho, hB, hL, h => by
    have hB0 := hB
    simp only [restB, Bool.and_eq_true, decide_eq_true_eq] at hB
    have h0 := ho 0
    simp at h0
    have h0' : ops[j]? = some o := by simpa using h0.symm
    unfold wpRest at h
    unfold lastsB at hL
    by_cases hl : lastB md ops T j = true
    · rw [if_pos hl] at h hL
      refine wpAnyG_of_any (j :: js) listed a w (fun k hk => ?_) hB0 (wpAny_rest (j :: js) (o :: os) listed a w ho hB0 h)
      rcases List.mem_cons.1 hk with rfl | hk
      · exact hl
      · exact List.all_eq_true.1 hL k hk
    · rw [if_neg hl] at h hL
      refine ⟨fun h1 => (by rw [hB.1] at h1; cases h1), fun i hi => ?_⟩
      rw [hB.1] at hi
      have : i = j := by simpa using hi
      subst this
      have hw : wpOp P ops (NoP Q) i (fun a' w' => S w' ∧ wpRest P md ops (NoP Q) S T js os a' w') a w := by
        exact wpOp_of_single h0' h
      refine wpOp_mono (fun a' w' h' => ⟨fun _ => h'.1, ?_⟩) hw
      exact wpAnyG_rest js os _ a' w' (fun n => by have := ho (n + 1); simpa using this) hB.2 hL h'.2

theorem wpAnyG_take (hsel : Region.noSelect ops = true) {R : List Nat} {os : List Oper} {w : World} (hS : S w) (hos : ∀ n : Nat, os[n]? = (R[n]?).bind (fun j => ops[j]?)) (hL : lastsB md ops T R = true) :
    ∀ (is : List Nat) (ts : List Oper) (listed : Array Bool) (a : Act), (∀ i ∈ is, i ∈ T) → (∀ n : Nat, ts[n]? = (is[n]?).bind (fun j => ops[j]?)) → takeB md ops R is listed = true →
      wpTake P ops S (fun a' => wpRest P md ops (NoP Q) S T R os a' w) ts a → wpAnyG P md ops (NoP Q) S T (is.length + R.length) listed a w
  | [], ts, listed, a, _, ht, hB, h => by
    have : ts = [] := by cases ts with
      | nil => rfl
      | cons o os => have := ht 0; simp at this
    subst this
    simp only [List.length_nil, Nat.zero_add]
    exact wpAnyG_rest R os listed a w hos (by simpa [takeB] using hB) hL h
  | i :: is, [], listed, a, hT, ht, hB, h => by
    exfalso
    simp only [takeB, Bool.and_eq_true] at hB
    have hm : i ∈ Region.ready md ops listed := by simpa using hB.1.1
    obtain ⟨_, oj, hoj, _⟩ := mem_ready.1 hm
    have := ht 0
    simp at this
    rw [Array.getElem?_eq_none this] at hoj; cases hoj
  | i :: is, o :: ts, listed, a, hT, ht, hB, h => by
    simp only [takeB, Bool.and_eq_true] at hB
    have hi : ops[i]? = some o := by have := ht 0; simpa using this.symm
    obtain ⟨v, hy, h⟩ := h
    rw [show (i :: is).length + R.length = (is.length + R.length) + 1 by simp; omega]
    refine wpAnyG_first (hT i (by simp)) hi (Region.noSelect_spec hsel) (fun c a w h => h) _ listed a w (Region.free_spec hi hB.1.2) (by simpa using hB.1.1) hy hS ?_
    exact wpAnyG_take hsel hS hos hL is ts _ _ (fun k hk => hT k (by simp [hk])) (fun n => by have := ht (n + 1); simpa using this) hB.2 h

theorem NoP_imp : ∀ (e : Exit) (a : Act) (w : World), NoP Q e a w → Q e a w := fun e a w h => by
  cases e <;> first | exact h | exact (h : False).elim

theorem NoP_normal {a : Act} {w : World} (h : Q .normal a w) : NoP Q .normal a w := h
theorem wpRest_one {j : Nat} {js : List Nat} {o : Oper} {os : List Oper} {a : Act} {w : World} (hl : lastB md ops T j = false)
    (h : ∀ K : Act → World → Prop, (∀ a' w', S w' → wpRest P md ops (NoP Q) S T js os a' w' → K a' w') → wpList P ops (Exit.then K (fun _ _ _ => False)) [o] a w) : wpRest P md ops (NoP Q) S T (j :: js) (o :: os) a w := by
  unfold wpRest
  rw [if_neg (by rw [hl]; simp)]
  refine wpList_weaken (Q := Exit.then (fun a' w' => S w' ∧ wpRest P md ops (NoP Q) S T js os a' w') (fun _ _ _ => False)) (fun a w h => h) (fun e a w h => ?_) [o] a w (h _ (fun a' w' h1 h2 => ⟨h1, h2⟩))
  cases e <;> first | rfl | exact (h : False).elim
theorem wpRest_last {j : Nat} {js : List Nat} {o : Oper} {os : List Oper} {a : Act} {w : World} (hl : lastB md ops T j = true) (h : wpList P ops (NoP Q) (o :: os) a w) : wpRest P md ops (NoP Q) S T (j :: js) (o :: os) a w := by
  unfold wpRest
  rw [if_pos hl]
  exact h
theorem wpList_split (o : Oper) (os : List Oper) (a : Act) (w : World) : wpList P ops Q (o :: os) a w → wpList P ops (Exit.then (fun a' w' => wpList P ops Q os a' w') Q) [o] a w := by
  intro h
  unfold wpList at h ⊢
  split at h
  · rename_i hw
    rw [if_pos hw]
    rcases h with h | ⟨h, a0, w0, hl⟩
    · refine .inl ?_
      unfold Oper.wp at *
      generalize (execOp a.eval o).run P w = r at *
      cases r with
      | ok n w' =>
        cases n <;> simp only [Oper.upon] at h ⊢
        case enter f args =>
          refine Calls.mono h fun e w'' he => ?_
          cases e with
          | returned u => exact he
          | panicked c => exact he
          | outgrown => exact he
        case row r args => exact Rows.mono h fun u w'' he => he
        all_goals exact h
      | halt x w' =>
        cases x <;> simp only [Oper.upon] at h ⊢
        case panic u => exact h
    · exact .inr ⟨h, a0, w0, hl⟩
  · rename_i hw
    rw [if_neg hw]
    exact h
theorem wpRest_free (hS : ∀ w, S w) : ∀ (js : List Nat) (os : List Oper) (a : Act) (w : World), js.length = os.length → wpList P ops (NoP Q) os a w → wpRest P md ops (NoP Q) S T js os a w
  | [], [], _, _, _, h => h
  | [], _ :: _, _, _, hl, _ => by simp at hl
  | _ :: _, [], _, _, hl, _ => by simp at hl
  | j :: js, o :: os, a, w, hl, h => by
    unfold wpRest
    split
    · exact h
    · have h1 := wpList_split o os a w h
      have h2 : ∀ a w, wpList P ops (NoP Q) os a w → (S w ∧ wpRest P md ops (NoP Q) S T js os a w) := fun a w h => ⟨hS w, wpRest_free hS js os a w (by simpa using hl) h⟩
      refine wpList_weaken (Q := Exit.then (fun a' w' => wpList P ops (NoP Q) os a' w') (NoP Q)) (fun a w h => h2 a w h) (fun e a w h => ?_) [o] a w h1
      cases e <;> first | rfl | exact (h : False).elim

def pickAll (l : List Oper) (is : List Nat) : List Oper := is.filterMap fun i => l[i]?

def planB (md : Region.Mode) (l : List Oper) (T R : List Nat) : Bool :=
  Region.noSelect l.toArray && lastsB md l.toArray T R && takeB md l.toArray R T (Array.replicate l.length false) && decide (T.length + R.length = l.length) && T.all (fun i => decide (i < l.length)) && R.all (fun i => decide (i < l.length))

theorem pickAll_get {l : List Oper} : ∀ {is : List Nat}, is.all (fun i => decide (i < l.length)) = true → ∀ n : Nat, (pickAll l is)[n]? = (is[n]?).bind (fun j => l.toArray[j]?)
  | [], _, n => by simp [pickAll]
  | i :: is, h, n => by
    simp only [List.all_cons, Bool.and_eq_true, decide_eq_true_eq] at h
    have hi : l[i]? = some l[i] := List.getElem?_eq_getElem h.1
    have : pickAll l (i :: is) = l[i] :: pickAll l is := by simp [pickAll, hi]
    rw [this]
    cases n with
    | zero => simp [hi]
    | succ n => simpa using pickAll_get h.2 n

/-- **The rule.** T: what is taken first; R: the rest, in the one order that it may come. S holds at the draw, and behind each of the rest that does not wait for all of T. -/
theorem wp_plan {id : Nat} {a : Act} {w : World} {l : List Oper} (T R : List Nat) (S : World → Prop) (hm : P.follows .mixedOrders = true) (hB : planB .any l T R = true) (hS : S w.drew)
    (h : wpTake P l.toArray S (fun a' => wpRest P .any l.toArray (NoP Q) S T R (pickAll l R) a' w.drew) (pickAll l T) a) : (Code.region id l.toArray true).wp P Q a w := by
  simp only [planB, Bool.and_eq_true, decide_eq_true_eq] at hB
  obtain ⟨⟨⟨⟨⟨hsel, hL⟩, hT⟩, hn⟩, hTl⟩, hRl⟩ := hB
  refine Code.wp_mono NoP_imp (wp_region_any hm ?_)
  have := wpAny_of_G _ _ _ _ (wpAnyG_take (md := .any) (Q := Q) hsel hS (pickAll_get hRl) hL T (pickAll l T) (Array.replicate l.length false) a (fun _ h => h) (pickAll_get hTl) hT h)
  rw [hn] at this
  simpa using this
end

/-! What was there is as it was. -/
abbrev Ext (w0 w : World) : Prop := Below w0.heap.size w0 w

theorem Ext.cells {w0 w : World} (h : Ext w0 w) : (∀ b o, b < w0.heap.size → w.cell? ⟨b, o, none⟩ = w0.cell? ⟨b, o, none⟩) := fun b o hb => h.cell (p := ⟨b, o, none⟩) hb

section
variable {P : Program} {ops : Array Oper} {S : World → Prop} {K : Act → Prop} {o : Oper} {rest : List Oper} {a : Act}
theorem wpTake_nil (h : K a) : wpTake P ops S K [] a := h
/-- One that is wanted. -/
theorem wpTake_step {v : Value} (hw : Region.wanted o (yielded ops a.tmps) = true) (hy : ∀ w, S w → (execOp a.eval o).run P w = .ok (.value v) w) (h : wpTake P ops S K rest (a.put o.dst v)) : wpTake P ops S K (o :: rest) a :=
  ⟨v, .inl ⟨hw, hy⟩, h⟩
/-- One that is passed over. -/
theorem wpTake_pass (hw : Region.wanted o (yielded ops a.tmps) = false) (h : wpTake P ops S K rest (a.put o.dst undef)) : wpTake P ops S K (o :: rest) a :=
  ⟨undef, .inr ⟨hw, rfl⟩, h⟩
end
end Go.Proofs.Ytldlolpbnfgdeaa
