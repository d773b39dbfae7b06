/- Regions that draw: what only reads first, then the rest in every order that it may come in. -/
import Derived.Test.YtldlolpbnfgdeaaKReg
namespace Go.Proofs.Ytldlolpbnfgdeaa
open Go.RowKit
section
variable {P : Program} {ops : Array Oper} {Q : Exit → Act → World → Prop} {md : Region.Mode} {S : World → Prop} {T : List Nat}

def mark (is : List Nat) (l : Array Bool) : Array Bool := is.foldl (fun l i => l.setIfInBounds i true) l
def takeT (md : Region.Mode) (ops : Array Oper) : List Nat → Array Bool → Bool
  | [], _ => true
  | i :: is, listed => (Region.ready md ops listed).contains i && Region.free md ops listed i && takeT md ops is (listed.setIfInBounds i true)
theorem wpAnyG_takeT (hsel : Region.noSelect ops = true) {w : World} (hS : S w) {n : Nat} :
    ∀ (is : List Nat) (ts : List Oper) (listed : Array Bool) (a : Act), (∀ i ∈ is, i ∈ T) → (∀ n : Nat, ts[n]? = (is[n]?).bind (fun j => ops[j]?)) → takeT md ops is listed = true →
      wpTake P ops S (fun a' => wpAnyG P md ops (NoP Q) S T n (mark is listed) a' w) ts a → wpAnyG P md ops (NoP Q) S T (is.length + n) listed a w
  | [], ts, listed, a, _, ht, hB, h => by
    have : ts = [] := by cases ts with
      | nil => rfl
      | cons o os => have := ht 0; simp at this
    subst this
    simp only [List.length_nil, Nat.zero_add]
    exact h
  | i :: is, [], listed, a, hT, ht, hB, h => by
    exfalso
    simp only [takeT, Bool.and_eq_true] at hB
    have hm : i ∈ Region.ready md ops listed := by simpa using hB.1.1
    obtain ⟨_, oj, hoj, _⟩ := mem_ready.1 hm
    have := ht 0
    simp at this
    rw [Array.getElem?_eq_none this] at hoj; cases hoj
  | i :: is, o :: ts, listed, a, hT, ht, hB, h => by
    simp only [takeT, Bool.and_eq_true] at hB
    have hi : ops[i]? = some o := by have := ht 0; simpa using this.symm
    obtain ⟨v, hy, h⟩ := h
    rw [show (i :: is).length + n = (is.length + n) + 1 by simp; omega]
    refine wpAnyG_first (hT i (by simp)) hi (Region.noSelect_spec hsel) (fun c a w h => h) _ listed a w (Region.free_spec hi hB.1.2) (by simpa using hB.1.1) hy hS ?_
    exact wpAnyG_takeT hsel hS is ts _ _ (fun k hk => hT k (by simp [hk])) (fun n => by have := ht (n + 1); simpa using this) hB.2 h
def treeB (md : Region.Mode) (l : List Oper) (T : List Nat) (n : Nat) : Bool :=
  Region.noSelect l.toArray && takeT md l.toArray T (Array.replicate l.length false) && decide (T.length + n = l.length) && T.all (fun i => decide (i < l.length))
/-- **The rule.** -/
theorem wp_tree {id : Nat} {a : Act} {w : World} {l : List Oper} (T : List Nat) (n : Nat) (S : World → Prop) (hm : P.follows .mixedOrders = true) (hB : treeB .any l T n = true) (hS : S w.drew)
    (h : wpTake P l.toArray S (fun a' => wpAnyG P .any l.toArray (NoP Q) S T n (mark T (Array.replicate l.length false)) a' w.drew) (pickAll l T) a) : (Code.region id l.toArray true).wp P Q a w := by
  simp only [treeB, Bool.and_eq_true, decide_eq_true_eq] at hB
  obtain ⟨⟨⟨hsel, hT⟩, hn⟩, hTl⟩ := hB
  refine Code.wp_mono NoP_imp (wp_region_any hm ?_)
  have := wpAny_of_G _ _ _ _ (wpAnyG_takeT (md := .any) (Q := Q) hsel hS T (pickAll l T) (Array.replicate l.length false) a (fun _ h => h) (pickAll_get hTl) hT h)
  rw [hn] at this
  simpa using this
theorem wpAnyG_end {listed : Array Bool} {a : Act} {w : World} (hr : Region.ready md ops listed = []) (h : Q .normal a w) : wpAnyG P md ops (NoP Q) S T 0 listed a w := ⟨hr, h⟩
theorem wpAnyG_at {i : Nat} {o : Oper} {n : Nat} {listed : Array Bool} {a : Act} {w : World} (ho : ops[i]? = some o)
    (h : ∀ K : Act → World → Prop, (∀ a' w', S w' → wpAnyG P md ops (NoP Q) S T n (listed.setIfInBounds i true) a' w' → K a' w') → wpList P ops (Exit.then K (fun _ _ _ => False)) [o] a w) :
    wpOp P ops (NoP Q) i (fun a' w' => (lastB md ops T i = false → S w') ∧ wpAnyG P md ops (NoP Q) S T n (listed.setIfInBounds i true) a' w') a w := by
  have h1 := h (fun a' w' => (lastB md ops T i = false → S w') ∧ wpAnyG P md ops (NoP Q) S T n (listed.setIfInBounds i true) a' w') (fun a' w' h1 h2 => ⟨fun _ => h1, h2⟩)
  refine wpOp_of_single (Q := Q) ho ?_
  refine wpList_weaken (fun a w h => h) (fun e a w h => ?_) [o] a w h1
  cases e <;> first | rfl | exact (h : False).elim
theorem wpAnyG_one (i : Nat) {o : Oper} {n : Nat} {listed : Array Bool} {a : Act} {w : World} (hr : Region.ready md ops listed = [i]) (ho : ops[i]? = some o)
    (h : ∀ K : Act → World → Prop, (∀ a' w', S w' → wpAnyG P md ops (NoP Q) S T n (listed.setIfInBounds i true) a' w' → K a' w') → wpList P ops (Exit.then K (fun _ _ _ => False)) [o] a w) : wpAnyG P md ops (NoP Q) S T (n + 1) listed a w := by
  refine ⟨fun h1 => (by rw [hr] at h1; cases h1), fun k hk => ?_⟩
  rw [hr] at hk
  have : k = i := by simpa using hk
  subst this
  exact wpAnyG_at ho h
theorem wpAnyG_two (i j : Nat) {o o' : Oper} {n : Nat} {listed : Array Bool} {a : Act} {w : World} (hr : Region.ready md ops listed = [i, j]) (ho : ops[i]? = some o) (ho' : ops[j]? = some o')
    (h : ∀ K : Act → World → Prop, (∀ a' w', S w' → wpAnyG P md ops (NoP Q) S T n (listed.setIfInBounds i true) a' w' → K a' w') → wpList P ops (Exit.then K (fun _ _ _ => False)) [o] a w)
    (h' : ∀ K : Act → World → Prop, (∀ a' w', S w' → wpAnyG P md ops (NoP Q) S T n (listed.setIfInBounds j true) a' w' → K a' w') → wpList P ops (Exit.then K (fun _ _ _ => False)) [o'] a w) : wpAnyG P md ops (NoP Q) S T (n + 1) listed a w := by
  refine ⟨fun h1 => (by rw [hr] at h1; cases h1), fun k hk => ?_⟩
  rw [hr] at hk
  simp only [List.mem_cons, List.not_mem_nil, or_false] at hk
  rcases hk with rfl | rfl
  · exact wpAnyG_at ho h
  · exact wpAnyG_at ho' h'
end
end Go.Proofs.Ytldlolpbnfgdeaa
