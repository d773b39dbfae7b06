/- The table's identities: what the one function that is not walked answers. -/
import Derived.Test.YtaihjlemofgokaaGreatKCalB
import Derived.Test.YtaihjlemofgokaaGreatKHeaP
import Derived.Test.YtaihjlemofgokaaGreatProg
import Derived.WalkKit
import Derived.LoopTactic
import Derived.LoopN
import Derived.OwnWalk
import Derived.Laws.AppendOwn
import Derived.Maps.RangeRun
import Derived.Sort.OwnSortedInts
import Derived.Below
import Derived.Scope
import Derived.FnLit
import Derived.Shelf.Sort.Plain
import Derived.Shelf.Slices.In.SortNone
set_option linter.unusedSimpArgs false
set_option linter.unusedVariables false
namespace Go.Proofs.YtaihjlemofgokaaGreat.AA
open Go Go.RowKit
set_option maxRecDepth 100000
def leI (x y : Int) : Bool := decide (x ≤ y)
theorem sort_perm {a b : List Int} (h : a.Perm b) : a.mergeSort leI = b.mergeSort leI := by
  have tr : ∀ x y z : Int, leI x y = true → leI y z = true → leI x z = true := fun x y z h1 h2 => by simp only [leI, decide_eq_true_eq] at *; omega
  have to : ∀ x y : Int, (leI x y || leI y x) = true := fun x y => by simp only [leI, Bool.or_eq_true, decide_eq_true_eq]; omega
  refine List.Perm.eq_of_pairwise (le := fun x y => leI x y = true) (fun x y _ _ h1 h2 => by simp only [leI, decide_eq_true_eq] at *; omega) (List.pairwise_mergeSort tr to a) (List.pairwise_mergeSort tr to b) ?_
  exact (List.mergeSort_perm a leI).trans (h.trans (List.mergeSort_perm b leI).symm)
def insI (x : Int) : List Int → List Int
  | [] => [x]
  | y :: l => bif leI x y then x :: y :: l else y :: insI x l
def isrt : List Int → List Int
  | [] => []
  | x :: l => insI x (isrt l)
theorem insI_perm (x : Int) : ∀ l, (insI x l).Perm (x :: l)
  | [] => List.Perm.refl _
  | y :: l => by
    unfold insI
    cases leI x y
    · exact ((insI_perm x l).cons y).trans (List.Perm.swap x y l)
    · exact List.Perm.refl _
theorem isrt_perm : ∀ l, (isrt l).Perm l
  | [] => List.Perm.refl _
  | x :: l => (insI_perm x _).trans ((isrt_perm l).cons x)
theorem insI_sorted (x : Int) : ∀ l : List Int, l.Pairwise (fun a b => leI a b = true) → (insI x l).Pairwise (fun a b => leI a b = true)
  | [], _ => by simp [insI]
  | y :: l, h => by
    obtain ⟨h1, h2⟩ := List.pairwise_cons.1 h
    unfold insI
    cases hxy : leI x y
    · refine List.pairwise_cons.2 ⟨fun z hz => ?_, insI_sorted x l h2⟩
      rcases List.mem_cons.1 ((insI_perm x l).mem_iff.1 hz) with rfl | hz
      · simp only [leI, decide_eq_false_iff_not, decide_eq_true_eq] at *; omega
      · exact h1 z hz
    · refine List.pairwise_cons.2 ⟨fun z hz => ?_, h⟩
      rcases List.mem_cons.1 hz with rfl | hz
      · exact hxy
      · have := h1 z hz
        simp only [leI, decide_eq_true_eq] at *; omega
theorem isrt_sorted : ∀ l : List Int, (isrt l).Pairwise (fun a b => leI a b = true)
  | [] => List.Pairwise.nil
  | x :: l => insI_sorted x _ (isrt_sorted l)
theorem isrt_eq (l : List Int) : isrt l = l.mergeSort leI := by
  rw [← sort_perm (isrt_perm l), List.mergeSort_of_pairwise (isrt_sorted l)]
def keysI (es : List (AV × AV × Nat)) : List Int := es.map fun e => match e.1 with
  | .int _ k => k
  | _ => 0
def Stp (es : List (AV × AV × Nat)) (c : Nat) : Prop := (∀ e, e ∈ es → ∃ k v n, e = (iv k, v, n) ∧ n < c) ∧ (es.map (·.2.2)).Nodup ∧ es.length ≤ 100000
def stpE (c : Nat) (e : AV × AV × Nat) : Bool := match e.1 with
  | .int .i64 _ => (e.2.2 + 1).ble c
  | _ => false
def noDup : List Nat → Bool
  | [] => true
  | a :: l => !(l.any fun b => a.beq b) && noDup l
def stpB (es : List (AV × AV × Nat)) (c : Nat) : Bool := es.all (stpE c) && noDup (es.map (·.2.2)) && es.length.ble 100000
theorem noDup_iff : ∀ {l : List Nat}, noDup l = true ↔ l.Nodup
  | [] => by simp [noDup]
  | a :: l => by
    simp only [noDup, Bool.and_eq_true, noDup_iff (l := l), List.nodup_cons, Bool.not_eq_true', List.any_eq_false]
    constructor
    · rintro ⟨h1, h2⟩
      exact ⟨fun hm => h1 a hm (Nat.beq_refl a), h2⟩
    · rintro ⟨h1, h2⟩
      exact ⟨fun b hb e => h1 (by rw [Nat.eq_of_beq_eq_true e]; exact hb), h2⟩
theorem stpE_iff {c : Nat} {e : AV × AV × Nat} : stpE c e = true ↔ ∃ k v n, e = (iv k, v, n) ∧ n < c := by
  obtain ⟨k, v, n⟩ := e
  constructor
  · intro h
    unfold stpE at h
    split at h
    · rename_i z hz
      dsimp only at hz
      subst hz
      exact ⟨z, v, n, rfl, Nat.le_of_ble_eq_true h⟩
    · cases h
  · rintro ⟨z, v', n', e, hn⟩
    cases e
    exact Nat.ble_eq_true_of_le hn
theorem stpB_iff {es : List (AV × AV × Nat)} {c : Nat} : stpB es c = true ↔ Stp es c := by
  unfold stpB Stp
  simp only [Bool.and_eq_true, List.all_eq_true, stpE_iff, noDup_iff, and_assoc]
  exact ⟨fun ⟨h1, h2, h3⟩ => ⟨h1, h2, Nat.le_of_ble_eq_true h3⟩, fun ⟨h1, h2, h3⟩ => ⟨h1, h2, Nat.ble_eq_true_of_le h3⟩⟩
def idsRow (ks : List Int) : List AV := (isrt ks).map iv
def idsO (args : List AV) (H : AHeap) : Option (AV × AHeap) := match args with
  | [.ptr (some (b, i))] => (match loadA H b i 1 with
    | some [.map (some r)] => (match H.get r with
      | .map es c => bif stpB es c then (bif es.isEmpty then some (.slice none 1 0 true, H) else some (.slice (some (H.next, 0)) 1 es.length true, H.new (.cells (ofL (idsRow (keysI es)) 0 .nil) es.length false []))) else none
      | _ => none)
    | _ => none)
  | _ => none
def oraN : Rec := fun f args H => bif f.beq 79 then idsO args H else none
def MN : Mach := ⟨fsT, noM, oraN⟩
open Go Go.RowKit Go.Sort
open Go.ChangeMaps (setBlock)
def SortInts : Prop := ∀ (blk off cap : Nat) (zs : List Int) (w : World), Holds (Value.int .i64) w blk off zs.toArray → blk < w.heap.size → zs.length < 4611686018427387904 →
    Calls Tryz.prog 92 #[.slice (some ⟨blk, off, none⟩) zs.length cap] w fun e w' => e = .returned (.tuple #[]) ∧ ∃ n os, w' = grow (putRow (Value.int .i64) (Sort.ahead w n) blk off (zs.mergeSort fun x y => decide (x ≤ y)).toArray) os
def SortNone : Prop := ∀ (p : Option Addr) (cap : Nat) (w : World), Calls Tryz.prog 92 #[.slice p 0 cap] w fun e w' => e = .returned (.tuple #[]) ∧ w' = w
theorem filt_perm : ∀ (L : List MapEntry) (p : MapEntry → Bool) (e : MapEntry), (L.map (·.born)).Nodup → e ∈ L → p e = true → (L.filter p).Perm (e :: L.filter fun x => p x && !(x.born == e.born))
  | [], _, _, _, h, _ => by cases h
  | x :: L, p, e, hn, he, hp => by
    rw [List.map_cons, List.nodup_cons] at hn
    by_cases hx : x = e
    · subst hx
      have : L.filter (fun y => p y && !(y.born == x.born)) = L.filter p := by
        refine List.filter_congr fun y hy => ?_
        have hne : (y.born == x.born) = false := by
          cases h : y.born == x.born
          · rfl
          · exact absurd (List.mem_map.2 ⟨y, hy, beq_iff_eq.1 h⟩) hn.1
        simp [hne]
      simp [List.filter_cons, hp, this]
    · have he' : e ∈ L := by
        rcases List.mem_cons.1 he with h | h
        · exact absurd h.symm hx
        · exact h
      have ih := filt_perm L p e hn.2 he' hp
      have hne : (x.born == e.born) = false := by
        cases h : x.born == e.born
        · rfl
        · exact absurd (List.mem_map.2 ⟨e, he', (beq_iff_eq.1 h).symm⟩) hn.1
      by_cases hpx : p x = true
      · simp only [List.filter_cons, hpx, if_true, hne, Bool.not_false, Bool.and_true]
        exact (List.Perm.cons x ih).trans (List.Perm.swap e x _)
      · simp only [List.filter_cons, hpx, Bool.false_and, if_false, Bool.false_eq_true]
        simpa [hpx] using ih
theorem left_perm {E : Array MapEntry} {seen : Array Nat} {e : MapEntry} (hn : (E.toList.map (·.born)).Nodup) (he : e ∈ (leftOf E seen).toList) : (leftOf E seen).toList.Perm (e :: (leftOf E (seen.push e.born)).toList) := by
  unfold leftOf at he ⊢
  simp only [Array.toList_filter] at he ⊢
  obtain ⟨h1, h2⟩ := List.mem_filter.1 he
  refine (filt_perm E.toList _ e hn h1 h2).trans ?_
  have : (E.toList.filter fun x => (!seen.contains x.born) && !(x.born == e.born)) = E.toList.filter fun x => !(seen.push e.born).contains x.born := by
    refine List.filter_congr fun y _ => ?_
    by_cases hyb : y.born = e.born <;> simp [hyb]
  rw [this]
def Idr (g0 m clock : Nat) (E : Array MapEntry) (ks : List Int) (w : World) (v : Value) (wr : World) : Prop := ∃ (seen : Array Nat) (ss : List Int), wr.heap[m]? = some (.map E clock) ∧ wr.heap[g0]? = some (.mapIter (some m) clock seen clock) ∧
  wr.ownsRow (g0 + 1) 3 1 v ss.length (ss.map (Value.int .i64)) ∧ Below g0 w wr ∧ g0 + 1 ≤ wr.heap.size ∧ (ss.map (Value.int .i64) ++ (leftOf E seen).toList.map (·.key)).Perm (ks.map (Value.int .i64)) ∧ (v = .slice none 0 0 ↔ ss = [])
theorem info3 : (Tryz.prog.info? 3).map (fun i => (i.zero, i.size, i.bytes)) = some (some (.int .i64 0), 1, 8) := by kernel_rfl
def IdsPost (w : World) (ks : List Int) (e : Ending) (w' : World) : Prop := Below w.heap.size w w' ∧ ((ks = [] ∧ e = .returned (.slice none 0 0)) ∨ ∃ gb C e' fz, e = .returned (.slice (some ⟨gb, 0, none⟩) ks.length ks.length) ∧ ks ≠ [] ∧ w.heap.size ≤ gb ∧ w'.heap[gb]? = some (.cells C e' fz) ∧ ks.length ≤ C.size ∧
  ∀ (j : Nat) v, (ks.mergeSort leI)[j]? = some v → C[j]? = some (.int .i64 v))
def Srtd (w : World) (gb : Nat) (l : List Int) (w' : World) : Prop := Below w.heap.size w w' ∧ ∃ C e' fz, w'.heap[gb]? = some (.cells C e' fz) ∧ l.length ≤ C.size ∧ ∀ (j : Nat) v, l[j]? = some v → C[j]? = some (.int .i64 v)
theorem sorted_call (hsort : SortInts) {w wr : World} {gb cap : Nat} {ss : List Int} {cur : Array Value} {e : TypeId} (hbel : Below w.heap.size w wr) (hge : w.heap.size ≤ gb) (hbk : wr.heap[gb]? = some (.cells cur e (0, 0))) (h4 : cur.toList.take (ss.length * 1) = ss.map (Value.int .i64)) (hl : ss.length < 100001) :
    Calls Tryz.prog 92 #[.slice (some ⟨gb, 0, none⟩) ss.length cap] wr fun e w' => e = .returned (.tuple #[]) ∧ Srtd w gb (ss.mergeSort leI) w' := by
  rw [Nat.mul_one] at h4
  have hgl : gb < wr.heap.size := (Array.getElem?_eq_some_iff.1 hbk).1
  have hcs : ss.length ≤ cur.size := by
    have := congrArg List.length h4
    simp at this
    omega
  refine (hsort gb 0 cap ss wr (holds_of_blockI hbk h4) hgl (by omega)).mono ?_
  rintro e' w' ⟨rfl, n, os, rfl⟩
  refine ⟨rfl, hbel.grown (grownBy_sortedI _) hbel.size (fun j hj => by cases hj; exact hge), _, _, _, heap_sortedI _ hbk, ?_, fun j v hj => ?_⟩
  · have hl2 : (ss.mergeSort leI).length = ss.length := (List.mergeSort_perm ss leI).length_eq
    simp [putCells]; omega
  · have hl2 : (ss.mergeSort leI).length = ss.length := (List.mergeSort_perm ss leI).length_eq
    have h5 := take_putCellsI cur (ss.mergeSort leI) (by omega)
    have hjl := (List.getElem?_eq_some_iff.1 hj).1
    have h6 := congrArg (fun l => l[j]?) h5
    simp only [List.getElem?_map, hj, Option.map_some] at h6
    rw [List.getElem?_take_of_lt hjl, Array.getElem?_toList] at h6
    exact h6
theorem cell_new (w : World) (e : TypeId) (v : Value) : (w.alloc (.cells #[v] e (0, 0))).cell? ((⟨w.heap.size, 0, none⟩ : Addr).add 0) = some v := by
  show (w.alloc (.cells #[v] e (0, 0))).cell? ⟨w.heap.size, 0, none⟩ = some v
  simp only [World.cell?, heap_alloc_new]
  rfl
theorem map_int_perm {a b : List Int} (h : (a.map (Value.int .i64)).Perm (b.map (Value.int .i64))) : a.Perm b := by
  have h2 := h.map (fun v => match v with | .int _ n => n | _ => 0)
  have e : ∀ l : List Int, (l.map (Value.int .i64)).map (fun v => match v with | .int _ n => n | _ => 0) = l := fun l => by
    induction l with
    | nil => rfl
    | cons x l ih => simp only [List.map_cons, ih]
  rwa [e, e] at h2
set_option maxRecDepth 100000 in
set_option maxHeartbeats 2000000 in
theorem ids_walk (hsort : SortInts) (hnone : SortNone) {g o m clock : Nat} {E : Array MapEntry} (w : World) (hp : w.cell? ⟨g, o, none⟩ = some (.map (some m))) (hm : w.heap[m]? = some (.map E clock)) (hb : ∀ x ∈ E.toList, x.born < clock) (hn : (E.toList.map (·.born)).Nodup) (ks : List Int) (hk : E.toList.map (·.key) = ks.map (Value.int .i64)) (hl : ks.length ≤ 100000) :
    Calls Tryz.prog 79 #[.pointer (some ⟨g, o, none⟩)] w fun e w' => IdsPost w ks e w' := by
  have hrg := run_range_map (P := Tryz.prog) w 106 3 83 m E clock Tryz.underlying106 hm
  obtain ⟨i0, hi, hz0, hz1, hz2⟩ := info_parts info3
  have hmlt : m < w.heap.size := (Array.getElem?_eq_some_iff.1 hm).1
  go_enter Tryz.func79, Tryz.ntmps79
  go_wp2
  go_loopw [3] (fun v wr => Idr w.heap.size m clock E ks w v wr) (fun _ wr => (leftOf E (wr.iterSeen w.heap.size)).size)
  case atStart =>
    have hm' : (w.alloc (.mapIter (some m) clock #[] clock)).heap[m]? = some (.map E clock) := by rw [heap_alloc_old w _ hmlt, hm]
    refine ⟨#[], [], hm', heap_alloc_new _ _, ⟨rfl, .inl ⟨rfl, rfl⟩⟩, (Below.refl _ _).alloc (Nat.le_refl _) _, by simp, ?_, by simp⟩
    have : (leftOf E #[]).toList = E.toList := by unfold leftOf; simp
    rw [this, hk]
    exact List.Perm.refl _
  case round =>
    obtain ⟨seen, ss, h1, h2, hrow, hbel, hsz, hperm, hnil⟩ := hrel
    have law := run_next_at (P := Tryz.prog) wr 0 w.heap.size m clock clock seen E clock h2 h1 hb (Nat.le_refl _)
    rcases law with ⟨h0, hrun⟩ | ⟨e, he, w2, hal2, hrun⟩
    · have hnx : ∀ ty, (Instr.next (.pointer (some ⟨w.heap.size, 0, none⟩)) false ty).run Tryz.prog wr = _ := fun _ => hrun
      have hleft : (leftOf E seen).toList = [] := by
        have : (leftOf E seen).toList.length = 0 := by simpa using h0
        exact List.length_eq_zero_iff.1 this
      rw [hleft, List.map_nil, List.append_nil] at hperm
      have hpk := map_int_perm hperm
      have hlen : ss.length = ks.length := hpk.length_eq
      rcases hrow.2 with ⟨rfl, hz⟩ | ⟨gb, cap, cur, rfl, hbase, hbk, r1, r2, r3, r4⟩
      · have hs0 : ss = [] := hnil.1 rfl
        have hk0 : ks = [] := List.length_eq_zero_iff.1 (by rw [← hlen, hs0]; rfl)
        have hc := hnone none 0 wr
        clear hrow hnil hperm
        go_wp2_with (first | (go_at_call 92; refine hc.mono ?_; rintro e w' ⟨rfl, rfl⟩) | go_in)
        go_ret
        exact ⟨hbel, .inl ⟨hk0, rfl⟩⟩
      · have hc := sorted_call hsort (cap := cap) hbel (by omega) hbk r4 (by omega)
        have hne : ss ≠ [] := fun h => by have := hnil.2 h; cases this
        clear hrow hnil hperm hlen r3 r4 h0 hleft
        go_wp2_with (first | (go_at_call 92; refine hc.mono ?_; rintro e w' ⟨rfl, hS⟩) | go_in)
        go_ret
        have hlen : ss.length = ks.length := hpk.length_eq
        obtain ⟨hS1, C, e', fz, q1, q2, q3⟩ := hS
        have hl2 : (ss.mergeSort leI).length = ss.length := (List.mergeSort_perm ss leI).length_eq
        refine ⟨hS1, .inr ⟨gb, C, e', fz, ?_, fun h => hne (List.length_eq_zero_iff.1 (by rw [hlen, h]; rfl)), by omega, q1, by omega, by rw [← sort_perm hpk]; exact q3⟩⟩
        rw [← hlen]
        rfl
    · have hkey : ∃ z, e.key = .int .i64 z := by
        have hE : e ∈ E.toList := by
          have := he
          unfold leftOf at this
          simp only [Array.toList_filter] at this
          exact (List.mem_filter.1 this).1
        have : e.key ∈ ks.map (Value.int .i64) := by rw [← hk]; exact List.mem_map_of_mem hE
        obtain ⟨z, -, hz⟩ := List.mem_map.1 this
        exact ⟨z, hz.symm⟩
      obtain ⟨z, hz⟩ := hkey
      rw [hz] at hrun
      have heap2 : w2.heap = wr.heap ∧ w2.os = wr.os ∧ w2.tape = wr.tape ∧ w2.output = wr.output := by rcases hal2 with rfl | rfl <;> exact ⟨rfl, rfl, rfl, rfl⟩
      obtain ⟨hh2, ho2, ht2, hu2⟩ := heap2
      have hb2 : Below w.heap.size w (setBlock w2 w.heap.size (.mapIter (some m) clock (seen.push e.born) clock)) := hbel.trans ⟨ho2, ht2, hu2, by simp [setBlock, hh2], fun k hk => by
        simp only [setBlock, hh2]
        rw [Array.getElem?_setIfInBounds_ne (by omega)]⟩
      have hF : ∀ k, k ≠ w.heap.size → (setBlock w2 w.heap.size (.mapIter (some m) clock (seen.push e.born) clock)).heap[k]? = wr.heap[k]? := fun k hk => by
        simp only [setBlock, hh2]
        rw [Array.getElem?_setIfInBounds_ne (Ne.symm hk)]
      have hI : (setBlock w2 w.heap.size (.mapIter (some m) clock (seen.push e.born) clock)).heap[w.heap.size]? = some (.mapIter (some m) clock (seen.push e.born) clock) := by
        simp only [setBlock, hh2]
        rw [Array.getElem?_setIfInBounds_self_of_lt (by omega)]
      have hS2 : (setBlock w2 w.heap.size (.mapIter (some m) clock (seen.push e.born) clock)).heap.size = wr.heap.size := by simp [setBlock, hh2]
      generalize setBlock w2 w.heap.size (.mapIter (some m) clock (seen.push e.born) clock) = W2 at *
      have hm2 : W2.heap[m]? = some (.map E clock) := by rw [hF m (by omega), h1]
      have hE : e ∈ E.toList := by
        have := he
        unfold leftOf at this
        simp only [Array.toList_filter] at this
        exact (List.mem_filter.1 this).1
      have hen := run_entry_at (P := Tryz.prog) W2 w.heap.size m clock seen E clock e hI hm2 hE hn
      rw [hz] at hen
      have hrow2 : W2.ownsRow (w.heap.size + 1) 3 1 u3 ss.length (ss.map (Value.int .i64)) := by
        refine ⟨hrow.1, ?_⟩
        rcases hrow.2 with h | ⟨gb, cap, cur, r0, r1, r2, r3⟩
        · exact .inl h
        · exact .inr ⟨gb, cap, cur, r0, r1, by rw [hF gb (by omega)]; exact r2, r3⟩
      have hpm := left_perm hn he
      have hcnt : ss.length + 1 ≤ 100000 := by
        have h5 := hperm.length_eq
        have h6 := hpm.length_eq
        simp only [List.length_append, List.length_map, List.length_cons] at h5 h6
        omega
      have hperm2 : ((ss ++ [z]).map (Value.int .i64) ++ (leftOf E (seen.push e.born)).toList.map (·.key)).Perm (ks.map (Value.int .i64)) := by
        refine List.Perm.trans ?_ hperm
        rw [List.map_append, List.append_assoc]
        refine List.Perm.append_left _ ?_
        have := (hpm.map (·.key)).symm
        rw [List.map_cons, hz] at this
        exact this
      have hlt := left_shrinks E seen e he
      have hit : wr.iterSeen w.heap.size = seen := by simp [World.iterSeen, h2]
      have hnx : ∀ ty, (Instr.next (.pointer (some ⟨w.heap.size, 0, none⟩)) false ty).run Tryz.prog wr = _ := fun _ => hrun
      clear hrow hperm hpm hal2 hh2 ho2 ht2 hu2 hrun hbel hnil
      clear hF
      have hbase2 : w.heap.size + 1 ≤ W2.heap.size := by omega
      clear hS2
      go_wp2_with (first
        | (at_builtin; refine wpList_append_own _ rfl _ _ 56 rfl (w.heap.size + 1) 3 i0 (.int .i64 0) 1 8 Tryz.underlying56 hi hz0 hz1 hz2 ?_ (by decide) u3 ss.length (ss.map (Value.int .i64)) ?_ (hrow2.alloc _) ⟨W2.heap.size, 0, none⟩ 1 1 [.int .i64 z] ?_ ?_ ?_ ?_ ?_ ?_ ?_ ?_))
      · rfl
      · rfl
      · rfl
      · rfl
      · intro j u hj
        have hj0 : j = 0 := by
          have := (List.getElem?_eq_some_iff.1 hj).1
          simp at this
          omega
        subst hj0
        simp at hj
        subst hj
        exact cell_new _ _ _
      · intro u hu; simp at hu; subst hu; rfl
      · unfold maxLen; omega
      · omega
      · simp; omega
      · intro v' w3 hown' hg3 hnil3
        go_wp2_with go_in
        have hsz3 := hg3.size
        have hrl : ∀ j, u3.ownBlock = some j → w.heap.size + 1 ≤ j := fun j hj => (hrow2.lt j hj).1
        have ha : ∀ k o', k < W2.heap.size → (W2.alloc o').heap[k]? = W2.heap[k]? := fun k o' hk => heap_alloc_old W2 o' hk
        have hk3 : ∀ k, k < w.heap.size + 1 → w3.heap[k]? = W2.heap[k]? := fun k hk => by
          rw [hg3.block k (by simp; omega) (fun h => by have := hrl k h.symm; omega), ha k _ (by omega)]
        refine ⟨⟨seen.push e.born, ss ++ [z], by rw [hk3 m (by omega)]; exact hm2, by rw [hk3 _ (by omega)]; exact hI, by simpa using hown', ?_, by simp at hsz3; omega, hperm2, ?_⟩, ?_⟩
        · exact (hb2.alloc (by omega) _).grown hg3 (by simp; omega) (fun j hj => by have := hrl j hj; omega)
        · simp only [List.append_eq_nil_iff, List.cons_ne_nil, and_false, iff_false]
          exact hnil3
        · have : w3.iterSeen w.heap.size = seen.push e.born := by
            simp only [World.iterSeen]
            rw [hk3 _ (by omega), hI]
          rw [this, hit]
          exact hlt
open Go.Shelf
def lays189_ren : Go.Shelf.Ren := ⟨fun | 189 => 92 | 125 => 103 | 257 => 102 | 128 => 114 | 129 => 115 | 294 => 105 | 295 => 106 | 296 => 107 | 297 => 108 | 298 => 109 | 299 => 110 | 216 => 111 | 300 => 112 | 301 => 113 | 328 => 116 | 329 => 117 | 330 => 118 | 331 => 119 | 332 => 120 | 215 => 121 | 343 => 122 | n => n, fun | 28 => 56 | 3 => 3 | 46 => 94 | 0 => 0 | 51 => 37 | 53 => 137 | 4 => 4 | 183 => 131 | 182 => 130 | 131 => 39 | 5 => 5 | 9 => 9 | 218 => 138 | 222 => 142 | 228 => 144 | 229 => 145 | n => n, fun | n => n⟩
theorem lays189 : Go.Proofs.Lays.n189 Tryz.prog lays189_ren := {
  mixed := by kernel_rfl
  f125 := Tryz.func103.trans (congrArg some (by kernel_rfl))
  f128 := Tryz.func114.trans (congrArg some (by kernel_rfl))
  f129 := Tryz.func115.trans (congrArg some (by kernel_rfl))
  f189 := Tryz.func92.trans (congrArg some (by kernel_rfl))
  f215 := Tryz.func121.trans (congrArg some (by kernel_rfl))
  f216 := Tryz.func111.trans (congrArg some (by kernel_rfl))
  f257 := Tryz.func102.trans (congrArg some (by kernel_rfl))
  f294 := Tryz.func105.trans (congrArg some (by kernel_rfl))
  f295 := Tryz.func106.trans (congrArg some (by kernel_rfl))
  f296 := Tryz.func107.trans (congrArg some (by kernel_rfl))
  f297 := Tryz.func108.trans (congrArg some (by kernel_rfl))
  f298 := Tryz.func109.trans (congrArg some (by kernel_rfl))
  f299 := Tryz.func110.trans (congrArg some (by kernel_rfl))
  f300 := Tryz.func112.trans (congrArg some (by kernel_rfl))
  f301 := Tryz.func113.trans (congrArg some (by kernel_rfl))
  f328 := Tryz.func116.trans (congrArg some (by kernel_rfl))
  f329 := Tryz.func117.trans (congrArg some (by kernel_rfl))
  f330 := Tryz.func118.trans (congrArg some (by kernel_rfl))
  f331 := Tryz.func119.trans (congrArg some (by kernel_rfl))
  f332 := Tryz.func120.trans (congrArg some (by kernel_rfl))
  f343 := Tryz.func122.trans (congrArg some (by kernel_rfl))
  t0 := Tryz.underlying0
  a0 := Tryz.isAgg0
  z0 := Tryz.sizeOf0
  v0 := Tryz.zeroValue0
  t3 := Tryz.underlying3
  a3 := Tryz.isAgg3
  z3 := Tryz.sizeOf3
  v3 := Tryz.zeroValue3
  t4 := Tryz.underlying4
  a4 := Tryz.isAgg4
  z4 := Tryz.sizeOf4
  v4 := Tryz.zeroValue4
  t5 := Tryz.underlying5
  a5 := Tryz.isAgg5
  z5 := Tryz.sizeOf5
  v5 := Tryz.zeroValue5
  t9 := Tryz.underlying9
  a9 := Tryz.isAgg9
  z9 := Tryz.sizeOf9
  v9 := Tryz.zeroValue9
  t28 := Tryz.underlying56
  a28 := Tryz.isAgg56
  z28 := Tryz.sizeOf56
  v28 := Tryz.zeroValue56
  t46 := Tryz.underlying94
  a46 := Tryz.isAgg94
  z46 := Tryz.sizeOf94
  v46 := Tryz.zeroValue94
  t51 := Tryz.underlying37
  a51 := Tryz.isAgg37
  z51 := Tryz.sizeOf37
  v51 := Tryz.zeroValue37
  t53 := Tryz.underlying137
  a53 := Tryz.isAgg137
  z53 := Tryz.sizeOf137
  v53 := Tryz.zeroValue137
  t131 := Tryz.underlying39
  a131 := Tryz.isAgg39
  z131 := Tryz.sizeOf39
  v131 := Tryz.zeroValue39
  t182 := Tryz.underlying130
  a182 := Tryz.isAgg130
  z182 := Tryz.sizeOf130
  v182 := Tryz.zeroValue130
  t183 := Tryz.underlying131
  a183 := Tryz.isAgg131
  z183 := Tryz.sizeOf131
  v183 := Tryz.zeroValue131
  t218 := Tryz.underlying138
  a218 := Tryz.isAgg138
  z218 := Tryz.sizeOf138
  v218 := Tryz.zeroValue138
  t222 := Tryz.underlying142
  a222 := Tryz.isAgg142
  z222 := Tryz.sizeOf142
  v222 := Tryz.zeroValue142
  t228 := Tryz.underlying144
  a228 := Tryz.isAgg144
  z228 := Tryz.sizeOf144
  v228 := Tryz.zeroValue144
  t229 := Tryz.underlying145
  a229 := Tryz.isAgg145
  z229 := Tryz.sizeOf145
  v229 := Tryz.zeroValue145 }
open Go.Sort Go.RowKit in
theorem slices_Sort_int (blk off cap : Nat) (zs : List Int) (w : World) (hH : Holds (Value.int .i64) w blk off zs.toArray) (hblk : blk < w.heap.size) (hsz : zs.length < 4611686018427387904) :
    Calls Tryz.prog 92 #[.slice (some ⟨blk, off, none⟩) zs.length cap] w fun e w' =>
      e = .returned (.tuple #[]) ∧ ∃ n os, w' = grow (putRow (Value.int .i64) (Sort.ahead w n) blk off (zs.mergeSort fun x y => decide (x ≤ y)).toArray) os := Any.slices_Sort_int lays189 blk off cap zs w hH hblk hsz
open Go.RowKit Go.Sort in
theorem slices_Sort_int_none (p : Option Addr) (cap : Nat) (w : World) :
    Calls Tryz.prog 92 #[.slice p 0 cap] w fun e w' => e = .returned (.tuple #[]) ∧ w' = w := Any.slices_Sort_int_none lays189 p cap w
section
variable {Z : Nat → Prop} {ρ : Rho} {H : AHeap} {w w' : World}
theorem RE_keys {c : Nat} : ∀ {es : List (AV × AV × Nat)} {l : List MapEntry}, RE ρ es l → (∀ e, e ∈ es → ∃ k v n, e = (iv k, v, n) ∧ n < c) → l.map (·.key) = (keysI es).map (Value.int .i64) ∧ l.map (·.born) = es.map (·.2.2) ∧ ∀ x, x ∈ l → x.born < c
  | [], l, h, _ => by
    simp only [RE] at h
    subst h
    exact ⟨rfl, rfl, by simp⟩
  | (k, v, b) :: es, l, h, hs => by
    simp only [RE] at h
    obtain ⟨e, l', rfl, h1, h2, h3, h4⟩ := h
    obtain ⟨k', v', n', he, hlt⟩ := hs _ (List.mem_cons_self ..)
    cases he
    simp only [iv, R] at h1
    obtain ⟨q1, q2, q3⟩ := RE_keys h4 fun x hx => hs x (List.mem_cons_of_mem _ hx)
    refine ⟨?_, ?_, fun x hx => ?_⟩
    · simp only [List.map_cons, keysI, q1, h1]; rfl
    · simp only [List.map_cons, q2, h3]
    · rcases List.mem_cons.1 hx with rfl | hx
      · omega
      · exact q3 x hx
theorem ids_ok {args : List AV} {v : AV} {H' : AHeap} (he : idsO args H = some (v, H')) {Z : Nat → Prop} {ρ : Rho} {w : World} {vs : Array Value} (h : HS Z ρ H w) (hr : RL ρ args vs.toList) :
    Calls Tryz.prog 79 vs w fun e w' => ∃ ρ' u, e = .returned u ∧ Ext ρ ρ' ∧ HS Z ρ' H' w' ∧ Kp Z w w' ∧ R ρ' v u := by
  unfold idsO at he
  split at he
  · rename_i b i
    split at he
    · rename_i r hld
      split at he
      · rename_i es c hm
        rw [Bool.cond_eq_ite] at he
        split at he
        · rename_i hst
          obtain ⟨s1, s2, s3⟩ := stpB_iff.1 hst
          -- the argument
          simp only [RL, R] at hr
          obtain ⟨u, us, hvs, ⟨g, o, N, hρ, rfl⟩, rfl⟩ := hr
          obtain rfl : vs = #[.pointer (some ⟨g, o + i, none⟩)] := by cases vs; simp_all
          -- its cell
          obtain ⟨ws, hwl, hwc, hwr, -⟩ := h.load hld hρ
          simp only [RL, R] at hwr
          obtain ⟨u, us, rfl, ⟨m, om, Nm, hρm, rfl⟩, rfl⟩ := hwr
          have hp := hwc 0 _ rfl
          rw [Nat.add_zero] at hp
          obtain ⟨m', om', Nm', hρm', -, E, hE, hRE⟩ := h.maps r es c hm
          rw [hρm] at hρm'
          cases hρm'
          obtain ⟨q1, q2, q3⟩ := RE_keys hRE s1
          have hkl : (keysI es).length = es.length := by simp [keysI]
          refine (ids_walk (fun blk off cap zs w hH hb hz => slices_Sort_int blk off cap zs w hH hb hz) (fun p cap w => slices_Sort_int_none p cap w) w hp hE q3 (by rw [q2]; exact s2) (keysI es) q1 (by omega)).mono ?_
          rintro e w' ⟨hbel, hres⟩
          have k := Kp.of_below hbel
          have kz : Kp Z w w' := k.sub h.zb
          rw [Bool.cond_eq_ite] at he
          split at he
          · rename_i hnil
            have hnil := List.isEmpty_iff.1 hnil
            subst hnil
            simp only [Option.some.injEq, Prod.mk.injEq] at he
            obtain ⟨rfl, rfl⟩ := he
            rcases hres with ⟨-, rfl⟩ | ⟨gb, C, e', fz, rfl, hne, -⟩
            · exact ⟨ρ, _, rfl, Ext.refl _, h.keep k, kz, by simp [R]⟩
            · exact absurd rfl hne
          · rename_i hnil
            have hnil : ¬ es = [] := fun e => hnil (List.isEmpty_iff.2 e)
            simp only [Option.some.injEq, Prod.mk.injEq] at he
            obtain ⟨rfl, rfl⟩ := he
            rcases hres with ⟨h0, rfl⟩ | ⟨gb, C, e', fz, rfl, hne, hge, hg, hC, hcs⟩
            · exact absurd (List.map_eq_nil_iff.1 h0) hnil
            · have hsl : ((keysI es).mergeSort leI).length = es.length := by rw [(List.mergeSort_perm _ _).length_eq, hkl]
              have hf := add_fresh h k hge hg (cs := idsRow (keysI es)) (n := es.length) (by simp [idsRow, isrt_eq, hsl]) (by omega) fun j v hj => by
                unfold idsRow at hj
                rw [isrt_eq] at hj
                rw [List.getElem?_map] at hj
                cases hx : ((keysI es).mergeSort leI)[j]? with
                | none => rw [hx] at hj; cases hj
                | some x =>
                  rw [hx] at hj
                  obtain rfl := Option.some.inj hj
                  exact ⟨.i64, x, rfl, hcs j x hx⟩
              refine ⟨_, _, rfl, h.ext_bump _, hf, kz, ?_⟩
              simp only [R]
              exact ⟨gb, 0, C.size, ⟨gb, 0, none⟩, es.length, by simp [bump], by rw [hkl], Nat.le_refl _, fun _ => rfl, by omega, fun _ => rfl⟩
        · cases he
      · cases he
    · cases he
  · cases he
end
end Go.Proofs.YtaihjlemofgokaaGreat.AA
