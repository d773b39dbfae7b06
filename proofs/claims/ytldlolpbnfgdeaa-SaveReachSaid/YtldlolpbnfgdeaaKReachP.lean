/- Plain law of 'reach': it is closed, and more roots go on from it. -/
import Derived.Test.YtldlolpbnfgdeaaKSaveP
namespace Go.Proofs.Ytldlolpbnfgdeaa

theorem foldl_pre (f : List Int → Nat → List Int) (hf : ∀ acc x, ∃ t, f acc x = acc ++ t) : ∀ (l : List Nat) (acc : List Int), ∃ t, l.foldl f acc = acc ++ t
  | [], acc => ⟨[], by simp⟩
  | x :: l, acc => by
    obtain ⟨t, ht⟩ := hf acc x
    obtain ⟨t', ht'⟩ := foldl_pre f hf l (f acc x)
    exact ⟨t ++ t', by rw [List.foldl_cons, ht', ht, List.append_assoc]⟩
theorem dfs_pre (L : List SObj) : ∀ (n x : Nat) (out : List Int), ∃ t, dfs L n x out = out ++ t
  | 0, _, out => ⟨[], by simp [dfs]⟩
  | n + 1, x, out => by
    rw [dfs_obj]
    cases objP L x with
    | none => exact ⟨[], by simp⟩
    | some a =>
      simp only
      split
      · exact ⟨[], by simp⟩
      · obtain ⟨t, ht⟩ := foldl_pre (fun acc f => dfs L n f acc) (fun acc y => dfs_pre L n y acc) (kids L a) (out ++ [a])
        exact ⟨a :: t, by rw [ht]; simp⟩
theorem reach_pre (L : List SObj) (R S : List Nat) : ∃ t, reachP L (R ++ S) = reachP L R ++ t := by
  unfold reachP
  rw [List.foldl_append]
  exact foldl_pre (fun acc f => dfs L (L.length + 1) f acc) (fun acc y => dfs_pre L _ y acc) S _
theorem zip_of_mem {α β : Type} : ∀ (l : List α) (m : List β) (a : α), a ∈ l → l.length = m.length → ∃ b, (a, b) ∈ l.zip m
  | [], _, _, h, _ => by simp at h
  | _ :: _, [], _, _, h => by simp at h
  | x :: l, y :: m, a, h, hl => by
    rcases List.mem_cons.1 h with rfl | h
    · exact ⟨y, by simp⟩
    · obtain ⟨b, hb⟩ := zip_of_mem l m a h (by simpa using hl)
      exact ⟨b, by simp [hb]⟩
theorem reach_closed (L : List SObj) (R : List Nat) (id : Int) (hid : id ∈ reachP L R) (f : Nat) (hf : f ∈ kids L id) (a : Int) (ha : objP L f = some a) : a ∈ reachP L R := by
  have hs := same_self L R
  unfold sameAllP at hs
  simp only [Bool.and_eq_true, decide_eq_true_eq] at hs
  obtain ⟨M, hM⟩ := Option.isSome_iff_exists.1 hs.2
  obtain ⟨-, -, -, h3, h4, -⟩ := roots_went R R [] M rfl wf_nil hM
  have hX : reachP L R = M.map (·.1) := h4
  rw [hX] at hid ⊢
  obtain ⟨p, hp, rfl⟩ := List.mem_map.1 hid
  rcases h3 p hp with h | ⟨hsh, hk⟩
  · cases h
  · have hlen : (kids L p.1).length = (kids L p.2).length := by
      unfold shape at hsh
      unfold kids
      cases h1 : getO L p.1 <;> cases h2 : getO L p.2 <;> rw [h1, h2] at hsh <;> simp at hsh ⊢
      exact hsh.2
    obtain ⟨g, hg⟩ := zip_of_mem _ _ f hf hlen
    have := hk _ hg
    unfold LedM at this
    simp only [ha] at this
    cases hb : objP L g with
    | none => rw [hb] at this; exact this.elim
    | some b => rw [hb] at this; exact List.mem_map.2 ⟨_, this, rfl⟩
end Go.Proofs.Ytldlolpbnfgdeaa
