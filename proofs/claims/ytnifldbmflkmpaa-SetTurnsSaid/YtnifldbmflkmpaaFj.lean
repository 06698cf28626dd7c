/-
  The functions of the set laws, as the evaluator runs them.
-/
import Derived.Test.YtnifldbmflkmpaaFi
namespace Go.Proofs.Ytnifldbmflkmpaa
open Go Ev
set_option linter.unusedVariables false
set_option linter.unusedSimpArgs false
theorem Sorted.cons {x : S} {l : List S} : Sorted (x :: l) ↔ (∀ y ∈ l, Op.bytesLess x y = true) ∧ Sorted l := List.pairwise_cons
theorem sorted_ext : ∀ {a b : List S}, Sorted a → Sorted b → (∀ x, x ∈ a ↔ x ∈ b) → a = b
  | [], [], _, _, _ => rfl
  | [], y :: ys, _, _, h => by have := (h y).2 (by simp); simp at this
  | x :: xs, [], _, _, h => by have := (h x).1 (by simp); simp at this
  | x :: xs, y :: ys, ha, hb, h => by
    obtain ⟨ha1, ha2⟩ := Sorted.cons.1 ha
    obtain ⟨hb1, hb2⟩ := Sorted.cons.1 hb
    have hxy : x = y := by
      rcases List.mem_cons.1 ((h x).1 (by simp)) with e | e
      · exact e
      · rcases List.mem_cons.1 ((h y).2 (by simp)) with e' | e'
        · exact e'.symm
        · have h1 := hb1 x e
          have h2 := ha1 y e'
          rw [lt_asymm h1] at h2
          cases h2
    subst hxy
    congr 1
    refine sorted_ext ha2 hb2 fun z => ?_
    constructor
    · intro hz
      rcases List.mem_cons.1 ((h z).1 (List.mem_cons_of_mem _ hz)) with e | e
      · subst e; have := ha1 z hz; rw [lt_irrefl] at this; cases this
      · exact e
    · intro hz
      rcases List.mem_cons.1 ((h z).2 (List.mem_cons_of_mem _ hz)) with e | e
      · subst e; have := hb1 z hz; rw [lt_irrefl] at this; cases this
      · exact e
theorem Sorted.head_notin {x : S} {l : List S} (h : Sorted (x :: l)) : x ∉ l := fun hx => by
  have := (Sorted.cons.1 h).1 x hx
  rw [lt_irrefl] at this
  cases this
theorem mem_keepIf {b : Bool} {x y : S} : y ∈ keepIf b x ↔ b = true ∧ y = x := by unfold keepIf; split <;> simp_all
/-- What a merge of sorted lists holds. -/
theorem mem_mergeS (k : Bool → Bool → Bool) : ∀ (a b : List S), Sorted a → Sorted b → ∀ z, z ∈ mergeS k a b ↔ (k true false = true ∧ z ∈ a ∧ z ∉ b) ∨ (k false true = true ∧ z ∉ a ∧ z ∈ b) ∨ (k true true = true ∧ z ∈ a ∧ z ∈ b) := by
  intro a b
  induction a, b using mergeS.induct with
  | case1 => intro _ _ z; simp [mergeS]
  | case2 a xs ih =>
    intro ha hb z
    simp only [mergeS, List.mem_append, mem_keepIf, ih (Sorted.cons.1 ha).2 hb z, List.mem_cons]
    simp
    constructor
    · rintro (⟨h, e⟩ | ⟨h, e⟩)
      · exact ⟨h, .inl e⟩
      · exact ⟨h, .inr e⟩
    · rintro ⟨h, e | e⟩
      · exact .inl ⟨h, e⟩
      · exact .inr ⟨h, e⟩
  | case3 b ys ih =>
    intro ha hb z
    simp only [mergeS, List.mem_append, mem_keepIf, ih ha (Sorted.cons.1 hb).2 z, List.mem_cons]
    simp
    constructor
    · rintro (⟨h, e⟩ | ⟨h, e⟩)
      · exact ⟨h, .inl e⟩
      · exact ⟨h, .inr e⟩
    · rintro ⟨h, e | e⟩
      · exact .inl ⟨h, e⟩
      · exact .inr ⟨h, e⟩
  | case4 a xs b ys h ih =>
    intro ha hb z
    have hab : a ∉ b :: ys := by
      intro hm
      rcases List.mem_cons.1 hm with e | e
      · subst e; rw [lt, lt_irrefl] at h; cases h
      · have := lt_trans h ((Sorted.cons.1 hb).1 a e); rw [lt_irrefl] at this; cases this
    simp only [mergeS, if_pos h, List.mem_append, mem_keepIf, ih (Sorted.cons.1 ha).2 hb z]
    by_cases hz : z = a
    · subst hz
      have := ha.head_notin
      simp only [this, hab, not_true, not_false_eq_true, and_true, and_false, false_or, or_false, List.mem_cons, true_or]
    · simp only [hz, and_false, false_or, List.mem_cons (a := z) (b := a)]
  | case5 a xs b ys h h' ih =>
    intro ha hb z
    have hab : b ∉ a :: xs := by
      intro hm
      rcases List.mem_cons.1 hm with e | e
      · subst e; rw [lt, lt_irrefl] at h'; cases h'
      · have := lt_trans h' ((Sorted.cons.1 ha).1 b e); rw [lt_irrefl] at this; cases this
    simp only [mergeS, if_neg h, if_pos h', List.mem_append, mem_keepIf, ih ha (Sorted.cons.1 hb).2 z]
    by_cases hz : z = b
    · subst hz
      have := hb.head_notin
      simp only [this, hab, not_true, not_false_eq_true, and_true, and_false, false_or, or_false, List.mem_cons, true_or, false_and, true_and]
    · simp only [hz, and_false, false_or, List.mem_cons (a := z) (b := b)]
  | case6 a xs b ys h h' ih =>
    intro ha hb z
    have hab : a = b := lt_tri (by simpa using h) (by simpa using h')
    subst hab
    simp only [mergeS, if_neg h, if_neg h', List.mem_append, mem_keepIf, ih (Sorted.cons.1 ha).2 (Sorted.cons.1 hb).2 z]
    by_cases hz : z = a
    · subst hz
      have h1 := ha.head_notin
      have h2 := hb.head_notin
      simp [h1, h2]
    · simp only [hz, and_false, false_or, List.mem_cons (a := z) (b := a)]
theorem sorted_append {a : S} {l : List S} {b : Bool} (hl : Sorted l) (h : ∀ y ∈ l, Op.bytesLess a y = true) : Sorted (keepIf b a ++ l) := by
  unfold keepIf
  split
  · exact Sorted.cons.2 ⟨h, hl⟩
  · exact hl
theorem mem_of_mergeS (k : Bool → Bool → Bool) {a b : List S} (ha : Sorted a) (hb : Sorted b) {z : S} (h : z ∈ mergeS k a b) : z ∈ a ∨ z ∈ b := by
  rcases (mem_mergeS k a b ha hb z).1 h with h | h | h
  · exact .inl h.2.1
  · exact .inr h.2.2
  · exact .inl h.2.1
theorem sorted_mergeS (k : Bool → Bool → Bool) : ∀ (a b : List S), Sorted a → Sorted b → Sorted (mergeS k a b) := by
  intro a b
  induction a, b using mergeS.induct with
  | case1 => intro _ _; simp [mergeS, Sorted]
  | case2 a xs ih =>
    intro ha hb
    obtain ⟨h1, h2⟩ := Sorted.cons.1 ha
    simp only [mergeS]
    refine sorted_append (ih h2 hb) fun y hy => ?_
    rcases mem_of_mergeS k h2 hb hy with e | e
    · exact h1 y e
    · simp at e
  | case3 b ys ih =>
    intro ha hb
    obtain ⟨h1, h2⟩ := Sorted.cons.1 hb
    simp only [mergeS]
    refine sorted_append (ih ha h2) fun y hy => ?_
    rcases mem_of_mergeS k ha h2 hy with e | e
    · simp at e
    · exact h1 y e
  | case4 a xs b ys h ih =>
    intro ha hb
    obtain ⟨h1, h2⟩ := Sorted.cons.1 ha
    simp only [mergeS, if_pos h]
    refine sorted_append (ih h2 hb) fun y hy => ?_
    rcases mem_of_mergeS k h2 hb hy with e | e
    · exact h1 y e
    · rcases List.mem_cons.1 e with e | e
      · exact e ▸ h
      · exact lt_trans h ((Sorted.cons.1 hb).1 y e)
  | case5 a xs b ys h h' ih =>
    intro ha hb
    obtain ⟨h1, h2⟩ := Sorted.cons.1 hb
    simp only [mergeS, if_neg h, if_pos h']
    refine sorted_append (ih ha h2) fun y hy => ?_
    rcases mem_of_mergeS k ha h2 hy with e | e
    · rcases List.mem_cons.1 e with e | e
      · exact e ▸ h'
      · exact lt_trans h' ((Sorted.cons.1 ha).1 y e)
    · exact h1 y e
  | case6 a xs b ys h h' ih =>
    intro ha hb
    have hab : a = b := lt_tri (by simpa using h) (by simpa using h')
    subst hab
    simp only [mergeS, if_neg h, if_neg h']
    refine sorted_append (ih (Sorted.cons.1 ha).2 (Sorted.cons.1 hb).2) fun y hy => ?_
    rcases mem_of_mergeS k (Sorted.cons.1 ha).2 (Sorted.cons.1 hb).2 hy with e | e
    · exact (Sorted.cons.1 ha).1 y e
    · exact (Sorted.cons.1 hb).1 y e
theorem hasS_iff {s : List S} {x : S} : hasS s x = true ↔ x ∈ s := by simp [hasS]
theorem mem_takeWhile {α : Type} (p : α → Bool) : ∀ (l : List α) (x : α), x ∈ l.takeWhile p → p x = true
  | [], _, h => by simp at h
  | a :: l, x, h => by
    simp only [List.takeWhile_cons] at h
    split at h
    · rcases List.mem_cons.1 h with e | e
      · exact e ▸ (by assumption)
      · exact mem_takeWhile p l x e
    · simp at h
theorem sorted_putS {s : List S} (hs : Sorted s) (x : S) : Sorted (putS s x) := by
  unfold putS
  split
  · exact hs
  · rename_i hx
    have hx' : x ∉ s := fun h => hx (hasS_iff.2 h)
    have hsplit := List.takeWhile_append_dropWhile (p := (lt · x)) (l := s)
    have hs' := hs
    rw [← hsplit] at hs'
    unfold Sorted at hs' ⊢
    rw [List.pairwise_append] at hs' ⊢
    obtain ⟨p1, p2, p3⟩ := hs'
    have hd : ∀ y ∈ s.dropWhile (lt · x), Op.bytesLess x y = true := by
      intro y hy
      cases hq : s.dropWhile (lt · x) with
      | nil => rw [hq] at hy; simp at hy
      | cons d l =>
        have hdx : lt d x = false := by
          have := List.head_dropWhile_not (p := (lt · x)) (l := s) (by rw [hq]; simp)
          simpa [hq] using this
        have hne : d ≠ x := fun e => hx' (by rw [← hsplit, hq]; simp [e])
        have hxd : Op.bytesLess x d = true := by
          cases hb : Op.bytesLess x d with
          | true => rfl
          | false => exact absurd (lt_tri hdx hb) hne
        rw [hq] at hy p2
        rcases List.mem_cons.1 hy with e | e
        · exact e ▸ hxd
        · exact lt_trans hxd ((List.pairwise_cons.1 p2).1 y e)
    refine ⟨p1, List.pairwise_cons.2 ⟨hd, p2⟩, fun a ha b hb => ?_⟩
    rcases List.mem_cons.1 hb with e | e
    · rw [e]; exact mem_takeWhile (lt · x) s a ha
    · exact p3 a ha b e
theorem sorted_addS {s : List S} (hs : Sorted s) (x : S) : Sorted (addS s x) := by unfold addS; split; exact sorted_putS hs x; exact hs
theorem sorted_fold {f : List S → S → List S} (hf : ∀ s x, Sorted s → Sorted (f s x)) : ∀ (l : List S) (s : List S), Sorted s → Sorted (l.foldl f s)
  | [], _, h => h
  | x :: l, s, h => sorted_fold hf l (f s x) (hf s x h)
theorem sorted_nil : Sorted [] := List.Pairwise.nil
theorem sorted_madeS (xs : List S) (n : Nat) : Sorted (madeS xs n) := sorted_fold (fun s x h => sorted_addS h x) _ [] sorted_nil
theorem sorted_foldM (k : Bool → Bool → Bool) : ∀ (ll : List (List S)) (s : List S), Sorted s → (∀ l ∈ ll, Sorted l) → Sorted (foldM k s ll)
  | [], _, h, _ => h
  | l :: ll, s, h, hl => sorted_foldM k ll (mergeS k s l) (sorted_mergeS k s l h (hl l (by simp))) (fun x hx => hl x (List.mem_cons_of_mem _ hx))
theorem mem_orB : ∀ (ll : List (List S)) (s : List S), Sorted s → (∀ l ∈ ll, Sorted l) → ∀ z, z ∈ foldM orB s ll ↔ z ∈ s ∨ ∃ l ∈ ll, z ∈ l
  | [], s, _, _, z => by simp [foldM]
  | l :: ll, s, h, hl, z => by
    have h1 := hl l (by simp)
    have := mem_orB ll (mergeS orB s l) (sorted_mergeS _ _ _ h h1) (fun x hx => hl x (List.mem_cons_of_mem _ hx)) z
    simp only [foldM, List.foldl_cons] at this ⊢
    rw [this, mem_mergeS orB s l h h1 z]
    simp only [orB, true_and, List.mem_cons, exists_eq_or_imp]
    by_cases hz : z ∈ s <;> by_cases hz' : z ∈ l <;> simp [hz, hz']
theorem mem_andB : ∀ (ll : List (List S)) (s : List S), Sorted s → (∀ l ∈ ll, Sorted l) → ∀ z, z ∈ foldM andB s ll ↔ z ∈ s ∧ ∀ l ∈ ll, z ∈ l
  | [], s, _, _, z => by simp [foldM]
  | l :: ll, s, h, hl, z => by
    have h1 := hl l (by simp)
    have := mem_andB ll (mergeS andB s l) (sorted_mergeS _ _ _ h h1) (fun x hx => hl x (List.mem_cons_of_mem _ hx)) z
    simp only [foldM, List.foldl_cons] at this ⊢
    rw [this, mem_mergeS andB s l h h1 z]
    simp only [andB, List.mem_cons, forall_eq_or_imp]
    by_cases hz : z ∈ s <;> by_cases hz' : z ∈ l <;> simp [hz, hz']
theorem mem_notB : ∀ (ll : List (List S)) (s : List S), Sorted s → (∀ l ∈ ll, Sorted l) → ∀ z, z ∈ foldM notB s ll ↔ z ∈ s ∧ ∀ l ∈ ll, z ∉ l
  | [], s, _, _, z => by simp [foldM]
  | l :: ll, s, h, hl, z => by
    have h1 := hl l (by simp)
    have := mem_notB ll (mergeS notB s l) (sorted_mergeS _ _ _ h h1) (fun x hx => hl x (List.mem_cons_of_mem _ hx)) z
    simp only [foldM, List.foldl_cons] at this ⊢
    rw [this, mem_mergeS notB s l h h1 z]
    simp only [notB, List.mem_cons, forall_eq_or_imp]
    by_cases hz : z ∈ s <;> by_cases hz' : z ∈ l <;> simp [hz, hz']
theorem mem_putAll (l : List S) : ∀ (s : List S) (z : S), z ∈ putAll s l ↔ z ∈ s ∨ z ∈ l := by
  induction l with
  | nil => intro s z; simp [putAll]
  | cons a l ih => intro s z; have := ih (putS s a) z; simp only [putAll, List.foldl_cons] at this ⊢; rw [this, mem_putS, List.mem_cons, or_assoc]
theorem sorted_putAll {s : List S} (l : List S) (h : Sorted s) : Sorted (putAll s l) := sorted_fold (fun s x h => sorted_putS h x) l s h
theorem mem_refU : ∀ (ll : List (List S)) (s : List S) (z : S), z ∈ ll.foldl putAll s ↔ z ∈ s ∨ ∃ l ∈ ll, z ∈ l
  | [], s, z => by simp
  | l :: ll, s, z => by
    rw [List.foldl_cons, mem_refU ll, mem_putAll]
    simp only [List.mem_cons, exists_eq_or_imp, or_assoc]
theorem sorted_refU : ∀ (ll : List (List S)) (s : List S), Sorted s → Sorted (ll.foldl putAll s)
  | [], _, h => h
  | l :: ll, s, h => sorted_refU ll _ (sorted_putAll l h)
theorem union_eq (ll : List (List S)) (h : ∀ l ∈ ll, Sorted l) : unionS ll = refUnionS ll :=
  sorted_ext (sorted_foldM _ ll [] sorted_nil h) (sorted_refU ll [] sorted_nil) fun z => by rw [unionS, refUnionS, mem_orB ll [] sorted_nil h, mem_refU]
theorem sorted_filter {s : List S} (p : S → Bool) (h : Sorted s) : Sorted (s.filter p) := List.Pairwise.filter p h
theorem inter_eq (ll : List (List S)) (h : ∀ l ∈ ll, Sorted l) : interS ll = refInterS ll := by
  cases ll with
  | nil => rfl
  | cons s ll =>
    have hs := h s (by simp)
    have hl : ∀ l ∈ ll, Sorted l := fun l hl => h l (List.mem_cons_of_mem _ hl)
    refine sorted_ext (sorted_foldM _ ll s hs hl) (sorted_filter _ hs) fun z => ?_
    show z ∈ foldM andB s ll ↔ z ∈ s.filter (fun x => ll.all (fun l => hasS l x))
    rw [mem_andB ll s hs hl, List.mem_filter]
    simp only [List.all_eq_true, hasS_iff]
theorem sorted_refDiff : ∀ (ll : List (List S)) (s : List S), Sorted s → Sorted (refDiffS s ll)
  | [], _, h => h
  | l :: ll, s, h => sorted_refDiff ll _ (sorted_filter _ h)
theorem mem_refDiff : ∀ (ll : List (List S)) (s : List S) (z : S), z ∈ refDiffS s ll ↔ z ∈ s ∧ ∀ l ∈ ll, z ∉ l
  | [], s, z => by simp [refDiffS]
  | l :: ll, s, z => by
    have := mem_refDiff ll (withoutS s l) z
    simp only [refDiffS, List.foldl_cons] at this ⊢
    rw [this, withoutS, List.mem_filter]
    have hq : (!hasS l z) = true ↔ z ∉ l := by rw [← hasS_iff]; simp
    rw [hq]
    simp only [List.mem_cons, forall_eq_or_imp, and_assoc]
theorem diff_eq (s : List S) (ll : List (List S)) (hs : Sorted s) (h : ∀ l ∈ ll, Sorted l) : foldM notB s ll = refDiffS s ll :=
  sorted_ext (sorted_foldM _ ll s hs h) (sorted_refDiff ll s hs) fun z => by rw [mem_notB ll s hs h, mem_refDiff]
theorem merge_nil : ∀ s : List S, mergeS orB [] s = s
  | [] => by simp [mergeS]
  | x :: s => by rw [mergeS, merge_nil s]; rfl
theorem sizes (s t : List S) : (mergeS orB s t).length + (mergeS andB s t).length = s.length + t.length := by
  induction s, t using mergeS.induct with
  | case1 => simp [mergeS]
  | case2 a xs ih => simp [mergeS, keepIf, orB, andB] at ih ⊢; omega
  | case3 b ys ih => simp [mergeS, keepIf, orB, andB] at ih ⊢; omega
  | case4 a xs b ys h ih => simp [mergeS, keepIf, orB, andB, h] at ih ⊢; omega
  | case5 a xs b ys h h' ih => simp [mergeS, keepIf, orB, andB, h, h'] at ih ⊢; omega
  | case6 a xs b ys h h' ih => simp [mergeS, keepIf, orB, andB, h, h'] at ih ⊢; omega
theorem parts (s t : List S) : (mergeS andB s t).length + (mergeS notB s t).length = s.length := by
  induction s, t using mergeS.induct with
  | case1 => simp [mergeS]
  | case2 a xs ih => simp [mergeS, keepIf, notB, andB] at ih ⊢; omega
  | case3 b ys ih => simp [mergeS, keepIf, notB, andB] at ih ⊢; omega
  | case4 a xs b ys h ih => simp [mergeS, keepIf, notB, andB, h] at ih ⊢; omega
  | case5 a xs b ys h h' ih => simp [mergeS, keepIf, notB, andB, h, h'] at ih ⊢; omega
  | case6 a xs b ys h h' ih => simp [mergeS, keepIf, notB, andB, h, h'] at ih ⊢; omega
end Go.Proofs.Ytnifldbmflkmpaa
