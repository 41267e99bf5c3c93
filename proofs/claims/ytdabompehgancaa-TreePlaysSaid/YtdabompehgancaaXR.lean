/- Trees of blocks: the document's row of places, and the row of a block's kids. -/
import Derived.Test.YtdabompehgancaaXA
set_option linter.unusedSimpArgs false
set_option linter.unusedVariables false
namespace Go.Osj
/-- the document's state with a block somewhere -/
def putS (k : Dot') (v : Spot) (sp : Sp) : Sp := sp.filter (fun p => decide (p.1 ≠ k)) ++ [(k, v)]
theorem alook_append {α β : Type} [DecidableEq α] (x : α) : ∀ (a b : List (α × β)), alook x (a ++ b) = (alook x a).or (alook x b)
  | [], b => by simp [alook]
  | p :: a, b => by
    simp only [List.cons_append, alook]
    split
    · rfl
    · exact alook_append x a b
theorem alook_filter {α β : Type} [DecidableEq α] (k x : α) : ∀ (a : List (α × β)), alook x (a.filter (fun p => decide (p.1 ≠ k))) = if x = k then none else alook x a
  | [] => by simp [alook]
  | p :: a => by
    have ih := alook_filter k x a
    simp only [List.filter_cons]
    by_cases hp : p.1 = k
    · rw [if_neg (by simpa using hp), ih]
      by_cases hx : x = k
      · simp [hx]
      · rw [if_neg hx, if_neg hx]
        simp only [alook]
        rw [if_neg (by rw [hp]; exact hx)]
    · rw [if_pos (by simpa using hp)]
      simp only [alook, ih]
      by_cases hx : x = k
      · rw [if_pos hx, if_pos hx, if_neg (by rw [hx]; exact Ne.symm hp)]
      · rw [if_neg hx, if_neg hx]
theorem alook_putS (k : Dot') (v : Spot) (sp : Sp) (x : Dot') : alook x (putS k v sp) = if x = k then some v else alook x sp := by
  unfold putS
  rw [alook_append, alook_filter]
  by_cases hx : x = k
  · simp [hx, alook]
  · rw [if_neg hx, if_neg hx]
    cases alook x sp <;> simp [alook, hx]
theorem putS_keys {k : Dot'} {v : Spot} {sp : Sp} (h : (sp.map Prod.fst).Nodup) : ((putS k v sp).map Prod.fst).Nodup := by
  unfold putS
  rw [List.map_append, List.nodup_append]
  refine ⟨h.sublist ((List.filter_sublist (l := sp)).map _), by simp, fun a ha b hb => ?_⟩
  obtain ⟨p, hp, rfl⟩ := List.mem_map.1 ha
  have := (List.mem_filter.1 hp).2
  simp at this hb
  rw [hb]
  exact this
/-- two states that tell the same -/
def LookEq (a b : Sp) : Prop := ∀ x, alook x a = alook x b
theorem Pth.look {a b : Sp} (h : LookEq a b) {x : Dot'} {l : List Dot'} (p : Pth a x l) : Pth b x l := by
  induction p with
  | stop g => exact .stop ((h _).symm.trans g)
  | up g _ ih => exact .up ((h _).symm.trans g) ih
theorem OkS.look {a b : Sp} (h : LookEq a b) (hk : (b.map Prod.fst).Nodup) (ok : OkS a) : OkS b :=
  ⟨hk, fun x => let ⟨l, hl⟩ := ok.path x; ⟨l, hl.look h⟩, fun x s hs => by rw [← h] at hs; rw [← h]; exact ok.up x s hs⟩
theorem path_look {a b : Sp} (h : LookEq a b) (ok : OkS a) (x : Dot') : pathA b x = pathA a x := ((ok.pth x).look h).path
theorem takes_look {a b : Sp} (h : LookEq a b) (ok : OkS a) (m : Mv) : takesP b m ↔ takesP a m := by
  unfold takesP
  rw [path_look h ok, h, h]
/-- the document's tree of moves in their order -/
def stepR (s : Sp × List Dot') (m : Mv) : Sp × List Dot' := if takesP s.1 m then (putS m.block (m.parent, m.key) s.1, s.2 ++ [m.id]) else s
def doneR (L : List Mv) : Sp × List Dot' := L.foldl stepR ([], [])
theorem doneR_snoc (L : List Mv) (m : Mv) : doneR (L ++ [m]) = stepR (doneR L) m := by simp [doneR]
def tooks (L : List Mv) : List Dot' := ((runL L).filter En.took).map fun e => e.mv.id
theorem doneR_is (L : List Mv) : LookEq (runS L) (doneR L).1 ∧ ((doneR L).1.map Prod.fst).Nodup ∧ (doneR L).2 = tooks L := by
  generalize hn : L.length = n
  induction n generalizing L with
  | zero =>
    obtain rfl := List.eq_nil_of_length_eq_zero hn
    exact ⟨fun _ => rfl, by simp [doneR], rfl⟩
  | succ n ih =>
    have hne : L ≠ [] := by rintro rfl; simp at hn
    obtain ⟨L', m, rfl⟩ : ∃ L' m, L = L' ++ [m] := ⟨L.dropLast, L.getLast hne, (List.dropLast_concat_getLast hne).symm⟩
    obtain ⟨h1, h2, h3⟩ := ih L' (by simpa using hn)
    have ht := takes_look h1 (okS_run L') m
    unfold tooks at h3 ⊢
    rw [doneR_snoc, runS_snoc, runL_snoc, stepR, doS, List.filter_append, List.map_append]
    by_cases hp : takesP (runS L') m
    · rw [if_pos hp, if_pos (ht.2 hp)]
      refine ⟨fun x => by rw [alook_aset, alook_putS, h1], putS_keys h2, ?_⟩
      simp only [h3]
      simp [doE, hp]
    · rw [if_neg hp, if_neg (fun h => hp (ht.1 h))]
      refine ⟨h1, h2, ?_⟩
      rw [h3]
      simp [doE, hp]
theorem doneR_ok (L : List Mv) : OkS (doneR L).1 := (okS_run L).look (doneR_is L).1 (doneR_is L).2.1
theorem mem_tooks {L : List Mv} {d : Dot'} : d ∈ tooks L ↔ tookP L d := by
  unfold tooks tookP
  simp only [List.mem_map, List.mem_filter]
  constructor
  · rintro ⟨e, ⟨h1, h2⟩, h3⟩; exact ⟨e, h1, h3, h2⟩
  · rintro ⟨e, h1, h3, h2⟩; exact ⟨e, ⟨h1, h2⟩, h3⟩
/-! ### texts, compared -/
theorem bless_irrefl : ∀ a : List UInt8, Op.bytesLess a a = false
  | [] => rfl
  | x :: a => by simp [Op.bytesLess, bless_irrefl a]
theorem bless_trans : ∀ {a b c : List UInt8}, Op.bytesLess a b = true → Op.bytesLess b c = true → Op.bytesLess a c = true
  | _, _, [], _, h => by simp [Op.bytesLess] at h
  | _, [], _ :: _, h, _ => by simp [Op.bytesLess] at h
  | [], _ :: _, _ :: _, _, _ => rfl
  | x :: a, y :: b, z :: c, h1, h2 => by
    simp only [Op.bytesLess, Bool.or_eq_true, decide_eq_true_eq, Bool.and_eq_true, beq_iff_eq] at *
    rcases h1 with h1 | ⟨rfl, h1⟩ <;> rcases h2 with h2 | ⟨rfl, h2⟩
    · exact .inl (UInt8.lt_trans h1 h2)
    · exact .inl h1
    · exact .inl h2
    · exact .inr ⟨rfl, bless_trans h1 h2⟩
theorem bless_total : ∀ {a b : List UInt8}, a ≠ b → Op.bytesLess a b = true ∨ Op.bytesLess b a = true
  | [], [], h => absurd rfl h
  | [], _ :: _, _ => .inl rfl
  | _ :: _, [], _ => .inr rfl
  | x :: a, y :: b, h => by
    simp only [Op.bytesLess, Bool.or_eq_true, decide_eq_true_eq, Bool.and_eq_true, beq_iff_eq]
    by_cases hxy : x = y
    · subst hxy
      rcases bless_total (a := a) (b := b) (fun e => h (by rw [e])) with g | g
      · exact .inl (.inr ⟨rfl, g⟩)
      · exact .inr (.inr ⟨rfl, g⟩)
    · rcases UInt8.lt_or_lt_of_ne hxy with g | g
      · exact .inl (.inl g)
      · exact .inr (.inl g)
/-! ### kids -/
def keyS (sp : Sp) (b : Dot') : ByteArray := ((alook b sp).getD zSpot).2
/-- by keys alone -/
def kltK (sp : Sp) (a b : Dot') : Prop := Op.bytesLess (keyS sp a).toList (keyS sp b).toList = true
instance (sp : Sp) (a b : Dot') : Decidable (kltK sp a b) := inferInstanceAs (Decidable (_ = true))
/-- by keys, then by identities -/
def kltP (sp : Sp) (a b : Dot') : Prop := kltK sp a b ∨ (¬ kltK sp b a ∧ lessD a b)
theorem kltP_trans {sp : Sp} {a b c : Dot'} (x : kltP sp a b) (y : kltP sp b c) : kltP sp a c := by
  unfold kltP kltK at *
  have tot : ∀ {u v w : List UInt8}, Op.bytesLess u v = true → ¬ Op.bytesLess w v = true → Op.bytesLess u w = true := by
    intro u v w h1 h2
    by_cases e : v = w
    · exact e ▸ h1
    · exact bless_trans h1 ((bless_total e).resolve_right h2)
  have tot2 : ∀ {u v w : List UInt8}, ¬ Op.bytesLess v u = true → Op.bytesLess v w = true → Op.bytesLess u w = true := by
    intro u v w h1 h2
    by_cases e : u = v
    · exact e ▸ h2
    · exact bless_trans ((bless_total e).resolve_right h1) h2
  rcases x with x | ⟨x1, x2⟩ <;> rcases y with y | ⟨y1, y2⟩
  · exact .inl (bless_trans x y)
  · exact .inl (tot x y1)
  · exact .inl (tot2 x1 y)
  · by_cases hca : Op.bytesLess (keyS sp c).toList (keyS sp a).toList = true
    · exact absurd (tot hca x1) y1
    · exact .inr ⟨hca, lessD_trans x2 y2⟩
theorem kltP_irrefl (sp : Sp) (a : Dot') : ¬ kltP sp a a := by
  unfold kltP kltK
  rintro (h | ⟨-, h⟩)
  · rw [bless_irrefl] at h; cases h
  · exact lessD_irrefl _ h
theorem kltP_asymm {sp : Sp} {a b : Dot'} (x : kltP sp a b) (y : kltP sp b a) : False := kltP_irrefl sp a (kltP_trans x y)
theorem kltP_total {sp : Sp} {a b : Dot'} (h : a ≠ b) : kltP sp a b ∨ kltP sp b a := by
  unfold kltP
  by_cases h1 : kltK sp a b
  · exact .inl (.inl h1)
  · by_cases h2 : kltK sp b a
    · exact .inr (.inl h2)
    · rcases lessD_total h with g | g
      · exact .inl (.inr ⟨h2, g⟩)
      · exact .inr (.inr ⟨h1, g⟩)
/-- rows that rise, with the same in them, are the same -/
theorem rises_eq {α : Type} {R : α → α → Prop} (hi : ∀ a, ¬ R a a) (ha : ∀ a b, R a b → R b a → False) : ∀ {l k : List α}, l.Pairwise R → k.Pairwise R → (∀ x, x ∈ l ↔ x ∈ k) → l = k
  | [], [], _, _, _ => rfl
  | [], b :: k, _, _, h => absurd ((h b).2 (by simp)) (by simp)
  | a :: l, [], _, _, h => absurd ((h a).1 (by simp)) (by simp)
  | a :: l, b :: k, hl, hk, h => by
    obtain ⟨l1, l2⟩ := List.pairwise_cons.1 hl
    obtain ⟨k1, k2⟩ := List.pairwise_cons.1 hk
    have hab : a = b := by
      have h1 := (h a).1 (by simp)
      have h2 := (h b).2 (by simp)
      rcases List.mem_cons.1 h1 with h1 | h1
      · exact h1
      rcases List.mem_cons.1 h2 with h2 | h2
      · exact h2.symm
      exact absurd (l1 b h2) (fun r => ha _ _ r (k1 a h1))
    subst hab
    congr 1
    refine rises_eq hi ha l2 k2 fun x => ⟨fun hx => ?_, fun hx => ?_⟩
    · rcases List.mem_cons.1 ((h x).1 (List.mem_cons_of_mem _ hx)) with rfl | h3
      · exact absurd (l1 x hx) (hi x)
      · exact h3
    · rcases List.mem_cons.1 ((h x).2 (List.mem_cons_of_mem _ hx)) with rfl | h3
      · exact absurd (k1 x hx) (hi x)
      · exact h3
/-- a row of the kids of a block -/
structure IsKids (sp : Sp) (p : Dot') (l : List Dot') : Prop where
  rises : l.Pairwise (kltP sp)
  mem : ∀ x, x ∈ l ↔ ∃ s, alook x sp = some s ∧ s.1 = p
theorem IsKids.eq {sp : Sp} {p : Dot'} {l k : List Dot'} (h1 : IsKids sp p l) (h2 : IsKids sp p k) : l = k :=
  rises_eq (kltP_irrefl sp) (fun _ _ x y => kltP_asymm x y) h1.rises h2.rises fun x => (h1.mem x).trans (h2.mem x).symm
theorem kltP_look {a b : Sp} (h : LookEq a b) (x y : Dot') : kltP a x y ↔ kltP b x y := by
  unfold kltP kltK keyS
  rw [h x, h y]
theorem IsKids.look {a b : Sp} (h : LookEq a b) {p : Dot'} {l : List Dot'} (k : IsKids a p l) : IsKids b p l :=
  ⟨k.rises.imp fun h' => (kltP_look h _ _).1 h', fun x => by rw [← h]; exact k.mem x⟩
end Go.Osj
