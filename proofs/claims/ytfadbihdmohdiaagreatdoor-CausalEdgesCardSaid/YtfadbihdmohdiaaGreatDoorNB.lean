/- The law CausalEdges. -/
import Derived.Test.YtfadbihdmohdiaaGreatDoorMK
import Derived.Test.YtfadbihdmohdiaaGreatDoorLC
set_option linter.unusedVariables false
set_option linter.unusedSimpArgs false
set_option maxHeartbeats 2000000
namespace Go.Osj
/-- covered by so many -/
def covP (f : List Dot) (l : List OpA) (o : OpA) : Prop := o.id ∈ f ∨ ∃ p ∈ l, p.id ∈ f ∧ hasP p.deps o.id
theorem F.osierlaw08_CausalEdges.J {S : St} {l : Value} {xs : List Mk} (hl : SlT mkE S l xs) (hX : xs.length < 9223372036854775808) (hI : ∀ m ∈ xs, mkI m) :
    J PR F.osierlaw08_CausalEdges [l] S fun v _ => v = .bool true := by
  obtain ⟨base, cap, rfl⟩ := hl.len mkE
  refine J_by PR.mixed F.osierlaw08_CausalEdges.ok (by simp) ?_
  simp (disch := omega) only [go_sem, simprocAttr]
  refine wJ_of F.osierlaw08_awake_J ?_; rintro _ _ ⟨rfl, rfl⟩
  simp (disch := omega) only [go_sem, simprocAttr]
  refine wJ_of (F.osierref08_Story_J hl hX hI) ?_; rintro v S2 ⟨⟨ps, hps, hop, hdp⟩, e2⟩
  obtain ⟨G, hcl⟩ := story_good xs
  have hsl := story_len xs
  have hsd := story_deps xs
  rw [← hps] at G hsl hsd hcl
  rw [List.length_map] at hsl
  have hD : ∀ p ∈ ps, p.1.deps.length < 20000 := fun p hp => by have := hsd p.1 (List.mem_map_of_mem hp); omega
  obtain ⟨bp, cp, hv⟩ := (hop.sl opE).len opE
  subst hv
  simp (disch := omega) only [go_sem, simprocAttr]
  refine wJ_of (F.causal_Frontier_J (hop.sl opE) hdp (by omega) hD) ?_; rintro v S3 ⟨hf, e3⟩
  have hfl := frontA_len (ps.map Prod.fst)
  rw [List.length_map] at hfl
  have hfa : ∀ o ∈ ps.map Prod.fst, o.id ∈ frontA (ps.map Prod.fst) ∨ ∃ p ∈ ps.map Prod.fst, p.id ∈ frontA (ps.map Prod.fst) ∧ hasP p.deps o.id := fun o ho => front_all G hcl ho
  have hap : ∀ a ∈ ps.map Prod.fst, ∀ b ∈ ps.map Prod.fst, hasP b.deps a.id → a.id ∉ frontA (ps.map Prod.fst) := fun a ha b hb h => front_apart G.may ha hb h
  have hfn := front_nil G hcl
  rw [List.length_map] at hfn
  generalize frontA (ps.map Prod.fst) = f at *
  obtain ⟨bf, cf, hv⟩ := (hf.sl dotE).len dotE
  subst hv
  have hs3 := (hop.sl opE).ext opE e3
  have hd3 := hdp.ext e3
  have hf3 := hf.sl dotE
  clear hl hop hdp hf e2 e3
  simp (disch := omega) only [go_sem, simprocAttr]
  refine wC_loop (fun n fr S4 => ∃ i : Nat, n = ps.length - i ∧ i ≤ ps.length ∧ S3 = S4 ∧ fr 4 = .slice bp ps.length cp ∧ fr 5 = .slice bf f.length cf ∧ fr 6 = .int .i64 (i : Nat)) ps.length
    ⟨0, by
      simp (disch := omega) only [go_sem, simprocAttr]
      repeat' first | assumption | omega | (exact St.Ext.refl _) | (exact List.Perm.refl _) | rfl | (exact .inl trivial) | (exact trivial) | refine And.intro ?_ ?_
      ⟩ ?_
  rintro n fr S4 ⟨i, rfl, hi, rfl, h4, h5, h6⟩
  simp (disch := omega) only [go_sem, simprocAttr, F.osierlaw08_CausalEdges.l1, h4, h5, h6]
  refine wcond_dec (fun hlt => ?_) (fun hge => ?_)
  rotate_left
  · simp (disch := omega) only [go_sem, simprocAttr, h4, h5]
    by_cases h0 : ps.length = 0
    · have h1 := hfn.2 h0
      simp (disch := omega) only [go_sem, simprocAttr, h0, h1]
    · have h1 : ¬ f.length = 0 := fun h => h0 (hfn.1 h)
      have d0 : ¬ ((ps.length : Int) = 0) := by omega
      have d1 : ¬ ((f.length : Int) = 0) := by omega
      simp (disch := omega) only [go_sem, simprocAttr, d0, d1]
  have hlx : i < ps.length := by omega
  have c1 : (0 : Int) ≤ (i : Int) ∧ (i : Int) < (ps.length : Int) := by omega
  have hmem : ps[i].1 ∈ ps.map Prod.fst := List.mem_map_of_mem (List.getElem_mem hlx)
  have hopi : ∃ b off, bp = some ⟨b, off, none⟩ ∧ S3.loadN ⟨b, off + i * 14, none⟩ 2 = some [.int .i64 ps[i].1.id.1, .int .i64 ps[i].1.id.2] ∧ S3.loadN ⟨b, off + i * 14, none⟩ 14 = some (opC ps[i].1 (slOf ps[i].2)) := by
    obtain ⟨b, off, h1, -, ⟨x1, -⟩, x14⟩ := hs3.op hlx
    exact ⟨b, off, h1, x1, x14⟩
  obtain ⟨b, off, rfl, x1, x14⟩ := hopi
  simp (disch := omega) only [go_sem, simprocAttr, h4, h5, h6, c1, x1]
  refine wJ_of (F.osierref03_In_P (d := ps[i].1.id) hf3 (by omega)) ?_; rintro _ _ ⟨rfl, rfl⟩
  simp (disch := omega) only [go_sem, simprocAttr, h4, h5, h6]
  refine wC_at 2 (fun fr S5 => S3 = S5 ∧ fr 4 = .slice (some ⟨b, off, none⟩) ps.length cp ∧ fr 5 = .slice bf f.length cf ∧ fr 6 = .int .i64 (i : Nat) ∧ fr 7 = .bool true) ?_ ?_
  · refine wC_loop (fun n fr S5 => ∃ (k : Nat) (t : Bool), n = ps.length - k ∧ k ≤ ps.length ∧ S3 = S5 ∧ fr 4 = .slice (some ⟨b, off, none⟩) ps.length cp ∧ fr 5 = .slice bf f.length cf ∧ fr 6 = .int .i64 (i : Nat) ∧ fr 7 = .bool t ∧ fr 8 = .int .i64 (k : Nat) ∧ (t = true ↔ covP f ((ps.map Prod.fst).take k) ps[i].1)) ps.length
      ⟨0, decide (ps[i].1.id ∈ f), by
        have k0 : (decide (ps[i].1.id ∈ f) = true ↔ covP f ((ps.map Prod.fst).take 0) ps[i].1) := by simp [covP]
        simp (disch := omega) only [go_sem, simprocAttr, h4, h5, h6]
        repeat' first | assumption | omega | (exact St.Ext.refl _) | (exact List.Perm.refl _) | rfl | (exact .inl trivial) | (exact trivial) | refine And.intro ?_ ?_
        ⟩ ?_
    rintro n fr S5 ⟨k, t, rfl, hk, rfl, h4, h5, h6, h7, h8, ht⟩
    simp (disch := omega) only [go_sem, simprocAttr, F.osierlaw08_CausalEdges.l0, h4, h5, h6, h7, h8]
    refine wcond_dec (fun hlt2 => ?_) (fun hge2 => ?_)
    rotate_left
    · rw [List.take_of_length_le (by rw [List.length_map]; omega)] at ht
      obtain rfl : t = true := ht.2 (hfa _ hmem)
      simp (disch := omega) only [go_sem, simprocAttr, h4, h5, h6, h7]
      repeat' first | assumption | omega | (exact St.Ext.refl _) | (exact List.Perm.refl _) | rfl | (exact .inl trivial) | (exact trivial) | refine And.intro ?_ ?_
    have hlk : k < ps.length := by omega
    have c2 : (0 : Int) ≤ (k : Int) ∧ (k : Int) < (ps.length : Int) := by omega
    have hmapk : (ps.map Prod.fst)[k]? = some ps[k].1 := by rw [List.getElem?_map, List.getElem?_eq_getElem hlk]; rfl
    have hmemk : ps[k].1 ∈ ps.map Prod.fst := List.mem_map_of_mem (List.getElem_mem hlk)
    obtain ⟨b', off', hbb, -, ⟨y1, -⟩, y14⟩ := hs3.op hlk
    injection hbb with hbb
    injection hbb with hb1 hb2
    subst hb1 hb2
    have hsn : ∀ q : Prop, (q ↔ (ps[k].1.id ∈ f ∧ hasP ps[k].1.deps ps[i].1.id)) → ((t = true ∨ q) ↔ covP f ((ps.map Prod.fst).take (k + 1)) ps[i].1) := fun q hq => by
      rw [take_snoc hmapk, ht, hq]
      unfold covP
      constructor
      · rintro ((h | ⟨p, h1, h2⟩) | h)
        · exact .inl h
        · exact .inr ⟨p, List.mem_append_left _ h1, h2⟩
        · exact .inr ⟨_, List.mem_append_right _ (List.mem_singleton.2 rfl), h⟩
      · rintro (h | ⟨p, h1, h2⟩)
        · exact .inl (.inl h)
        · rcases List.mem_append.1 h1 with h1 | h1
          · exact .inl (.inr ⟨p, h1, h2⟩)
          · obtain rfl : p = ps[k].1 := by simpa using h1
            exact .inr h2
    simp (disch := omega) only [go_sem, simprocAttr, h4, h5, h6, h7, h8, c1, c2, y1]
    refine wJ_of (F.osierref03_In_P (d := ps[k].1.id) hf3 (by omega)) ?_; rintro _ _ ⟨rfl, rfl⟩
    by_cases hin : ps[k].1.id ∈ f
    rotate_left
    · have hs := hsn False ⟨fun h => h.elim, fun h => hin h.1⟩
      rw [or_false] at hs
      simp (disch := omega) only [go_sem, simprocAttr, hin, h4, h5, h6, h7, h8]
      refine ⟨ps.length - (k + 1), by omega, k + 1, t, ?_⟩
      repeat' first | assumption | omega | (exact St.Ext.refl _) | (exact List.Perm.refl _) | rfl | (exact .inl trivial) | (exact trivial) | refine And.intro ?_ ?_
    simp (disch := omega) only [go_sem, simprocAttr, hin, h4, h5, h6, h7, h8, c1, c2, x14, y14, opC_len, opC_toList]
    refine wJ_of (F.causal_Ahead_J (a := ps[i].1) (b := ps[k].1) (da := slOf ps[i].2) (hd3 _ (List.getElem_mem hlk)) (by have := hD _ (List.getElem_mem hlk); omega)) ?_; rintro _ _ ⟨rfl, rfl⟩
    by_cases hah : hasP ps[k].1.deps ps[i].1.id
    rotate_left
    · have hs := hsn False ⟨fun h => h.elim, fun h => hah h.2⟩
      rw [or_false] at hs
      simp (disch := omega) only [go_sem, simprocAttr, hah, h4, h5, h6, h7, h8]
      refine ⟨ps.length - (k + 1), by omega, k + 1, t, ?_⟩
      repeat' first | assumption | omega | (exact St.Ext.refl _) | (exact List.Perm.refl _) | rfl | (exact .inl trivial) | (exact trivial) | refine And.intro ?_ ?_
    have hni := hap _ hmem _ hmemk hah
    have hs := hsn True ⟨fun _ => ⟨hin, hah⟩, fun _ => trivial⟩
    have hs' : (true = true ↔ covP f ((ps.map Prod.fst).take (k + 1)) ps[i].1) := ⟨fun _ => hs.1 (.inr trivial), fun _ => rfl⟩
    simp (disch := omega) only [go_sem, simprocAttr, hah, h4, h5, h6, h7, h8, c1, c2, x1]
    refine wJ_of (F.osierref03_In_P (d := ps[i].1.id) hf3 (by omega)) ?_; rintro _ _ ⟨rfl, rfl⟩
    simp (disch := omega) only [go_sem, simprocAttr, hni, h4, h5, h6, h8]
    refine ⟨ps.length - (k + 1), by omega, k + 1, true, ?_⟩
    repeat' first | assumption | omega | (exact St.Ext.refl _) | (exact List.Perm.refl _) | rfl | (exact .inl trivial) | (exact trivial) | refine And.intro ?_ ?_
  rintro fr S5 ⟨rfl, h4, h5, h6, h7⟩
  simp (disch := omega) only [go_sem, simprocAttr, h4, h5, h6, h7]
  refine ⟨ps.length - (i + 1), by omega, i + 1, ?_⟩
  repeat' first | assumption | omega | (exact St.Ext.refl _) | (exact List.Perm.refl _) | rfl | (exact .inl trivial) | (exact trivial) | refine And.intro ?_ ?_
end Go.Osj
