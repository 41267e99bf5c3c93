/- Operations that only read: they run as 'evR' says. -/
import Derived.Test.YtfadbihdmohdiaaGreatDoorOsjB
namespace Go.Osj
open Go.RowKit
section
variable {P : Program} {c0 w : World} {S : St} {fr : Fr}

theorem run_checkKey (d : Nat) : ∀ (e : Bool) (D : Nat) (t : TypeId) (ks : List PK) (cx : List Value) (b : Bool) (w : World), d ≤ D → plainT P d t = some ks → eqC ks cx cx = some b →
    (Instr.checkKey e D t (ofCells P t cx)).run P w = .ok () w := by
  induction d with
  | zero => intro e D t n cx b w _ h; simp [plainT] at h
  | succ d ih =>
    intro e D t ks cx b w hD h hb
    obtain ⟨D, rfl⟩ : ∃ m, D = m + 1 := ⟨D - 1, by omega⟩
    obtain ⟨hx, _⟩ := eqC_len hb
    unfold plainT at h
    cases hi : P.info? t with
    | none => simp [hi] at h
    | some i =>
      simp only [hi] at h
      cases hu : P.underlying t with
      | none => simp [hu] at h
      | some u =>
        cases u <;> simp only [hu] at h <;> try (simp at h; done)
        case struct fs =>
          have hag : isAggT P t = some true := by simp [isAggT, hu]
          split at h
          · simp at h
          · cases hf : plainFs (plainT P d) fs.toList [] with
            | none => simp [hf] at h
            | some m =>
              simp only [hf, Option.bind_some] at h
              split at h
              rotate_left
              · simp at h
              simp at h
              subst h
              simp only [ofCells, hag, if_true, Instr.checkKey, Sem.run_bind, run_underlying hu, Result.andThen_ok]
              rw [← Array.forIn_toList]
              have key : ∀ (l : List Field) (k1 k2 : List PK) (y : Bool) (w : World), m = k1 ++ k2 → plainFs (plainT P d) l k1 = some m → eqC k2 (cx.drop k1.length) (cx.drop k1.length) = some y →
                  (forIn l PUnit.unit (fun f (_ : PUnit) => (do if f.name ≠ "_" then do { let v ← part f.type cx.toArray f.offset; Instr.checkKey e D f.type v; pure (ForInStep.yield PUnit.unit) } else pure (ForInStep.yield PUnit.unit) : Sem (ForInStep PUnit)))).run P w = .ok () w := by
                intro l
                induction l with
                | nil => intro k1 k2 y w hm h1 h2; simp
                | cons f l ihl =>
                  intro k1 k2 y w hm h1 h2
                  simp only [plainFs] at h1
                  split at h1
                  rotate_left
                  · simp at h1
                  rename_i hn
                  cases hp : plainT P d f.type with
                  | none => simp [hp] at h1
                  | some q =>
                    simp only [hp, Option.bind_some] at h1
                    obtain ⟨r, hr⟩ := plainFs_ge h1
                    obtain rfl : k2 = q ++ r := by rw [hm, List.append_assoc] at hr; exact List.append_cancel_left hr
                    obtain ⟨bf, jf, hbf, hjf, hsz, hb1⟩ := plain_agg hp
                    obtain ⟨x1, y1, e1, e2, rfl⟩ := eqC_take q r rfl h2
                    rw [List.drop_drop] at e2
                    have hlen : k1.length + q.length + r.length = m.length := by rw [hr]; simp; omega
                    have hpx := run_part (P := P) (w := w) hbf hjf hb1 cx k1.length (by omega)
                    have hq := ih e D f.type q ((cx.drop k1.length).take q.length) x1 w (by omega) hp e1
                    rw [hsz] at hpx
                    rw [← hn.2] at hpx hq
                    simp only [List.forIn_cons, Sem.run_bind]
                    rw [if_pos hn.1]
                    simp only [Sem.run_bind, hpx, hq, Result.andThen_ok, Sem.run_pure]
                    exact ihl (k1 ++ q) r y1 w (by rw [hr]) h1 (by simpa using e2)
              have := key fs.toList [] m b w rfl hf (by simpa using hb)
              simp at this ⊢
              rw [this]
              rfl
        all_goals
          split at h
          rotate_left
          · simp at h
          simp at h
          subst h
          have hag : isAggT P t = some false := by simp [isAggT, hu]
          match cx, hx with
          | [x], _ =>
            have e1 : ofCells P t [x] = x := by simp [ofCells, hag]
            rw [e1]
            simp [Instr.checkKey, run_underlying hu]

theorem run_checkKeyV {t : TypeId} {ks : List PK} {agg : Bool} {x : Value} (hp : plainT P 30 t = some ks) (hag : isAggT P t = some agg) (h : okV ks agg x = true) (e : Bool) (w : World) :
    (Instr.checkKey e 10000 t x).run P w = .ok () w := by
  unfold okV at h
  obtain ⟨b, hb⟩ := Option.isSome_iff_exists.1 h
  cases agg with
  | true =>
    cases x <;> simp only [eqV] at hb <;> try (simp at hb; done)
    rename_i xs
    have := run_checkKey 30 e 10000 t ks xs.toList b w (by omega) hp hb
    simpa [ofCells, hag] using this
  | false =>
    simp only [eqV] at hb
    have := run_checkKey 30 e 10000 t ks [x] b w (by omega) hp hb
    simpa [ofCells, hag] using this

theorem run_findAsking {t : TypeId} {ks : List PK} {agg : Bool} {k : Value} (hp : plainT P 30 t = some ks) (hag : isAggT P t = some agg) :
    ∀ (es : List MapEntry) (i : Nat) (r : Option (Nat × Value)) (w : World), mfind ks agg k (kv es) = some r →
      (Instr.findAsking t k es i).run P w = .ok (r.map fun p => (i + p.1, p.2)) w
  | [], i, r, w, h => by simp [kv, mfind] at h; subst h; simp [Instr.findAsking]
  | e :: es, i, r, w, h => by
    simp only [kv, List.map_cons, mfind] at h
    cases he : eqV ks agg k e.key with
    | none => simp [he] at h
    | some b =>
      have hq := run_eqV hp hag he 10000 (by omega) w
      unfold Instr.findAsking
      simp only [Op.equal, Op.maxDepth, Sem.run_bind, hq, Result.andThen_ok]
      cases b with
      | true => simp [he] at h; subst h; simp
      | false =>
        simp only [he, Option.map_eq_some_iff] at h
        obtain ⟨r0, h0, rfl⟩ := h
        have := run_findAsking hp hag es (i + 1) r0 w h0
        simp only [Bool.false_eq_true, if_false, this]
        cases r0 with
        | none => simp
        | some p => simp [Nat.add_comm, Nat.add_left_comm]

theorem run_findNow {t : TypeId} {ks : List PK} {agg : Bool} {k : Value} {d : TypeDesc} (hu : P.underlying t = some d) (hp : plainT P 30 t = some ks) (hag : isAggT P t = some agg) :
    ∀ (es : List MapEntry) (i : Nat) (r : Option (Nat × Value)), mfind ks agg k (kv es) = some r →
      Instr.findNow d k es i = none ∨ Instr.findNow d k es i = some (r.map fun p => (i + p.1, p.2))
  | [], i, r, h => by simp [kv, mfind] at h; subst h; right; simp [Instr.findNow]
  | e :: es, i, r, h => by
    simp only [kv, List.map_cons, mfind] at h
    cases he : eqV ks agg k e.key with
    | none => simp [he] at h
    | some b =>
      unfold Instr.findNow
      cases hs : Instr.sameNow d k e.key with
      | none => left; rfl
      | some c =>
        have hbc : b = c := by
          have hag' := hag
          unfold plainT at hp
          cases hi : P.info? t with
          | none => simp [hi] at hp
          | some ii =>
            simp only [hi, hu] at hp
            unfold isAggT at hag
            simp only [hu] at hag
            cases d <;> simp only at hp hag <;> try (simp at hp; done)
            case struct fs => cases k <;> cases e.key <;> simp [Instr.sameNow] at hs
            all_goals
              split at hp
              rotate_left
              · simp at hp
              simp at hp hag
              subst hp hag
              simp only [eqV] at he
              cases k <;> cases hk : e.key <;> simp only [Instr.sameNow, hk] at hs <;> simp only [hk, eqC] at he <;> try (simp at hs; done)
              all_goals try (simp at he; done)
              all_goals (try split at hs) <;> (try split at he) <;> simp_all
              all_goals (rw [← he, ← hs]; rfl)
        subst hbc
        cases b with
        | true => simp [he] at h; subst h; right; simp
        | false =>
          simp only [he, Option.map_eq_some_iff] at h
          obtain ⟨r0, h0, rfl⟩ := h
          rcases run_findNow hu hp hag es (i + 1) r0 h0 with h1 | h1
          · left; exact h1
          · right
            simp only [h1]
            cases r0 with
            | none => simp
            | some p => simp [Nat.add_comm, Nat.add_left_comm]

theorem run_findKey {t : TypeId} {ks : List PK} {agg : Bool} {k : Value} (hp : plainT P 30 t = some ks) (hag : isAggT P t = some agg) {es : List MapEntry} {r : Option (Nat × Value)}
    (h : mfind ks agg k (kv es) = some r) (w : World) : (Instr.findKey t k es).run P w = .ok r w := by
  unfold Instr.findKey
  cases hu : P.underlying t with
  | none => simp [isAggT, hu] at hag
  | some d =>
    simp only [Sem.run_bind, run_underlying hu, Result.andThen_ok]
    rcases run_findNow hu hp hag es 0 r h with h1 | h1
    · rw [h1]
      have := run_findAsking hp hag es 0 r w h
      simp only [this]
      cases r <;> simp
    · rw [h1]
      cases r <;> simp
end
end Go.Osj
