/- Each operation of the abstract machine is what the model's does: conversions, maps, values. -/
import Derived.Test.YtgagaobijjahhaaGreatDoorAmOps6
import Derived.Laws.BytesString
import Derived.Laws.BytesArg
namespace Go.Am
open Go.RowKit
set_option linter.unusedVariables false
set_option linter.unusedSimpArgs false

section
variable {C : Cfg} {M M' : Mp} {w w' : World} {B0 : Nat} {N W : Nat → Prop} {p : List Nat} {σ σ' : List O} {c : Nat}

theorem known_under {t : TypeId} (h : known C t = true) : ∃ d, C.P.underlying t = some d := by
  unfold known Cfg.shape at h
  cases hu : C.P.underlying t with
  | none => simp [hu] at h
  | some d => exact ⟨d, rfl⟩
theorem shape_not_int {t : TypeId} {d : TypeDesc} (hu : C.P.underlying t = some d) (h : ∀ k, C.shape t ≠ .int k) : ∀ k, d ≠ .int k := by
  rintro k rfl
  exact h k (by simp [Cfg.shape, hu])

theorem bytesOf_some {cs : List V} : ∀ {l : List UInt8}, bytesOf cs = some l → ∃ ns : List Int, cs = ns.map (V.i .u8) ∧ l = ns.map fun n => UInt8.ofNat n.toNat := by
  induction cs with
  | nil => intro l h; simp [bytesOf] at h; subst h; exact ⟨[], rfl, rfl⟩
  | cons v cs ih =>
    intro l h
    cases v <;> try (simp [bytesOf] at h; done)
    rename_i k n
    cases k <;> try (simp [bytesOf] at h; done)
    simp only [bytesOf, Option.map_eq_some_iff] at h
    obtain ⟨l', hl', rfl⟩ := h
    obtain ⟨ns, rfl, rfl⟩ := ih hl'
    exact ⟨n :: ns, rfl, rfl⟩
theorem rel_ints {ns : List Int} {k : IntKind} : ∀ {ys : List Value}, RelL M w (ns.map (V.i k)) ys → ys = ns.map (Value.int k) := by
  induction ns with
  | nil => intro ys h; cases h; rfl
  | cons n ns ih => intro ys h; cases h with | cons _ y _ ys h hs => rw [h.i_inv, ih hs]; rfl

theorem convertP_sound (ho : ∀ (r : Nat) o, N r → σ[r]? = some o → ObjRel M w o) {src dst : Nat} {x v : V} {yx : Value}
    (h : convertP C src dst σ x = some v) (hrx : Rel M w x yx) (hNx : ∀ r st off len es cap, x = .sl r st off len es cap → N r) :
    ∃ u, (convert src dst yx).run C.P w = .ok u w ∧ Rel M w v u := by
  unfold convertP at h
  split at h
  · rename_i hk
    obtain ⟨d, hd⟩ := known_under hk
    split at h
    · rename_i k k' n hsd
      simp at h
      subst h
      rw [hrx.i_inv]
      refine ⟨.int k (k.wrap n), ?_, .i _ _⟩
      cases d <;> simp [convert, run_under hd, run_under (shape_int hsd), Conv.intToInt]
    · rename_i b hsd
      simp at h
      subst h
      rw [hrx.s_inv]
      refine ⟨.string b, ?_, .s _⟩
      cases d <;> simp [convert, run_under hd, run_under (shape_string hsd)]
    · rename_i xx _ _ hsd hnos
      split at h
      · rename_i e hse
        split at h
        · rename_i hsu
          simp only [Option.bind_eq_some_iff, Option.map_eq_some_iff] at h
          obtain ⟨⟨n, cs⟩, hel, l, hl, rfl⟩ := h
          obtain ⟨ns, rfl, rfl⟩ := bytesOf_some hl
          obtain ⟨h1, h2, ys, h3, h4⟩ := run_firstCells (C := C) hel hrx (Nat.le_refl n) (fun r st off len es cap e o h => ho r o (hNx _ _ _ _ _ _ e) h)
          rw [List.take_of_length_le (by rw [h1]; exact Nat.le_refl _)] at h4
          have hys := rel_ints h4
          subst hys
          have key : ∀ a len k, yx = .slice (some a) len k → n = len → (convert src dst yx).run C.P w = .ok (.string ⟨(ns.map fun n => UInt8.ofNat n.toNat).toArray⟩) w := by
            rintro a len k rfl rfl
            rw [run_convert_bytes_string w src dst e _ _ _ (shape_slice hse) (shape_int hsu) (shape_string hsd)]
            rw [run_bytesToString w a n k ns (by simpa [Builtin.firstCells] using h3), foldl_push_bytes]
            simp [ByteArray.empty, ByteArray.emptyWithCapacity]
            rfl
          refine ⟨_, ?_, .s _⟩
          cases xx <;> simp only [elems, reduceCtorEq, Option.some.injEq, Prod.mk.injEq, Option.map_eq_some_iff] at hel
          · rename_i s
            exact (hnos s rfl).elim
          · obtain ⟨rfl, hnil⟩ := hel
            have : ns = [] := by simpa using hnil.symm
            subst this
            rw [hrx.nils_inv, run_convert_bytes_string w src dst e _ _ _ (shape_slice hse) (shape_int hsu) (shape_string hsd)]
            simp [Conv.bytesToString, ByteArray.empty, ByteArray.emptyWithCapacity]
            rfl
          · split at hel
            · simp only [Option.bind_eq_some_iff, Option.map_eq_some_iff, Prod.mk.injEq] at hel
              obtain ⟨_, _, _, _, rfl, _⟩ := hel
              obtain ⟨b, nn, k, _, rfl, _⟩ := hrx.sl_inv
              exact key _ _ _ rfl rfl
            · simp at hel
          · obtain ⟨_, _, rfl, _⟩ := hel
            obtain ⟨a, vs, k, rfl, _⟩ := hrx.arr_inv
            exact key _ _ _ rfl rfl
        · simp at h
      · simp at h
    · simp at h
  · simp at h

theorem freeze_size (w : World) (a : Addr) : (w.freeze a 1).heap.size = w.heap.size := by simp [World.freeze]
theorem freeze_other (w : World) (a : Addr) {k : Nat} (h : k ≠ a.block) : (w.freeze a 1).heap[k]? = w.heap[k]? := by
  simp [World.freeze, Array.getElem?_modify, Ne.symm h]
theorem freeze_at {w : World} {b n lo hi : Nat} {c : Array Value} {e : TypeId} (h : w.heap[b]? = some (.cells c e (lo, hi))) (hn : n ≤ c.size) (hl : lo = hi ∨ n ≤ lo) :
    ∃ lo' hi', (w.freeze ⟨b, c.size, none⟩ 1).heap[b]? = some (.cells c e (lo', hi')) ∧ n ≤ lo' := by
  by_cases e1 : lo = hi
  · exact ⟨c.size, c.size + 1, by simp [World.freeze, Array.getElem?_modify, h, e1], hn⟩
  · exact ⟨min lo c.size, max hi (c.size + 1), by simp [World.freeze, Array.getElem?_modify, h, e1], by omega⟩
theorem convertA_sound (hs : Sep B0 M σ w) (ho : ∀ (r : Nat) o, N r → σ[r]? = some o → ObjRel M w o) (hf : Fr M σ p c) {src dst : Nat} {x v : V} {yx : Value}
    (h : convertA C src dst σ (c :: p) x = some (v, σ')) (hrx : Rel M w x yx) (hNW : ∀ r st off len es cap, x = .sl r st off len es cap → N r ∧ W r) :
    ∃ u w' M', (convert src dst yx).run C.P w = .ok u w' ∧ Rel M' w' v u ∧ Post B0 N W p M M' σ σ' c w w' := by
  unfold convertA at h
  split at h
  · rename_i hk
    rw [Bool.and_eq_true] at hk
    obtain ⟨hk, hmk⟩ := hk
    obtain ⟨d, hd⟩ := known_under hk
    split at h
    · rename_i e b hsd
      split at h
      · rename_i hsu
        simp at h
        obtain ⟨rfl, rfl⟩ := h
        rw [hrx.s_inv]
        have hrun := Lib.run_convert_string_bytes (P := C.P) w src dst e b hd (shape_slice hsd) (shape_int hsu)
        have hrel : RelL M w (u8s b) (b.data.toList.map fun x => Value.int .u8 x.toNat) := RelL.map_ev _ _ _ fun x _ => .i _ _
        have hone : (u8s b).all V.one = true := by
          rw [List.all_eq_true]; intro v hv
          rw [u8s, List.mem_map] at hv
          obtain ⟨_, _, rfl⟩ := hv; rfl
        have hcells : Lib.bytesCells w e b = ((b.data.toList.map fun x => Value.int .u8 x.toNat) ++ (Array.replicate (grownCap w b.size 0 e - b.size) (Value.int .u8 0)).toList).toArray := by
          apply Array.ext'
          simp [Lib.bytesCells]
        have hnew := Lib.bytesWorld_at_new w e b
        rw [hcells] at hnew
        have hcap := grownCap_ge w b.size 0 e
        have hlen : ((b.data.toList.map fun x => Value.int .u8 x.toNat) ++ (Array.replicate (grownCap w b.size 0 e - b.size) (Value.int .u8 0)).toList).length = grownCap w b.size 0 e := by
          have : b.data.toList.length = b.size := by rw [Array.length_toList]; rfl
          simp only [List.length_append, List.length_map, this, Array.toList_replicate, List.length_replicate]
          omega
        obtain ⟨M', hM', hp⟩ := Post.alloc (N := N) (W := W) (w' := Lib.bytesWorld w e b) hs ho hf (.cells (c :: p) (u8s b)) _ rfl (Lib.bytesWorld_size w e b) (fun k hk => Lib.bytesWorld_at_old w e b k hk)
          ⟨rfl, rfl, rfl, by rw [Lib.bytesWorld_size]; omega, fun k hk => Lib.bytesWorld_at_old w e b k (Nat.lt_of_lt_of_le hk hs.base)⟩
          (obj_new hrel hone _ hnew (.inr (by simp)) (fun y hy => by
            simp only [Array.toList_replicate, List.mem_replicate] at hy
            rw [hy.2]; rfl) (.inl hmk))
        refine ⟨_, _, M', hrun, .sl _ _ _ _ _ _ w.heap.size _ (grownCap w b.size 0 e) hM' hcap (fun _ => by rw [hlen]; omega) (fun c' e => by cases e), hp⟩
      · simp at h
    · rename_i e r st off n es cap hsd
      split at h
      · rename_i hsu
        simp only [Option.bind_eq_some_iff] at h
        obtain ⟨cs, hcs, h⟩ := h
        split at h
        case isFalse => cases h
        rename_i hc
        obtain ⟨rfl, hpos⟩ := hc
        cases h
        obtain ⟨hNr, hWr⟩ := hNW r st off n es cap rfl
        cases hrx with
        | sl _ _ _ _ _ _ b nn k hM hkk hfull hcap =>
          have hrow := rowAt_some hcs
          have hob := ho r _ hNr hrow
          obtain ⟨q1, q2, q3, q4⟩ := hob b nn hM
          obtain ⟨_, _, _, _, c0, e0, lo, hi, hb, hfz, hsz, hmk'⟩ := q3 0 (by omega)
          obtain ⟨lo', hi', hb', hlo⟩ := freeze_at hb hsz hfz
          have hsh : w.shape? b = some (e0, c0.size) := by simp [World.shape?, hb]
          have hrun : (convert src src (.slice (some ⟨b, off, none⟩) n k)).run C.P w = .ok (.slice (some ⟨b, off, none⟩) n k) (w.freeze ⟨b, c0.size, none⟩ 1) := by
            have h1 := shape_slice hsd
            have h2 := shape_int hsu
            simp [convert, run_underlying h1, run_underlying h2, markStringish, hsh]
          have hp := Post.write (B0 := B0) (N := N) (W := W) (p := p) (c := c) (w' := w.freeze ⟨b, c0.size, none⟩ 1) hs ho r (.cells st cs) (.cells st cs) st b nn hrow rfl rfl hM hWr (freeze_size _ _) (fun k' hk' => freeze_other _ _ hk')
            ⟨by simp only [World.freeze]; rfl, by simp only [World.freeze]; rfl, by simp only [World.freeze]; rfl, Nat.le_of_eq (freeze_size _ _).symm, fun k' hk' => freeze_other _ _ (by have := (hs.lt _ _ _ hM).2; dsimp only; omega)⟩
            (fun hE => by
              intro b' n' hm'
              rw [hM] at hm'; cases hm'
              have hcell : ∀ j, (w.freeze ⟨b, c0.size, none⟩ 1).cell? ⟨b, j, none⟩ = w.cell? ⟨b, j, none⟩ := fun j => by
                simp only [World.cell?, hb, hb']
              refine ⟨q1, q2, fun j hj => ?_, fun j x hx => ?_⟩
              · obtain ⟨y, hy, hf', h5, _, _, _, _, _, _, _, h6⟩ := q3 j hj
                refine ⟨y, by rw [hcell]; exact hy, ?_, h5, c0, e0, lo', hi', hb', .inr hlo, hsz, .inl hmk⟩
                simp only [World.frozen?, hb', Bool.and_eq_false_iff, decide_eq_false_iff_not]
                left; omega
              · obtain ⟨y, hy, hr'⟩ := q4 j x hx
                exact ⟨y, by rw [hcell]; exact hy, hr'.mono hE⟩)
          rw [show σ.set r (.cells st cs) = σ from List.ext_getElem? fun i => by
            rw [List.getElem?_set]
            split
            · rename_i e; subst e
              have := (List.getElem?_eq_some_iff.1 hrow).1
              rw [if_pos this, hrow]
            · rfl] at hp
          exact ⟨_, _, M, hrun, .sl _ _ _ _ _ _ b nn k hM hkk hfull hcap, hp⟩
      · simp at h
    · simp at h
  · simp at h

/-! Maps. -/
def KeyD (k : V) (d : TypeDesc) : Prop := (∃ kk n, k = .i kk n ∧ d = .int kk) ∨ ∃ s, k = .s s ∧ d = .string
theorem keyOk_run {kt : TypeId} {k : V} {y : Value} (h : keyOk C kt k = true) (hr : Rel M w k y) :
    (∀ b, (Instr.checkKey b 10000 kt y).run C.P w = .ok () w) ∧ ∃ d, (underlying kt).run C.P w = .ok d w ∧ KeyD k d := by
  unfold keyOk at h
  split at h
  · rename_i k' n
    split at h
    · rename_i k2 hs
      rw [hr.i_inv]
      have : ∀ b q, (Instr.checkKey b (q + 1) kt (.int k' n)).run C.P w = .ok () w := by
        intro b q
        simp [Instr.checkKey, run_under (shape_int hs)]
      simp only [beq_iff_eq] at h
      exact ⟨fun b => this b 9999, _, run_under (shape_int hs) w, .inl ⟨_, _, rfl, by rw [h]⟩⟩
    · simp at h
  · split at h
    · rename_i s _ hs
      rw [hr.s_inv]
      have : ∀ b q, (Instr.checkKey b (q + 1) kt (.string s)).run C.P w = .ok () w := by
        intro b q
        simp [Instr.checkKey, run_under (shape_string hs)]
      exact ⟨fun b => this b 9999, _, run_under (shape_string hs) w, .inr ⟨_, rfl, rfl⟩⟩
    · simp at h
  · simp at h
def RelKV (M : Mp) (w : World) (kvs : List (V × V)) (es : List MapEntry) : Prop :=
  es.length = kvs.length ∧ ∀ (j : Nat) k v, kvs[j]? = some (k, v) → ∃ e, es[j]? = some e ∧ Rel M w k e.key ∧ Rel M w v e.val
theorem find_sound {d : TypeDesc} {k : V} {y : Value} (hd : KeyD k d) (hr : Rel M w k y) : ∀ (kvs : List (V × V)) (es : List MapEntry) (n : Nat) (r : Option (Nat × V)), RelKV M w kvs es → findA k kvs n = some r →
    ∃ r', Instr.findNow d y es n = some r' ∧ ((r = none ∧ r' = none) ∨ ∃ i v u k' e, r = some (i, v) ∧ r' = some (i, u) ∧ Rel M w v u ∧ n ≤ i ∧ kvs[i - n]? = some (k', v) ∧ es[i - n]? = some e ∧ Rel M w k' e.key ∧ keyEq k k' = some true ∧ i - n < kvs.length) := by
  intro kvs
  induction kvs with
  | nil =>
    intro es n r hkv h
    have : es = [] := List.eq_nil_of_length_eq_zero (by simpa using hkv.1)
    subst this
    simp [findA] at h; subst h
    exact ⟨none, by simp [Instr.findNow], .inl ⟨rfl, rfl⟩⟩
  | cons a kvs ih =>
    intro es n r hkv h
    obtain ⟨k', v⟩ := a
    cases es with
    | nil => simp [RelKV] at hkv
    | cons e es =>
      obtain ⟨e', he', h1, h2⟩ := hkv.2 0 k' v rfl
      simp at he'; subst he'
      have hkv' : RelKV M w kvs es := ⟨by simpa using hkv.1, fun j k v hj => by simpa using hkv.2 (j + 1) k v (by simpa using hj)⟩
      have hsame : ∀ b, keyEq k k' = some b → Instr.sameNow d y e.key = some b := by
        intro b hb
        rcases hd with ⟨kk, n, rfl, rfl⟩ | ⟨s, rfl, rfl⟩
        · cases k' <;> simp only [keyEq, reduceCtorEq] at hb
          rw [hr.i_inv, h1.i_inv]
          simpa [Instr.sameNow] using hb
        · cases k' <;> simp only [keyEq, reduceCtorEq] at hb
          rw [hr.s_inv, h1.s_inv]
          simpa [Instr.sameNow] using hb
      simp only [findA] at h
      split at h
      · rename_i hk
        simp at h; subst h
        exact ⟨some (n, e.val), by simp [Instr.findNow, hsame _ hk], .inr ⟨n, v, e.val, k', e, rfl, rfl, h2, Nat.le_refl _, by simp, by simp, h1, hk, by simp⟩⟩
      · rename_i hk
        obtain ⟨r', g1, g2⟩ := ih es (n + 1) r hkv' h
        refine ⟨r', by simp [Instr.findNow, hsame _ hk, g1], ?_⟩
        rcases g2 with g2 | ⟨i, v', u, k2, e2, q1, q2, q3, q4, q5, q6, q7, q8, q9⟩
        · exact .inl g2
        · refine .inr ⟨i, v', u, k2, e2, q1, q2, q3, by omega, ?_, ?_, q7, q8, by simp; omega⟩
          · rw [show i - n = (i - (n + 1)) + 1 by omega]; simpa using q5
          · rw [show i - n = (i - (n + 1)) + 1 by omega]; simpa using q6
      · simp at h

theorem map_row {m : V} {r st} {kvs : List (V × V)} {y : Value} (hr : Rel M w (.map r st) y) (hσ : σ[r]? = some (.map st kvs)) (ho : ∀ o, σ[r]? = some o → ObjRel M w o) :
    ∃ b n es clock, M.m st = some (b, n) ∧ y = .map (some b) ∧ w.heap[b]? = some (.map es clock) ∧ RelKV M w kvs es.toList := by
  obtain ⟨b, n, hm, rfl⟩ := hr.map_inv
  obtain ⟨es, cl, h1, h2, h3⟩ := ho _ hσ b n hm
  refine ⟨b, n, es, cl, hm, rfl, h1, by simpa using h2, fun j k v hj => ?_⟩
  obtain ⟨e, g1, g2, g3⟩ := h3 j k v hj
  exact ⟨e, by simpa using g1, g2, g3⟩
theorem run_getMap {b : Nat} {es : Array MapEntry} {cl : Nat} (h : w.heap[b]? = some (.map es cl)) : (getObj b).run C.P w = .ok (.map es cl) w := by
  simp [getObj, Sem.run, h]

theorem lookup_sound {t : Nat} {m k v : V} {ok : Bool} {ym yk : Value} (h : lookupA C t σ m k ok = some v) (hm : Rel M w m ym) (hk : Rel M w k yk)
    (ho : ∀ r st, m = .map r st → ∀ o, σ[r]? = some o → ObjRel M w o) : ∃ u, (Instr.lookup t ym yk ok).run C.P w = .ok u w ∧ Rel M w v u := by
  unfold lookupA at h
  split at h
  · rename_i kt et hs
    split at h
    · rename_i hko
      obtain ⟨hck, d, hd, hkd⟩ := keyOk_run (C := C) hko hk
      simp only [Option.bind_eq_some_iff] at h
      obtain ⟨r, hr, ⟨v', f⟩, hv', h⟩ := h
      dsimp only at h
      -- the entries
      have key : ∃ es : Array MapEntry, ((ym = .map none ∧ es = #[]) ∨ ∃ b cl, ym = .map (some b) ∧ w.heap[b]? = some (.map es cl)) ∧
          ∃ r', Instr.findNow d yk es.toList 0 = some r' ∧ ((r = none ∧ r' = none) ∨ ∃ i v u, r = some (i, v) ∧ r' = some (i, u) ∧ Rel M w v u) := by
        split at hr
        · simp at hr; subst hr
          cases hm
          exact ⟨#[], .inl ⟨rfl, rfl⟩, none, by simp [Instr.findNow], .inl ⟨rfl, rfl⟩⟩
        · rename_i rr st
          split at hr
          · rename_i st' kvs hσ
            split at hr
            · rename_i e; subst e
              obtain ⟨b, n, es, cl, h1, rfl, h2, h3⟩ := map_row (m := .bad) hm hσ (ho _ _ rfl)
              obtain ⟨r', g1, g2⟩ := find_sound hkd hk _ _ 0 _ h3 hr
              refine ⟨es, .inr ⟨b, cl, rfl, h2⟩, r', g1, ?_⟩
              rcases g2 with g2 | ⟨i, v, u, _, _, q1, q2, q3, _⟩
              · exact .inl g2
              · exact .inr ⟨i, v, u, q1, q2, q3⟩
            · simp at hr
          · simp at hr
        · simp at hr
      obtain ⟨es, hes, r', hf, hcase⟩ := key
      have hfk : (Instr.findKey kt yk es.toList).run C.P w = .ok r' w := by
        simp [Instr.findKey, hd, hf]
      rcases hcase with ⟨rfl, rfl⟩ | ⟨i, v2, u, rfl, rfl, hvu⟩
      · simp only [Option.map_eq_some_iff, Prod.mk.injEq] at hv'
        obtain ⟨z, hz, rfl, rfl⟩ := hv'
        obtain ⟨yz, hyz, rfl, hone⟩ := run_zero hz w
        refine ⟨if ok then .tuple #[yz, .bool false] else yz, ?_, ?_⟩
        · rcases hes with ⟨rfl, rfl⟩ | ⟨b, cl, rfl, hb⟩
          · simp only at hfk
            cases ok <;> simp [Instr.lookup, run_under (shape_map hs), hck, hfk, hyz]
          · cases ok <;> simp [Instr.lookup, run_under (shape_map hs), run_getMap hb, hck, hfk, hyz]
        · simp at h; subst h
          cases ok
          · exact rel_ofVal _
          · exact .tup [_, _] [yz, .bool false] (.cons _ _ _ _ (rel_ofVal _) (.cons _ _ _ _ (.b _) .nil))
      · simp at hv'
        obtain ⟨rfl, rfl⟩ := hv'
        refine ⟨if ok then .tuple #[u, .bool true] else u, ?_, ?_⟩
        · rcases hes with ⟨rfl, rfl⟩ | ⟨b, cl, rfl, hb⟩
          · simp only at hfk
            cases ok <;> simp [Instr.lookup, run_under (shape_map hs), hck, hfk]
          · cases ok <;> simp [Instr.lookup, run_under (shape_map hs), run_getMap hb, hck, hfk]
        · simp at h; subst h
          cases ok
          · exact hvu
          · exact .tup [_, _] [u, .bool true] (.cons _ _ _ _ hvu (.cons _ _ _ _ (.b _) .nil))
    · simp at h
  · simp at h

theorem setObj_heap (b k : Nat) (o : Obj) (h : k ≠ b) : ({ w with heap := w.heap.setIfInBounds b o } : World).heap[k]? = w.heap[k]? := by
  simp only [Array.getElem?_setIfInBounds]
  rw [if_neg (Ne.symm h)]
theorem setObj_self (b : Nat) (o : Obj) (h : b < w.heap.size) : ({ w with heap := w.heap.setIfInBounds b o } : World).heap[b]? = some o := by
  simp [h]
theorem ba_beq (a b : ByteArray) : (a == b) = true ↔ a = b := by
  cases a with | mk x => cases b with | mk y =>
  constructor
  · intro h
    have h' : (x == y) = true := h
    have := eq_of_beq h'
    subst this; rfl
  · intro h
    cases h
    show (x == x) = true
    simp
theorem sameBits_refl {k k' : V} {y y' : Value} (h : keyEq k k' = some true) (hr : Rel M w k y) (hr' : Rel M w k' y') (hd : ∃ d, KeyD k d) : Instr.sameBits 10000 y' y = true := by
  obtain ⟨d, hd⟩ := hd
  rcases hd with ⟨kk, n, rfl, rfl⟩ | ⟨s, rfl, rfl⟩
  · cases k' <;> simp only [keyEq, reduceCtorEq] at h
    rw [hr.i_inv, hr'.i_inv]
    split at h
    · rename_i e
      subst e
      simp at h; subst h
      simp [Instr.sameBits]
    · simp at h
  · cases k' <;> simp only [keyEq, reduceCtorEq] at h
    rw [hr.s_inv, hr'.s_inv]
    simp only [Option.some.injEq] at h
    have h := (ba_beq _ _).1 h
    subst h
    simp only [Instr.sameBits]
    exact (ba_beq _ _).2 rfl

theorem mapUpdate_sound (hs : Sep B0 M σ w) (ho : ∀ (r : Nat) o, N r → σ[r]? = some o → ObjRel M w o) {t : Nat} {m k x : V} {ym yk yx : Value} (h : mapUpdateA C t σ m k x = some σ')
    (hm : Rel M w m ym) (hk : Rel M w k yk) (hx : Rel M w x yx) (hN : ∀ r st, m = .map r st → N r ∧ W r) :
    ∃ w', (Instr.mapUpdate t ym yk yx).run C.P w = .ok () w' ∧ Post B0 N W p M M σ σ' c w w' := by
  unfold mapUpdateA at h
  split at h
  · rename_i kt et hsh
    split at h
    · rename_i hko
      obtain ⟨hck, d, hd, hkd⟩ := keyOk_run (C := C) hko hk
      split at h
      · rename_i r st
        split at h
        · rename_i st' kvs hσ
          split at h
          · rename_i e; subst e
            obtain ⟨hNr, hWr⟩ := hN _ _ rfl
            obtain ⟨b, n, es, cl, h1, rfl, h2, h3⟩ := map_row (m := .bad) hm hσ (fun o h => ho _ o hNr h)
            have hbl := hs.lt _ _ _ h1
            simp only [Option.map_eq_some_iff] at h
            obtain ⟨rr, hf, h⟩ := h
            obtain ⟨r', g1, g2⟩ := find_sound hkd hk _ _ 0 _ h3 hf
            have hfk : (Instr.findKey kt yk es.toList).run C.P w = .ok r' w := by
              simp [Instr.findKey, hd, g1]
            have hset : ∀ o : Obj, (setObj b o).run C.P w = .ok () { w with heap := w.heap.setIfInBounds b o } := by
              intro o; simp [setObj, Sem.run, h2]
            have post : ∀ (kvs' : List (V × V)) (es' : Array MapEntry) (cl' : Nat), (∀ M1 w1, Ext B0 M M1 w w1 → RelKV M1 w1 kvs' es'.toList) →
                Post B0 N W p M M σ (σ.set r (.map st' kvs')) c w { w with heap := w.heap.setIfInBounds b (.map es' cl') } := by
              intro kvs' es' cl' hrel
              refine Post.write hs ho r _ _ st' b n hσ rfl rfl h1 hWr (by simp) (fun k hk => setObj_heap b k _ hk) ⟨rfl, rfl, rfl, by simp, fun k hk => setObj_heap b k _ (by omega)⟩ (fun hE => ?_)
              intro b' n' hm'
              rw [h1] at hm'; cases hm'
              obtain ⟨q1, q2⟩ := hrel M _ hE
              exact ⟨es', cl', setObj_self b _ hbl.1, by simpa using q1, fun j k v hj => by
                obtain ⟨e, a1, a2, a3⟩ := q2 j k v hj
                exact ⟨e, by simpa using a1, a2, a3⟩⟩
            rcases g2 with ⟨rfl, rfl⟩ | ⟨i, v, u, k', e, rfl, rfl, q3, q4, q5, q6, q7, q8, q9⟩
            · simp at h; subst h
              refine ⟨_, ?_, post (kvs ++ [(k, x)]) (es.push { key := yk, val := yx, born := cl }) (cl + 1) (fun M1 w1 hE => ⟨by simp; have := h3.1; simpa using this, fun j k2 v2 hj => ?_⟩)⟩
              · simp [Instr.mapUpdate, run_under (shape_map hsh), run_getMap h2, hck, hfk, hset]
              · rcases snoc_get hj with ⟨hl, hj⟩ | ⟨hjl, hq⟩
                · obtain ⟨e, a1, a2, a3⟩ := h3.2 j k2 v2 hj
                  exact ⟨e, by rw [Array.toList_push, List.getElem?_append_left (by rw [h3.1]; exact hl)]; exact a1, a2.mono hE, a3.mono hE⟩
                · cases hq
                  exact ⟨{ key := yk, val := yx, born := cl }, by rw [hjl, Array.toList_push, ← h3.1]; simp, hk.mono hE, hx.mono hE⟩
            · simp at h; subst h
              simp only [Nat.sub_zero] at q5 q6 q9
              refine ⟨_, ?_, post (kvs.set i (k, x)) (es.modify i fun e => { e with key := yk, val := yx }) cl (fun M1 w1 hE => ⟨by simp; have := h3.1; simpa using this, fun j k2 v2 hj => ?_⟩)⟩
              · have hbits := sameBits_refl q8 hk q7 ⟨d, hkd⟩
                have hek : ((es[i]?).map (·.key)).getD yk = e.key := by
                  have : es[i]? = some e := by simpa using q6
                  simp [this]
                simp [Instr.mapUpdate, run_under (shape_map hsh), run_getMap h2, hck, hfk, hek, Instr.keyThatStays, hbits, hset]
              · by_cases hji : j = i
                · subst hji
                  rw [List.getElem?_set_self q9] at hj
                  cases hj
                  refine ⟨{ e with key := yk, val := yx }, ?_, hk.mono hE, hx.mono hE⟩
                  have : es[j]? = some e := by simpa using q6
                  simp [this]
                · rw [List.getElem?_set_ne (Ne.symm hji)] at hj
                  obtain ⟨e2, a1, a2, a3⟩ := h3.2 j k2 v2 hj
                  refine ⟨e2, ?_, a2.mono hE, a3.mono hE⟩
                  have : es[j]? = some e2 := by simpa using a1
                  simp [this, Ne.symm hji]
          · simp at h
        · simp at h
      · simp at h
    · simp at h
  · simp at h
end
end Go.Am
