/- Package notary in memory: the map and the list. -/
import Derived.DeepKeys5
import Derived.Test.YtjfmgpelkhgodaaWireF
import Derived.Test.YtjfmgpelkhgodaaClose
namespace Go.Proofs.Ytjfmgpelkhgodaa
open Go.RowKit

/-- A peer and a text. -/
abbrev En := Int × List UInt8
def bstr (l : List UInt8) : Value := .string ⟨l.toArray⟩
def enV (e : En) : Value := .agg #[.int .i64 e.1, bstr e.2]
/-- Such as Go's kinds hold. -/
def En.Wf (e : En) : Prop := (Lit.int .i64 e.1).wf = true ∧ e.2.length ≤ maxLen
def enEntry (e : En) (i : Nat) : MapEntry := { key := enV e, val := .int .u64 (i + 1 : Nat), born := i }
def enEntries (L : List En) : List MapEntry := L.mapIdx fun i e => enEntry e i
theorem enEntries_length (L : List En) : (enEntries L).length = L.length := by simp [enEntries]
theorem enEntries_snoc (L : List En) (e : En) : enEntries (L ++ [e]) = enEntries L ++ [enEntry e L.length] := by simp [enEntries]
theorem enEntries_at (L : List En) (j : Nat) : (enEntries L)[j]? = L[j]?.map fun e => enEntry e j := by simp [enEntries]

theorem en_law : WideMaps.KeyLaw Try.prog 119 := deep_law_gate Try.laidOut (Nat.le_of_ble_eq_true (by kernel_rfl)) (Nat.le_of_ble_eq_true (by kernel_rfl)) (by kernel_rfl) (by kernel_rfl)
theorem enV_inj {a b : En} (h : enV a = enV b) : a = b := by
  obtain ⟨p, t⟩ := a
  obtain ⟨q, s⟩ := b
  simp [enV, bstr] at h
  obtain ⟨rfl, h⟩ := h
  rw [h]
theorem en_key (e : En) (h : e.Wf) : ∃ l, keyOf Try.prog 119 (enV e) = some l := by
  obtain ⟨p, t⟩ := e
  obtain ⟨h1, h2⟩ := h
  simp only at h1 h2
  have h2' : (⟨t.toArray⟩ : ByteArray).size ≤ maxLen := by
    show t.toArray.size ≤ _
    simpa using h2
  have c1 : Try.prog.cellsOf 119 = 2 := by kernel_rfl
  have c2 : Try.prog.cellsOf 3 = 1 := by kernel_rfl
  have c3 : Try.prog.cellsOf 9 = 1 := by kernel_rfl
  have hk : Try.prog.keyType 119 = true := by kernel_rfl
  have hs : Try.prog.types.size = 209 := by kernel_rfl
  have hf : (enV (p, t)).formed Try.prog 119 = true := by
    simp [Value.formed, enV, bstr, Try.underlying119, c1]
  refine ⟨.string (keyBytes [.int .i64 p, .string t]), ?_⟩
  unfold keyOf
  rw [Try.underlying119]
  simp only
  rw [hk, hf, hs]
  have k1 : ∀ d, Try.prog.keyLits (d + 1) 3 [.int .i64 p] = some [.int .i64 p] := by
    intro d
    simp only [Program.keyLits, Try.underlying3]
    simp [h1]
  have k2 : ∀ d, Try.prog.keyLits (d + 1) 9 [.string ⟨t.toArray⟩] = some [.string t] := by
    intro d
    simp only [Program.keyLits, Try.underlying9]
    rw [if_pos h2']
  have k3 : ∀ d, Try.prog.keyLits (d + 1 + 1) 119 [.int .i64 p, .string ⟨t.toArray⟩] = some [.int .i64 p, .string t] := by
    intro d
    simp only [Program.keyLits, Try.underlying119]
    simp [c1, c2, c3, Try.underlying3, Try.underlying9, h1, h2']
  have := k3 208
  simp [enV, bstr, Value.cells, this]

/-- The notary's memory: the blocks N: the notary's own, the map's, the list's. -/
structure NotIn (w : World) (b mb : Nat) (lv : Value) (L : List En) : Prop where
  cells : Cells w b 108 [.map (some mb), lv]
  map : w.heap[mb]? = some (.map (enEntries L).toArray L.length)
  list : w.ownsRow 1 119 2 lv L.length (L.flatMap fun e => [.int .i64 e.1, bstr e.2])
  nb : lv.ownBlock ≠ some b
  nodup : L.Nodup
  wf : ∀ e ∈ L, e.Wf
def NBlocks (b mb : Nat) (lv : Value) : List Nat := b :: mb :: lv.ownBlock.toList

theorem idxOf_of_nodup {L : List En} (hL : L.Nodup) {j : Nat} {e : En} (h : L[j]? = some e) : L.idxOf e = j := by
  induction L generalizing j with
  | nil => simp at h
  | cons a L ih =>
    rw [List.nodup_cons] at hL
    cases j with
    | zero =>
      simp at h
      subst h
      simp
    | succ j =>
      have h' : L[j]? = some e := by simpa using h
      have hm : e ∈ L := List.mem_of_getElem? h'
      have hne : a ≠ e := fun h => hL.1 (h ▸ hm)
      rw [List.idxOf_cons]
      rw [ih hL.2 h', beq_false_of_ne hne]
      rfl

/-- What a look at the notary's map gives. -/
def nlook (L : List En) (e : En) : Value := if e ∈ L then .tuple #[.int .u64 (L.idxOf e + 1 : Nat), .bool true] else .tuple #[.int .u64 0, .bool false]
theorem run_nlook {w : World} {mb c : Nat} {L : List En} (hm : w.heap[mb]? = some (.map (enEntries L).toArray c)) (hL : L.Nodup) (hw : ∀ e ∈ L, e.Wf) (e : En) (he : e.Wf) :
    (Instr.lookup 105 (.map (some mb)) (enV e) true).run Try.prog w = .ok (nlook L e) w := by
  obtain ⟨l, hl⟩ := en_key e he
  have hall : ∀ x ∈ enEntries L, ∃ l, keyOf Try.prog 119 x.key = some l := by
    intro x hx
    obtain ⟨j, hj⟩ := List.getElem?_of_mem hx
    rw [enEntries_at] at hj
    cases hLj : L[j]? with
    | none => rw [hLj] at hj; simp at hj
    | some y =>
      rw [hLj] at hj
      simp at hj
      subst hj
      exact en_key y (hw y (List.mem_of_getElem? hLj))
  have hz : (zeroValue 40).run Try.prog w = .ok (.int .u64 0) w := Try.zeroValue40 w
  rcases en_law.find w hl (enEntries L) hall with ⟨h1, h2⟩ | ⟨j, x, h1, h2, h3⟩
  · have hni : e ∉ L := by
      intro hmem
      obtain ⟨j, hj⟩ := List.getElem?_of_mem hmem
      exact h2 (enEntry e j) (List.mem_of_getElem? (i := j) (by rw [enEntries_at, hj]; rfl)) rfl
    unfold nlook
    rw [if_neg hni]
    simp [Instr.lookup, run_underlying Try.underlying105, MapKept.run_getObj_map hm, en_law.check w _ hl, h1, hz, Result.andThen]
  · rw [enEntries_at] at h2
    cases hLj : L[j]? with
    | none => rw [hLj] at h2; simp at h2
    | some y =>
      rw [hLj] at h2
      simp at h2
      subst h2
      have hye : y = e := enV_inj h3
      subst hye
      have hmem : y ∈ L := List.mem_of_getElem? hLj
      unfold nlook
      rw [if_pos hmem, idxOf_of_nodup hL hLj]
      simp [Instr.lookup, run_underlying Try.underlying105, MapKept.run_getObj_map hm, en_law.check w _ hl, h1, Result.andThen, enEntry]
theorem run_nput {w : World} {mb : Nat} {L : List En} (hm : w.heap[mb]? = some (.map (enEntries L).toArray L.length)) (hw : ∀ e ∈ L, e.Wf) (e : En) (he : e.Wf) (hni : e ∉ L) :
    (Instr.mapUpdate 105 (.map (some mb)) (enV e) (.int .u64 (L.length + 1 : Nat))).run Try.prog w = .ok () (w.putObj mb (.map (enEntries (L ++ [e])).toArray (L.length + 1))) := by
  obtain ⟨l, hl⟩ := en_key e he
  have hall : ∀ x ∈ enEntries L, ∃ l, keyOf Try.prog 119 x.key = some l := by
    intro x hx
    obtain ⟨j, hj⟩ := List.getElem?_of_mem hx
    rw [enEntries_at] at hj
    cases hLj : L[j]? with
    | none => rw [hLj] at hj; simp at hj
    | some y =>
      rw [hLj] at hj
      simp at hj
      subst hj
      exact en_key y (hw y (List.mem_of_getElem? hLj))
  rcases en_law.find w hl (enEntries L) hall with ⟨h1, h2⟩ | ⟨j, x, h1, h2, h3⟩
  · rw [enEntries_snoc]
    simp [Instr.mapUpdate, run_underlying Try.underlying105, MapKept.run_getObj_map hm, en_law.check w _ hl, h1, MapKept.run_setObj_map _ hm, Result.andThen, enEntry, World.putObj]
  · rw [enEntries_at] at h2
    cases hLj : L[j]? with
    | none => rw [hLj] at h2; simp at h2
    | some y =>
      rw [hLj] at h2
      simp at h2
      subst h2
      exact absurd (List.mem_of_getElem? hLj) (by rw [enV_inj h3]; exact hni)

theorem push_all (l : List UInt8) : ∀ acc : ByteArray, (l.map fun c => (c.toNat : Int)).foldl (fun r (n : Int) => r.push (UInt8.ofNat n.toNat)) acc = ⟨acc.data ++ l.toArray⟩ := by
  induction l with
  | nil => intro acc; simp
  | cons c l ih =>
    intro acc
    simp only [List.map_cons, List.foldl_cons]
    rw [ih]
    have h : (acc.push (UInt8.ofNat ((c.toNat : Int)).toNat)).data = acc.data.push c := by
      show acc.data.push _ = _
      simp
    rw [h]
    simp

/-- A row of bytes as a string. -/
theorem run_str {w : World} {v : Value} {l : List UInt8} (h : SlEx w v (u8s l)) : (Conv.bytesToString v).run Try.prog w = .ok (bstr l) w := by
  rcases h with (⟨rfl, hx⟩ | ⟨g, off, cap, rfl, hg, h1, h2, h3⟩) | ⟨ad, rfl, hx⟩
  · have : l = [] := by simpa [u8s] using hx
    subst this
    simp [Conv.bytesToString, bstr]
    rfl
  · rw [u8s_length] at h1 h3 ⊢
    have hl : (loadCells ⟨g, off, none⟩ l.length).run Try.prog w = .ok ((l.map fun c => (c.toNat : Int)).map (Value.int .u8)).toArray w := by
      have := run_loadCells_list (P := Try.prog) (w := w) ⟨g, off, none⟩ (u8s l) (by
        intro j u hj
        have hlt := (List.getElem?_eq_some_iff.1 hj).1
        rw [u8s_length] at hlt
        have e : (⟨g, off, none⟩ : Addr).add j = ⟨g, off + j, none⟩ := by
          unfold Addr.add
          split <;> simp_all
        rw [e, h3 j hlt, hj])
      rw [u8s_length] at this
      rw [this]
      simp [u8s, Function.comp_def]
    rw [run_bytesToString w _ _ _ _ hl]
    congr 1
    unfold bstr
    congr 1
    rw [push_all]
    simp
  · have : l = [] := by simpa [u8s] using hx
    subst this
    have hl : (loadCells ad 0).run Try.prog w = .ok (([] : List Int).map (Value.int .u8)).toArray w := by
      have := run_loadCells_list (P := Try.prog) (w := w) ad [] (by simp)
      simpa using this
    rw [run_bytesToString w _ _ _ _ hl]
    rfl
end Go.Proofs.Ytjfmgpelkhgodaa
