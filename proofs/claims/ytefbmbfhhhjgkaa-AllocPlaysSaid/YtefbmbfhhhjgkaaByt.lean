/- Bytes in memory: what every layer's walks lean on. -/
import Derived.Test.YtefbmbfhhhjgkaaDrs
import Derived.WalkSpells
import Derived.Lib.SlBytesConst
import Derived.Laws.CopyOwn
namespace Go.Proofs.Ytefbmbfhhhjgkaa
open Go.RowKit
def bv (b : UInt8) : Value := .int .u8 (b.toNat : Int)
def bvs (xs : List UInt8) : List Value := xs.map bv
theorem bvs_append (a b : List UInt8) : bvs (a ++ b) = bvs a ++ bvs b := List.map_append
theorem bvs_length (a : List UInt8) : (bvs a).length = a.length := List.length_map _
theorem bvs_one (a : List UInt8) : ∀ u ∈ bvs a, u.oneCell' = true := by
  intro u hu
  obtain ⟨b, _, rfl⟩ := List.mem_map.1 hu
  rfl
def b8 (n : Int) : UInt8 := UInt8.ofNat (n % 256).toNat
def le16 (n : Int) : List UInt8 := [b8 n, b8 (n / 256)]
def le32 (n : Int) : List UInt8 := [b8 n, b8 (n / 256), b8 (n / 65536), b8 (n / 16777216)]
theorem bv_b8 (n : Int) : bv (b8 n) = .int .u8 (n % 256) := by
  unfold bv b8
  congr 1
  simp
  omega

theorem Try.info_u8 : (Try.prog.info? 5).map (fun i => (i.zero, i.size, i.bytes)) = some (some (.int .u8 0), 1, 1) := by kernel_rfl

/-- A row of bytes that is the call's own. -/
def Own8 (w : World) (v : Value) (xs : List UInt8) : Prop := w.ownsRow 0 5 1 v xs.length (bvs xs)

theorem Own8.lt {w : World} {v : Value} {xs : List UInt8} (h : Own8 w v xs) : ∀ k, v.ownBlock = some k → k < w.heap.size := fun k hk => (World.ownsRow.lt h k hk).2
theorem Own8.ne {w : World} {v : Value} {xs : List UInt8} (h : Own8 w v xs) {g t : Nat} {cs : Array Value} (hb : Blk w g t cs) (ht : 5 ≠ t) : v.ownBlock ≠ some g := by
  rcases h.2 with ⟨rfl, _⟩ | ⟨g', cap, cur, rfl, _, hg, _⟩
  · simp [Value.ownBlock]
  · intro e
    have e : g' = g := by simpa [Value.ownBlock] using e
    subst e
    exact Blk.ne_ (t := 5) hg hb ht rfl
theorem Own8.shape {w : World} {v : Value} {xs : List UInt8} (h : Own8 w v xs) : ∃ A c, v = .slice A xs.length c := by
  rcases h.2 with ⟨rfl, hn⟩ | ⟨g', cap, cur, rfl, _, hg, _⟩
  · exact ⟨none, 0, by rw [hn]⟩
  · exact ⟨_, _, rfl⟩

theorem rd_new (w : World) (us : List Value) (t : TypeId) (n : Nat) (hn : n = us.length) : Rd (w.alloc (.cells us.toArray t)) (.slice (some ⟨w.heap.size, 0, none⟩) n n) us := by
  subst hn
  refine ⟨_, _, rfl, Nat.le_refl _, fun _ => ⟨_, rfl, fun j u hu => ?_⟩⟩
  rw [addr_add_at, (Blk.new w t us.toArray).cell, Nat.zero_add]
  simpa using hu
theorem own_ne {w : World} {base e size n : Nat} {v : Value} {xs : List Value} (h : w.ownsRow base e size v n xs) {g t : Nat} {cs : Array Value} (hb : Blk w g t cs) (ht : e ≠ t) : v.ownBlock ≠ some g := by
  rcases h.2 with ⟨rfl, _⟩ | ⟨g', cap, cur, rfl, _, hg, _⟩
  · simp [Value.ownBlock]
  · intro x
    have x : g' = g := by simpa [Value.ownBlock] using x
    subst x
    exact Blk.ne_ (t := e) hg hb ht rfl
theorem rd_take {w : World} {A : Option Addr} {c m n : Nat} {bs : List UInt8} (h : Rd w (.slice A m c) (bvs bs)) (hn : n ≤ bs.length) : Rd w (.slice A n n) (bvs (bs.take n)) := by
  obtain ⟨A', c', e, hl, hr⟩ := h
  injection e with e1 e2 e3
  subst e1
  refine ⟨A, n, ?_, ?_, fun hne => ?_⟩
  · rw [bvs_length, List.length_take, Nat.min_eq_left hn]
  · rw [bvs_length, List.length_take]; omega
  · obtain ⟨ad, rfl, hc⟩ := hr (fun e => hne (by rw [bvs, List.map_take, ← bvs, e, List.take_nil]))
    refine ⟨ad, rfl, fun j u hu => hc j u ?_⟩
    rw [bvs, List.map_take, List.getElem?_take] at hu
    split at hu
    · exact hu
    · cases hu
def ByOut (w : World) (us : List UInt8) (e : Ending) (w' : World) : Prop := ∃ r, e = .returned r ∧ Own8 w' r us ∧ Below w.heap.size w w' ∧ (∀ k, r.ownBlock = some k → w.heap.size ≤ k)
theorem Rd.shape8 {w : World} {x : Value} {bs : List UInt8} (h : Rd w x (bvs bs)) : ∃ A c, x = .slice A bs.length c := by
  obtain ⟨A, c, rfl, _⟩ := h
  exact ⟨A, c, by rw [bvs_length]⟩
theorem ByOut.nil (w : World) (A : Option Addr) : ByOut w [] (.returned (.slice none 0 0)) w :=
  ⟨_, rfl, World.ownsRow_nil _ _ _ _, Below.refl _ _, fun k hk => by simp [Value.ownBlock] at hk⟩
set_option maxRecDepth 10000 in
set_option maxHeartbeats 400000 in
theorem Clone8_calls (w : World) (x : Value) (us : List UInt8) (hx : Rd w x (bvs us)) (hl : us.length ≤ 1000000000) :
    Calls Try.prog 70 #[x] w (ByOut w us) := by
  obtain ⟨i0, hi, hz0, hz1, hz2⟩ := info_parts Try.info_u8
  have hx0 := hx
  obtain ⟨A, c, rfl, hc, hr⟩ := hx
  have he : ∀ W : World, (binOp .eql 63 (.slice A (bvs us).length c) (.slice none 0 0)).run Try.prog W = .ok (.bool A.isNone) W := fun W => Lib.run_eql_slice_nil (P := Try.prog) W 63 5 A (bvs us).length c 0 0 Try.underlying63
  rcases A with _ | ad
  · have hu : us = [] := by
      by_cases hu : us = []
      · exact hu
      · obtain ⟨ad, h, _⟩ := hr (by simpa [bvs] using hu)
        cases h
    subst hu
    simp only [Option.isNone_none] at he
    go_enter Try.func70, Try.ntmps70
    go_wp2
    go_ret
    exact ByOut.nil w none
  · simp only [Option.isNone_some] at he
    have ho : (w.alloc (.cells #[] 5)).ownsRow 0 5 1 (.slice (some ⟨w.heap.size, 0, none⟩) 0 0) 0 [] := World.ownsRow_made w #[] 0 (Nat.zero_le _) (by unfold maxLen; omega) rfl
    go_enter Try.func70, Try.ntmps70
    go_wp2_with (at_builtin; refine stop_app rfl ?_)
    refine Stop.mk (wpList_app _ rfl rfl Try.underlying63 hi hz0 hz1 hz2 rfl ho rfl (hx0.alloc _) rfl (bvs_one _) ?_ ?_ (Nat.zero_le _) ?_)
    · unfold maxLen; simp [bvs]; omega
    · simp [bvs]; omega
    intro v1 w1 hown hg hat
    go_wp2
    go_ret
    refine ⟨v1, rfl, ?_, ((Below.refl _ _).alloc (Nat.le_refl _) _).grown hg (by simp) (fun k hk => ?_), fun k hk => ?_⟩
    · simpa [Own8, bvs_length] using hown
    · simp [Value.ownBlock] at hk; omega
    · rcases hat with e | e <;> rw [hk] at e <;> simp [Value.ownBlock] at e <;> omega

def str (bs : List UInt8) : Value := .string ⟨bs.toArray⟩
theorem run_str {P : Program} (w : World) (src dst e : TypeId) (v : Value) (bs : List UInt8) (hs : P.underlying src = some (.slice e)) (he : P.underlying e = some (.int .u8)) (hd : P.underlying dst = some .string) (h : Rd w v (bvs bs)) :
    (convert src dst v).run P w = .ok (str bs) w := by
  obtain ⟨A, c, rfl, hl, hr⟩ := h
  rw [run_convert_bytes_string w src dst e _ _ c hs he hd]
  by_cases hb : bs = []
  · subst hb
    rcases A with _ | ad
    · simp [Conv.bytesToString, str]; rfl
    · have hl : (loadCells ad 0).run P w = .ok (([] : List Int).map (Value.int .u8)).toArray w := by simp [loadCells, loadCellsFrom]
      rw [show (bvs []).length = 0 from rfl, run_bytesToString w ad 0 c [] hl]
      simp [str]; rfl
  · obtain ⟨ad, rfl, hc⟩ := hr (by simpa [bvs] using hb)
    have hl : (loadCells ad (bvs bs).length).run P w = .ok ((bs.map fun b => (b.toNat : Int)).map (Value.int .u8)).toArray w := by
      have e : bvs bs = (bs.map fun b => (b.toNat : Int)).map (Value.int .u8) := by simp [bvs, bv]
      have h2 := run_loadCells_list (P := P) w ad (bvs bs) hc
      rw [h2, e]
    rw [run_bytesToString w ad _ c _ hl, foldl_push_bytes]
    simp only [str, List.map_map, Result.ok.injEq, Value.string.injEq, and_true]
    have e2 : (fun n : Int => UInt8.ofNat n.toNat) ∘ (fun b : UInt8 => (b.toNat : Int)) = id := by funext b; simp
    rw [e2, List.map_id]
    simp [ByteArray.empty, ByteArray.emptyWithCapacity]
    rfl

/-- s[k:] as the model has it. -/
theorem rd_drop {w : World} {A : Option Addr} {c m k : Nat} {bs : List UInt8} (h : Rd w (.slice A m c) (bvs bs)) (hk : k ≤ bs.length) :
    Rd w (.slice (if c = k then A else A.map (·.add k)) (bs.length - k) (c - k)) (bvs (bs.drop k)) := by
  obtain ⟨A', c', e, hl, hr⟩ := h
  injection e with e1 e2 e3
  subst e1 e3
  rw [bvs_length] at hl
  refine ⟨_, _, by rw [bvs_length, List.length_drop], by rw [bvs_length, List.length_drop]; omega, fun hne => ?_⟩
  have hlt : k < bs.length := by
    rcases Nat.lt_or_ge k bs.length with h | h
    · exact h
    · exact absurd (by rw [List.drop_eq_nil_of_le h]; rfl) hne
  obtain ⟨ad, rfl, hc⟩ := hr (fun e => by
    have := congrArg List.length e
    rw [bvs_length, List.length_nil] at this
    omega)
  rw [if_neg (by omega)]
  refine ⟨ad.add k, rfl, fun j u hu => ?_⟩
  rw [addr_add_add]
  refine hc _ u ?_
  rw [← hu, bvs, bvs, List.map_drop, List.getElem?_drop]
theorem own_drop (A : Option Addr) (c k m n m' n' : Nat) : (Value.slice (if c = k then A else A.map (·.add k)) m n).ownBlock = (Value.slice A m' n').ownBlock := by
  split
  · cases A <;> rfl
  · cases A with
    | none => rfl
    | some a => simp [Value.ownBlock, addr_add_block]

theorem own_len (A : Option Addr) (m n m' n' : Nat) : (Value.slice A m n).ownBlock = (Value.slice A m' n').ownBlock := by cases A <;> rfl
theorem Rd.at8 {w : World} {x : Value} {bs : List UInt8} (h : Rd w x (bvs bs)) {k : Nat} (hk : k < bs.length) : ∃ ad c, x = .slice (some ad) bs.length c ∧ w.cell? (ad.add k) = some (bv bs[k]) := by
  obtain ⟨ad, c, e, hc⟩ := h.cell (j := k) (by rw [bvs_length]; exact hk)
  exact ⟨ad, c, by rw [e, bvs_length], by rw [hc]; simp [bvs]⟩
theorem rd_takec {w : World} {A : Option Addr} {c m n : Nat} {bs : List UInt8} (h : Rd w (.slice A m c) (bvs bs)) (hn : n ≤ bs.length) : Rd w (.slice A n c) (bvs (bs.take n)) := by
  have hl : bs.length ≤ c := by
    obtain ⟨A', c', e, hl, _⟩ := h
    injection e with _ _ e3
    rw [e3, ← bvs_length bs]; exact hl
  obtain ⟨A', c', e, _, hr⟩ := rd_take h hn
  injection e with e1 e2 e3
  subst e1
  rw [bvs_length] at e2
  exact ⟨A, c, by rw [bvs_length, ← e2], by rw [bvs_length, List.length_take]; omega, hr⟩
theorem Own8.chg {S : Nat → Prop} {w w' : World} {v : Value} {xs : List UInt8} (h : Own8 w v xs) (hb : Chg S w w') (hs : ∀ k, v.ownBlock = some k → ¬ S k) : Own8 w' v xs := by
  rcases h with ⟨h1, h2⟩
  refine ⟨h1, ?_⟩
  rcases h2 with h2 | ⟨g, cap, cur, rfl, hb0, hg, h3⟩
  · exact .inl h2
  · refine .inr ⟨g, cap, cur, rfl, hb0, ?_, h3⟩
    have hlt : g < w.heap.size := by
      rcases Nat.lt_or_ge g w.heap.size with hlt | hge
      · exact hlt
      · rw [Array.getElem?_eq_none hge] at hg; cases hg
    rw [hb.block g hlt (hs g (by simp [Value.ownBlock]))]
    exact hg
theorem rd_cap {w : World} {A : Option Addr} {m c c' : Nat} {us : List Value} (h : Rd w (.slice A m c) us) (hc : m ≤ c') : Rd w (.slice A m c') us := by
  obtain ⟨A1, c1, e, hl, hr⟩ := h
  injection e with e1 e2 e3
  subst e1 e2
  exact ⟨A, c', rfl, hc, hr⟩
theorem rd_at {w : World} {ad : Addr} {n c k : Nat} {us : List Value} {u : Value} (h : Rd w (.slice (some ad) n c) us) (hk : Hid (us[k]? = some u)) : w.cell? (ad.add k) = some u := by
  obtain ⟨A, c', e, hl, hr⟩ := h
  obtain ⟨ad', e1, hc⟩ := hr (by rintro rfl; cases hk.out)
  subst e1
  injection e with e1 _ _
  injection e1 with e1
  subst e1
  exact hc k u hk.out
theorem Rd.far8 {w : World} {v : Value} {bs : List UInt8} (h : Rd w v (bvs bs)) {p : Addr} (hp : bs ≠ [] → v.ownBlock ≠ some p.block) (u : Value) : Rd (w.setCell p u) v (bvs bs) := by
  by_cases hb : bs = []
  · subst hb
    obtain ⟨A, c, rfl⟩ := h.shape8
    exact Rd.nil _ _ _
  · exact h.far (hp hb) u
theorem Rd.chg8 {S : Nat → Prop} {w w' : World} {v : Value} {bs : List UInt8} (h : Rd w v (bvs bs)) (hb : Chg S w w') (hn : bs ≠ [] → ∀ k, v.ownBlock = some k → ¬ S k) : Rd w' v (bvs bs) := by
  by_cases hb0 : bs = []
  · subst hb0
    obtain ⟨A, c, rfl⟩ := h.shape8
    exact Rd.nil _ _ _
  · exact h.chg hb (hn hb0)
theorem Own8.form {w : World} {v : Value} {xs : List UInt8} (h : Own8 w v xs) (hn : 0 < xs.length) : ∃ g cap, v = .slice (some ⟨g, 0, none⟩) xs.length cap := by
  rcases h.2 with ⟨rfl, hn'⟩ | ⟨g', cap, cur, rfl, _, hg, _⟩
  · omega
  · exact ⟨_, _, rfl⟩
theorem Own8.put {w : World} {g n cap : Nat} {xs : List UInt8} (h : Own8 w (.slice (some ⟨g, 0, none⟩) n cap) xs) (hn : n = xs.length) (j : Nat) (b : UInt8) :
    Own8 (w.setCell ⟨g, j, none⟩ (bv b)) (.slice (some ⟨g, 0, none⟩) n cap) (xs.set j b) := by
  subst hn
  have := (World.ownsRow.stored h j (bv b)).1
  unfold Own8
  rw [List.length_set, bvs, List.map_set]
  exact this
end Go.Proofs.Ytefbmbfhhhjgkaa
