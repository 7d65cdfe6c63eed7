/-
  Statements of layer 1 as walks: what was put is read again.
-/
import Derived.Test.YtbmfcfddbcbdgaaPackLawF
import Derived.Test.YtbmfcfddbcbdgaaSlView
set_option linter.unusedVariables false
set_option linter.unusedSimpArgs false
set_option maxRecDepth 4000
namespace Go.Proofs.Ytbmfcfddbcbdgaa
open Go.Sl Go.Pack Go.RowKit

def nums (xs : List Int) : List UInt8 := xs.flatMap num
def txts (ts : List ByteArray) : List UInt8 := ts.flatMap fun s => text s.data.toList
theorem getD_at {α : Type} {l : List α} {k : Nat} {d : α} (h : k < l.length) : l.getD k d = l[k] := by rw [List.getD_eq_getElem?_getD, List.getElem?_eq_getElem h]; rfl
theorem nums_take {xs : List Int} {k : Nat} (h : k < xs.length) : nums (xs.take (k + 1)) = nums (xs.take k) ++ num (xs.getD k 0) := by
  rw [List.take_succ_eq_append_getElem h, nums, List.flatMap_append, getD_at h]; simp [nums]
theorem nums_drop {xs : List Int} {k : Nat} (h : k < xs.length) : nums (xs.drop k) = num (xs.getD k 0) ++ nums (xs.drop (k + 1)) := by
  rw [List.drop_eq_getElem_cons h, nums, List.flatMap_cons, getD_at h]; rfl
theorem txts_take {ts : List ByteArray} {k : Nat} (h : k < ts.length) : txts (ts.take (k + 1)) = txts (ts.take k) ++ text (ts.getD k ByteArray.empty).data.toList := by
  rw [List.take_succ_eq_append_getElem h, txts, List.flatMap_append, getD_at h]; simp [txts]
theorem txts_drop {ts : List ByteArray} {k : Nat} (h : k < ts.length) : txts (ts.drop k) = text (ts.getD k ByteArray.empty).data.toList ++ txts (ts.drop (k + 1)) := by
  rw [List.drop_eq_getElem_cons h, txts, List.flatMap_cons, getD_at h]; rfl
theorem nums_len : ∀ (xs : List Int), (∀ x ∈ xs, -9223372036854775808 ≤ x ∧ x ≤ 9223372036854775807) → xs.length ≤ (nums xs).length ∧ (nums xs).length ≤ 10 * xs.length
  | [], _ => by simp [nums]
  | x :: xs, h => by
    have h1 := nums_len xs fun y hy => h y (by simp [hy])
    have h2 := num_len (h x (by simp))
    have e : nums (x :: xs) = num x ++ nums xs := rfl
    rw [e, List.length_append, List.length_cons]
    omega
theorem text_len {s : List UInt8} (h : s.length ≤ 4096) : (text s).length ≤ 4106 := by
  have := num_len (x := (s.length : Int)) (by omega)
  unfold text; rw [List.length_append]; omega
theorem txts_len : ∀ (ts : List ByteArray), (∀ s ∈ ts, s.size ≤ 4096) → (txts ts).length ≤ 4106 * ts.length
  | [], _ => by simp [txts]
  | s :: ts, h => by
    have h1 := txts_len ts fun y hy => h y (by simp [hy])
    have h2 := text_len (s := s.data.toList) (by simpa using h s (by simp))
    have e : txts (s :: ts) = text s.data.toList ++ txts ts := rfl
    rw [e, List.length_append, List.length_cons]
    omega
theorem rtext_text {s : List UInt8} (h : s.length ≤ 4096) (rest : List UInt8) : rtext (text s ++ rest) = some (s, rest) := by
  unfold rtext text
  rw [List.append_assoc, take_num (by omega)]
  simp
  omega
theorem pnum_at {w0 : World} {A : List HProp} {r : Nat} {x : Int} {rest bs : List UInt8} (hx : -9223372036854775808 ≤ x ∧ x ≤ 9223372036854775807) (hb : bs = num x ++ rest) (hl : bs.length ≤ 140737488355328) :
    Fun Try.prog w0 20 [.pointer (some ⟨r, 0, none⟩)] (preader r bs false :: A) (Ret w0 (fun _ : Unit => True) (fun _ => .int .i64 x) (fun _ => preader r rest false :: A)) := by
  have := pack_rnum (w0 := w0) (A := A) (r := r) (bs := bs) (bad := false) hl
  rw [hb, take_num hx] at this
  rw [hb]
  simpa using this
theorem ptext_at {w0 : World} {A : List HProp} {r : Nat} {s : ByteArray} {rest bs : List UInt8} (hs : s.size ≤ 4096) (hb : bs = text s.data.toList ++ rest) (hl : bs.length ≤ 140737488355328) :
    Fun Try.prog w0 22 [.pointer (some ⟨r, 0, none⟩)] (preader r bs false :: A) (Ret w0 (fun _ : Unit => True) (fun _ => .string s) (fun _ => preader r rest false :: A)) := by
  have := pack_rtext (w0 := w0) (A := A) (r := r) (bs := bs) hl
  rw [hb, rtext_text (by simpa using hs)] at this
  rw [hb]
  exact this
theorem strs_getD {ts : List ByteArray} {i : Nat} (h : i < ts.length) : (strs ts)[((i : Int)).toNat]? = some (.string (ts.getD i ByteArray.empty)) := by
  have : ((i : Int)).toNat = i := by omega
  rw [this, strs_at h, getD_at h]
theorem row_nil_in {w0 w : World} {A : List HProp} {e : TypeId} (h : Own w0 A w) : Own w0 (row none 0 1 e (u8s []) :: A) w := h.intro_row_nil
theorem slw {p : Option Addr} {a b c : Nat} (h : a = b) : Value.slice p a c = .slice p b c := by rw [h]
theorem walk_back {w0 : World} {A : List HProp} {ba bt bb : Option Addr} {ca ct cb : Nat} {xs : List Int} {ts : List ByteArray} {bs : List UInt8} (hX : Reads w0 A ba (i64s xs)) (hT : Reads w0 A bt (strs ts)) (hR : Reads w0 A bb (u8s bs)) (hxs : ∀ x ∈ xs, -9223372036854775808 ≤ x ∧ x ≤ 9223372036854775807) :
    Fun Try.prog w0 8 [.slice ba xs.length ca, .slice bt ts.length ct, .slice bb bs.length cb] A (Ret w0 (fun _ : Unit => True) (fun _ => .bool true) (fun _ => A)) := by
  have hxg : ∀ k, k < xs.length → -9223372036854775808 ≤ xs.getD k 0 ∧ xs.getD k 0 ≤ 9223372036854775807 := fun k h => by rw [getD_at h]; exact hxs _ (List.getElem_mem h)
  have hnl := nums_len xs hxs
  have hnt : ∀ k, (nums (xs.take k)).length ≤ 10 * k := fun k => by
    have := (nums_len (xs.take k) fun x hx => hxs x (List.mem_of_mem_take hx)).2
    simp at this; omega
  refine Fun.enter Try.func8 rfl Try.ntmps8 rfl ?_
  refine WC.seq <| WC.region <| sv (vaB rfl) <| WL.nil <| WX.thenN <| WC.seq <| ?_
  refine WC.cut0 [(26, .bool (decide (200 < xs.length ∨ 200 < ts.length ∨ 4096 < bs.length)))] [(0, .slice _ _ _), (1, .slice _ _ _), (2, .slice _ _ _)] (A) ⟨rfl, rfl, rfl, trivial⟩ ?_ fun ρh => ?_
  · -- law.go:80
    refine WC.region <| sv (vmS rfl) <| sv (vlen Try.underlying36 rfl) <| svs (vgt rfl rfl) (fun q1 => ?_) (fun q1 => ?_)
    ·
      exact sv (vmB rfl) <| sng rfl <| sng rfl <| sng rfl <| sv (vpkt rfl) <| sv (vmB rfl) <| sng rfl <| sng rfl <| sng rfl <| sv (vpkt rfl) <| WL.nil <| WX.mid () trivial ⟨bT (by first | omega | simp_all | grind), trivial⟩ ⟨rfl, rfl, rfl, trivial⟩ (fun _ h => h)
    ·
      refine sv (vmB rfl) <| svg rfl (vmS rfl) <| svg rfl (vlen Try.underlying45 rfl) <| svsg rfl (vgt rfl rfl) (fun q2 => ?_) (fun q2 => ?_)
      ·
        exact sv (vpkf rfl) <| sv (vmB rfl) <| sng rfl <| sng rfl <| sng rfl <| sv (vpkt rfl) <| WL.nil <| WX.mid () trivial ⟨bT (by first | omega | simp_all | grind), trivial⟩ ⟨rfl, rfl, rfl, trivial⟩ (fun _ h => h)
      ·
        exact sv (vpkf rfl) <| sv (vmB rfl) <| svg rfl (vmS rfl) <| svg rfl (vlen Try.underlying22 rfl) <| svg rfl (vgt rfl rfl) <| sv (vpkf rfl) <| WL.nil <| WX.mid () trivial ⟨bI (by first | omega | simp_all | grind), trivial⟩ ⟨rfl, rfl, rfl, trivial⟩ (fun _ h => h)
  refine WC.ite rfl (fun h1 => ?_) (fun h1 => ?_)
  · -- then
    exact WC.seq <| WC.region <| sv (vaB rfl) <| WL.nil <| WX.thenN <| WC.ret <| WX.thenR <| WX.ret1 rfl (()) (trivial) rfl (fun _ h => h)
  · -- else
    refine WC.skip <| WX.thenN <| WC.seq <| WC.region <| sv (vaS rfl) <| WL.nil <| WX.thenN <| WC.seq <| WC.seq <| WC.region <| sv (vaI rfl) <| WL.nil <| WX.thenN <| WC.block <| ?_
    refine WC.loop (ι := Nat × Option Addr × Nat) (fun i => [(7, .slice i.2.1 (nums (xs.take i.1)).length i.2.2), (8, .int .i64 i.1)]) [(0, .slice _ _ _), (1, .slice _ _ _), (2, .slice _ _ _)] (fun i => row i.2.1 i.2.2 1 5 (u8s (nums (xs.take i.1))) :: A) (fun i => i.1 ≤ xs.length) (fun i => xs.length - i.1) ((0, none, 0)) (Nat.zero_le _) ⟨rfl, rfl, trivial⟩ ⟨rfl, rfl, rfl, trivial⟩ (fun w h => row_nil_in h) ?_
    rintro ⟨k, base, c⟩ hk ρh
    dsimp only at hk ⊢
    refine WC.seq <| WC.seq <| WC.region <| sv (vmI rfl) <| sv (vmS rfl) <| sv (vlen Try.underlying36 rfl) <| sv (vlt rfl rfl) <| WL.nil <| WX.thenN <| ?_
    refine WC.ite rfl (fun h2 => ?_) (fun h2 => ?_)
    · -- then
      have hn1 := nums_take (xs := xs) (k := k) (by omega)
      have hb1 := hnt k
      exact WC.skip <| WX.thenN <| WC.seq <| WC.block <| WC.region <| sv (vmS rfl) <| sv (vmS rfl) <| sv (vmI rfl) <| sv (vix1 Try.underlying36 sz3 rfl rfl (by omega) (by omega) reads (by simp; omega)) <| sv (vldr pl3 rfl (i64s_getD (by omega))) <| cl (pack_num (by omega) (hxg k (by omega))) ct15 rfl fun i3 _ => sv (vaS rfl) <| WL.nil <| WX.blockN <| WX.thenN <| WC.region <| sv (vmI rfl) <| sv (vadd rfl rfl (by omega)) <| sv (vaI rfl) <| WL.nil <| WX.again ((k + 1, i3.1, i3.2)) (by dsimp only; omega) (by omega) ⟨slw (by rw [hn1, List.length_append]), rfl, trivial⟩ ⟨rfl, rfl, rfl, trivial⟩ (fun w h => by rw [hn1]; exact h.pk1.tail)
    · -- else
      have hkx : xs.take k = xs := List.take_of_length_le (by omega)
      rw [hkx]
      refine WC.exit <| WX.thenE <| WX.thenE <| WX.blockH <| WX.thenN <| WC.seq <| WC.seq <| WC.region <| sv (vaI rfl) <| WL.nil <| WX.thenN <| WC.block <| ?_
      refine WC.loop (ι := Nat × Option Addr × Nat) (fun i => [(7, .slice i.2.1 (nums xs ++ txts (ts.take i.1)).length i.2.2), (9, .int .i64 i.1)]) [(0, .slice _ _ _), (1, .slice _ _ _), (2, .slice _ _ _)] (fun i => row i.2.1 i.2.2 1 5 (u8s (nums xs ++ txts (ts.take i.1))) :: A) (fun i => i.1 ≤ ts.length ∧ ∀ s ∈ ts.take i.1, s.size ≤ 4096) (fun i => ts.length - i.1) ((0, base, c)) (⟨Nat.zero_le _, by simp⟩) ⟨slw (by simp [txts]), rfl, trivial⟩ ⟨rfl, rfl, rfl, trivial⟩ (fun w h => by simpa [txts] using h) ?_
      rintro ⟨k2, base2, c2⟩ ⟨hk2, hs2⟩ ρh2
      dsimp only at hk2 hs2 ⊢
      have htl := txts_len _ hs2
      rw [List.length_take] at htl
      refine WC.seq <| WC.seq <| WC.region <| sv (vmI rfl) <| sv (vmS rfl) <| sv (vlen Try.underlying45 rfl) <| sv (vlt rfl rfl) <| WL.nil <| WX.thenN <| ?_
      refine WC.ite rfl (fun h3 => ?_) (fun h3 => ?_)
      · -- then
        have ht1 := txts_take (ts := ts) (k := k2) (by omega)
        refine WC.skip <| WX.thenN <| WC.seq <| WC.block <| WC.seq <| WC.seq <| WC.region <| sv (vmS rfl) <| sv (vmI rfl) <| sv (vix1 Try.underlying45 sz9 rfl rfl (by omega) (by omega) reads (by simp; omega)) <| sv (vldr pl9 rfl (strs_getD (by omega))) <| sv (vlens Try.underlying9 rfl) <| sv (vgt rfl rfl) <| WL.nil <| WX.thenN <| ?_
        refine WC.ite rfl (fun h4 => ?_) (fun h4 => ?_)
        · -- then
          exact WC.seq <| WC.region <| sv (vaB rfl) <| WL.nil <| WX.thenN <| WC.ret <| WX.thenR <| WX.blockR <| WX.thenR <| WX.thenR <| WX.blockR <| WX.thenR <| WX.ret1 rfl (()) (trivial) rfl (fun w h => h.suf)
        · -- else
          exact WC.skip <| WX.thenN <| WC.region <| sv (vmS rfl) <| sv (vmS rfl) <| sv (vmI rfl) <| sv (vix1 Try.underlying45 sz9 rfl rfl (by omega) (by omega) reads (by simp; omega)) <| sv (vldr pl9 rfl (strs_getD (by omega))) <| cl (pack_text (bs := nums xs ++ txts (ts.take k2)) (by rw [List.length_append]; omega) (by rw [List.length_append]; omega)) ct16 rfl fun i9 _ => sv (vaS rfl) <| WL.nil <| WX.blockN <| WX.thenN <| WC.region <| sv (vmI rfl) <| sv (vadd rfl rfl (by omega)) <| sv (vaI rfl) <| WL.nil <| WX.again ((k2 + 1, i9.1, i9.2)) (⟨by dsimp only; omega, fun s hs => by rw [List.take_succ_eq_append_getElem (by omega), List.mem_append] at hs; rcases hs with hs | hs; exact hs2 s hs; simp at hs; rw [hs, ← getD_at (d := ByteArray.empty)]; omega⟩) (by omega) ⟨slw (by rw [ht1]; simp only [List.length_append]; omega), rfl, trivial⟩ ⟨rfl, rfl, rfl, trivial⟩ (fun w h => by rw [ht1, ← List.append_assoc]; exact h.pk1.tail)
      · -- else
        have hkt : ts.take k2 = ts := List.take_of_length_le (by omega)
        rw [hkt] at hs2 htl ⊢
        have htg : ∀ k, k < ts.length → (ts.getD k ByteArray.empty).size ≤ 4096 := fun k h => by rw [getD_at h]; exact hs2 _ (List.getElem_mem h)
        refine WC.exit <| WX.thenE <| WX.thenE <| WX.blockH <| WX.thenN <| WC.seq <| WC.region <| sv (vmS rfl) <| sv (vlen Try.underlying22 rfl) <| sv (vaI rfl) <| WL.nil <| WX.thenN <| WC.seq <| WC.region <| sv (vmS rfl) <| sv (vmS rfl) <| apb Try.underlying22 zt5 rfl rfl (by simp) (by simp) reads (by simp; omega) fun base11 c11 hc11 =>cl (pack_new_at (nums xs ++ txts ts ++ bs) reads (by simp; omega) (by simp; omega)) ct19 rfl fun r12 _ => sv (vaP rfl) <| WL.nil <| WX.thenN <| WC.seq <| WC.seq <| WC.region <| sv (vmP rfl) <| sv (vpeqF Try.underlying37 rfl rfl) <| WL.nil <| WX.thenN <| ?_
        refine WC.ff rfl ?_
        refine WC.skip <| WX.thenN <| WC.seq <| WC.seq <| WC.region <| sv (vaI rfl) <| WL.nil <| WX.thenN <| WC.block <| ?_
        refine WC.loop (ι := Nat) (fun i => [(12, .int .i64 i)]) [(0, .slice _ _ _), (1, .slice _ _ _), (2, .slice _ _ _), (10, .int _ _), (11, .pointer _)] (fun i => preader r12 (nums (xs.drop i) ++ (txts ts ++ bs)) false :: A) (fun i => i ≤ xs.length) (fun i => xs.length - i) (0) (Nat.zero_le _) ⟨rfl, trivial⟩ ⟨rfl, rfl, rfl, rfl, rfl, trivial⟩ (fun w h => by simpa using h.pk1.tail) ?_
        intro k3 hk3 ρh3
        refine WC.seq <| WC.seq <| WC.region <| sv (vmI rfl) <| sv (vmS rfl) <| sv (vlen Try.underlying36 rfl) <| sv (vlt rfl rfl) <| WL.nil <| WX.thenN <| ?_
        refine WC.ite rfl (fun h6 => ?_) (fun h6 => ?_)
        · -- then
          have hd3 := nums_drop (xs := xs) (k := k3) (by omega)
          have hl3 : (nums (xs.drop k3)).length ≤ 2000 := by
            have := (nums_len (xs.drop k3) fun x hx => hxs x (List.mem_of_mem_drop hx)).2
            simp at this; omega
          refine WC.skip <| WX.thenN <| WC.seq <| WC.block <| WC.seq <| WC.plan (.one [0, 2, 3, 4, 5] 1 (.done [6])) rfl (by kernel_rfl) <| WPl.one (fun g => g ++ A) ([_]) (fun _ => trivial) (rfl) <| dv (fun g => (vmP rfl)) <| dv (fun g => (vmS rfl)) <| dv (fun g => (vmI rfl)) <| dv (fun g => (vix1 Try.underlying36 sz3 rfl rfl (by omega) (by omega) reads (by simp; omega))) <| dv (fun g => (vldr pl3 rfl (i64s_getD (by omega)))) <| WD.eff rfl <| cl (pnum_at (hxg k3 (by omega)) (by rw [hd3, List.append_assoc]) (by simp; omega)) ct20 rfl fun _ _ => WL.nil <| WX.br <| WPl.fin (⟨[_], rfl⟩) <| dv (fun g => (vF (vne rfl rfl) (by simp))) <| WD.nil <| WX.thenN <| ?_
          refine WC.ff rfl ?_
          exact WC.skip <| WX.blockN <| WX.thenN <| WC.region <| sv (vmI rfl) <| sv (vadd rfl rfl (by omega)) <| sv (vaI rfl) <| WL.nil <| WX.again (k3 + 1) (by omega) (by omega) ⟨rfl, trivial⟩ ⟨rfl, rfl, rfl, rfl, rfl, trivial⟩ (fun _ h => h)
        · -- else
          have hk3x : nums (xs.drop k3) = [] := by rw [List.drop_eq_nil_of_le (by omega)]; rfl
          rw [hk3x, List.nil_append]
          refine WC.exit <| WX.thenE <| WX.thenE <| WX.blockH <| WX.thenN <| WC.seq <| WC.seq <| WC.region <| sv (vaI rfl) <| WL.nil <| WX.thenN <| WC.block <| ?_
          refine WC.loop (ι := Nat) (fun i => [(13, .int .i64 i)]) [(0, .slice _ _ _), (1, .slice _ _ _), (2, .slice _ _ _), (10, .int _ _), (11, .pointer _)] (fun i => preader r12 (txts (ts.drop i) ++ bs) false :: A) (fun i => i ≤ ts.length) (fun i => ts.length - i) (0) (Nat.zero_le _) ⟨rfl, trivial⟩ ⟨rfl, rfl, rfl, rfl, rfl, trivial⟩ (fun w h => by simpa using h) ?_
          intro k4 hk4 ρh4
          refine WC.seq <| WC.seq <| WC.region <| sv (vmI rfl) <| sv (vmS rfl) <| sv (vlen Try.underlying45 rfl) <| sv (vlt rfl rfl) <| WL.nil <| WX.thenN <| ?_
          refine WC.ite rfl (fun h8 => ?_) (fun h8 => ?_)
          · -- then
            have hd4 := txts_drop (ts := ts) (k := k4) (by omega)
            have hl4 : (txts (ts.drop k4)).length ≤ 821200 := by
              have := txts_len (ts.drop k4) fun s hs => hs2 s (List.mem_of_mem_drop hs)
              simp at this; omega
            refine WC.skip <| WX.thenN <| WC.seq <| WC.block <| WC.seq <| WC.plan (.one [0, 2, 3, 4, 5] 1 (.done [6])) rfl (by kernel_rfl) <| WPl.one (fun g => g ++ A) ([_]) (fun _ => trivial) (rfl) <| dv (fun g => (vmP rfl)) <| dv (fun g => (vmS rfl)) <| dv (fun g => (vmI rfl)) <| dv (fun g => (vix1 Try.underlying45 sz9 rfl rfl (by omega) (by omega) reads (by simp; omega))) <| dv (fun g => (vldr pl9 rfl (strs_getD (by omega)))) <| WD.eff rfl <| cl (ptext_at (htg k4 (by omega)) (by rw [hd4, List.append_assoc]) (by simp; omega)) ct22 rfl fun _ _ => WL.nil <| WX.br <| WPl.fin (⟨[_], rfl⟩) <| dv (fun g => (vF (vnes rfl rfl) (by simp))) <| WD.nil <| WX.thenN <| ?_
            refine WC.ff rfl ?_
            exact WC.skip <| WX.blockN <| WX.thenN <| WC.region <| sv (vmI rfl) <| sv (vadd rfl rfl (by omega)) <| sv (vaI rfl) <| WL.nil <| WX.again (k4 + 1) (by omega) (by omega) ⟨rfl, trivial⟩ ⟨rfl, rfl, rfl, rfl, rfl, trivial⟩ (fun _ h => h)
          · -- else
            have hk4x : txts (ts.drop k4) = [] := by rw [List.drop_eq_nil_of_le (by omega)]; rfl
            rw [hk4x, List.nil_append]
            refine WC.exit <| WX.thenE <| WX.thenE <| WX.blockH <| WX.thenN <| ?_
            refine WC.cut0 [(6, .bool true)] [] (A) trivial ?_ fun ρh => ?_
            · -- law.go:108
              exact WC.region <| cl (law_awake) ct13 rfl fun _ _ => sv (vmB rfl) <| svg rfl (vmI rfl) <| svg rfl (vmS rfl) <| svg rfl (vlen Try.underlying36 rfl) <| svg rfl (vT (vge rfl rfl) (by simp; omega)) <| sv (vpkt rfl) <| sv (vmB rfl) <| svg rfl (vmP rfl) <| gy rfl <| cl (pack_left) ct24 rfl fun _ _ => svg rfl (vmS rfl) <| svg rfl (vlen Try.underlying22 rfl) <| svg rfl (vT (veq rfl rfl) (rfl)) <| sv (vpkt rfl) <| sv (vmB rfl) <| svg rfl (vmP rfl) <| gy rfl <| cl (pack_bad) ct26 rfl fun _ _ => svg rfl (vnot rfl) <| sv (vpkt rfl) <| sv (vaB rfl) <| WL.nil <| WX.mid () trivial ⟨rfl, trivial⟩ trivial (fun w h => h.suf)
            exact WC.ret <| WX.ret1 rfl (()) (trivial) rfl (fun _ h => h)
end Go.Proofs.Ytbmfcfddbcbdgaa
