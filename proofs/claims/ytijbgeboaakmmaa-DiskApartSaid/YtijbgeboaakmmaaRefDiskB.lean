/-
  Layer 2's reference: deeds, the power.
-/
import Derived.Test.YtijbgeboaakmmaaRefDiskA
set_option linter.unusedVariables false
set_option linter.unusedSimpArgs false
set_option maxRecDepth 4000
namespace Go.Proofs.Ytijbgeboaakmmaa
open Go.Sl Go.RowKit

theorem ref_deed {w0 : World} {R : List HProp} {r c n : Nat} {base : Option Addr} {st : DSt} (hu : 0 ≤ st.fuse ∧ st.fuse ≤ 9223372036854775807) (hd : 0 ≤ st.deeds ∧ st.deeds + 1 ≤ 9223372036854775807) :
    Fun Try.prog w0 45 [.pointer (some ⟨r, 0, none⟩)] (cel r (rcells base n c st) 45 :: R)
      (Ret w0 (fun _ : Unit => True) (fun _ => .bool (decide (st.fuse - 1 = 0))) (fun _ => cel r (rcells base n c { st with deeds := st.deeds + 1, fuse := max (st.fuse - 1) 0 }) 45 :: R)) := by
  refine Fun.enter Try.func45 rfl Try.ntmps45 rfl ?_
  refine WC.seq <| WC.region <| sv (vaB rfl) <| WL.nil <| WX.thenN <| WC.seq <| WC.region <| sv (vmP rfl) <| sv (vnil rfl) <| sv (vfld fl45f4 rfl) <| sv (vldc pl3 rfl) <| sv (vadd rfl rfl (by omega)) <| sv (vnil rfl) <| sv (vfld fl45f4 rfl) <| stc (v := .int _ _) pl3 sz3 rfl rfl rfl <| WL.nil <| WX.thenN <| WC.seq <| WC.seq <| WC.region <| sv (vmP rfl) <| sv (vnil rfl) <| sv (vfld fl45f2 rfl) <| sv (vldc pl3 rfl) <| sv (vgt rfl rfl) <| WL.nil <| WX.thenN <| ?_
  refine WC.ite rfl (fun h1 => ?_) (fun h1 => ?_)
  · -- then
    have e : max (st.fuse - 1) 0 = st.fuse - 1 := by omega
    rw [e]
    exact WC.seq <| WC.region <| sv (vmP rfl) <| sv (vnil rfl) <| sv (vfld fl45f2 rfl) <| sv (vldc pl3 rfl) <| sv (vsub rfl rfl (by omega)) <| sv (vnil rfl) <| sv (vfld fl45f2 rfl) <| stc (v := .int _ _) pl3 sz3 rfl rfl rfl <| WL.nil <| WX.thenN <| WC.seq <| WC.region <| sv (vmP rfl) <| sv (vnil rfl) <| sv (vfld fl45f2 rfl) <| sv (vldc pl3 rfl) <| sv (veq rfl rfl) <| sv (vaB rfl) <| WL.nil <| WX.thenN <| WC.ret <| WX.thenR <| WX.ret1 rfl (()) (trivial) rfl (fun _ h => h)
  · -- else
    have e : max (st.fuse - 1) 0 = st.fuse := by omega
    rw [e]
    exact WC.skip <| WX.thenN <| WC.seq <| WC.region <| sv (vaB rfl) <| WL.nil <| WX.thenN <| WC.ret <| WX.ret1 rfl (()) (trivial) (bF (by omega)) (fun _ h => h)
theorem ref_arm {w0 : World} {A : List HProp} {r N : Nat} {st : DSt} {x k : Int} (hx : x ≤ 9223372036854775807) :
    Fun Try.prog w0 36 [.pointer (some ⟨r, 0, none⟩), .int .i64 x, .int .i64 k] (rdisk r N st :: A) (Ret w0 (fun _ : Unit => True) (fun _ => .tuple #[]) (fun _ => rdisk r N { st with fuse := max x 0, keep := k } :: A)) := by
  refine Fun.ex (fun w h => rdisk_open h) ?_
  rintro ⟨base, c, l⟩ ⟨hl, hc⟩
  dsimp only at hl hc ⊢
  refine Fun.enter Try.func36 rfl Try.ntmps36 rfl ?_
  exact WC.seq <| WC.region <| sv (vmP rfl) <| sv (vmI rfl) <| sv (vmax rfl rfl) <| sv (vnil rfl) <| sv (vfld fl45f2 rfl) <| stc (v := .int _ _) pl3 sz3 rfl rfl rfl <| WL.nil <| WX.thenN <| WC.region <| sv (vmP rfl) <| sv (vmI rfl) <| sv (vnil rfl) <| sv (vfld fl45f3 rfl) <| stc (v := .int _ _) pl3 sz3 rfl rfl rfl <| WL.nil <| WX.end0 rfl (()) (trivial) rfl (fun w h => rdisk_mk (hl.same rfl (by dsimp only; omega)) hc h)
def cutR (keep : Int) (x : RF) : RF := ⟨x.name, ⟨x.b.base, x.b.xs.take (keptOf keep (x.b.xs, x.safe)), x.b.cap⟩, keptOf keep (x.b.xs, x.safe)⟩
def cutI (keep : Int) (i : Nat) (l : List RF) : List RF := (l.take i).map (cutR keep) ++ l.drop i
theorem cutI_zero {keep : Int} {l : List RF} : cutI keep 0 l = l := by simp [cutI]
theorem cutI_length {keep : Int} {i : Nat} {l : List RF} : (cutI keep i l).length = l.length := by simp [cutI]; omega
theorem cutI_all {keep : Int} {l : List RF} : cutI keep l.length l = l.map (cutR keep) := by simp [cutI]
theorem cutI_at {keep : Int} {i : Nat} {l : List RF} {x : RF} (h : l[i]? = some x) : (cutI keep i l)[i]? = some x := by
  have hi := (List.getElem?_eq_some_iff.1 h).1
  have hl : ((l.take i).map (cutR keep)).length = i := by simp; omega
  unfold cutI
  rw [List.getElem?_append_right (by omega), hl, Nat.sub_self, List.getElem?_drop]
  simpa using h
theorem cutI_set {keep : Int} {i : Nat} {l : List RF} {x : RF} (h : l[i]? = some x) : (cutI keep i l).set i (cutR keep x) = cutI keep (i + 1) l := by
  have hi := (List.getElem?_eq_some_iff.1 h).1
  have hx : l[i] = x := (List.getElem?_eq_some_iff.1 h).2
  have hl : ((l.take i).map (cutR keep)).length = i := by simp; omega
  unfold cutI
  rw [List.take_succ_eq_append_getElem hi, List.map_append, List.set_append_right _ _ (by omega), hl, Nat.sub_self, List.drop_eq_getElem_cons hi, List.set_cons_zero, hx]
  simp
theorem fcells_set : ∀ {l : List RF} {i : Nat} {x y : RF}, l[i]? = some x → y.name = x.name → fcells (l.set i y) = ((fcells l).set (i * 3 + 1) (.slice y.b.base y.b.xs.length y.b.cap)).set (i * 3 + 2) (.int .i64 y.safe)
  | [], _, _, _, h, _ => by simp at h
  | z :: l, 0, x, y, h, hn => by
    simp at h; subst h
    have e1 : fcells (y :: l) = [.string y.name, .slice y.b.base y.b.xs.length y.b.cap, .int .i64 y.safe] ++ fcells l := rfl
    have e2 : fcells (z :: l) = [.string z.name, .slice z.b.base z.b.xs.length z.b.cap, .int .i64 z.safe] ++ fcells l := rfl
    rw [List.set_cons_zero, e1, e2, hn]
    rfl
  | z :: l, i + 1, x, y, h, hn => by
    have ih := fcells_set (l := l) (i := i) (x := x) (y := y) (by simpa using h) hn
    have e1 : ∀ m : List RF, fcells (z :: m) = [.string z.name, .slice z.b.base z.b.xs.length z.b.cap, .int .i64 z.safe] ++ fcells m := fun _ => rfl
    rw [List.set_cons_succ, e1, e1, ih]
    rw [List.set_append_right _ _ (by simp; omega), List.set_append_right _ _ (by simp; omega)]
    congr 2
    · congr 1
      simp; omega
    · simp; omega
theorem row_take {w0 w : World} {A : List HProp} {base : Option Addr} {c s : Nat} {e : TypeId} {vs : List Value} (k : Nat) (H : Own w0 (row base c s e vs :: A) w) : Own w0 (row base c s e (vs.take k) :: A) w := H.row_prefix (List.take_prefix _ _)
theorem row_len {w0 w : World} {A : List HProp} {base : Option Addr} {c s n : Nat} {e : TypeId} {vs : List Value} (H : Own w0 (row base c s e vs :: A) w) (hn : n ≤ c) : n ≤ maxLen := Nat.le_trans hn (row_le H).2
theorem rows_take {w0 w : World} {e : TypeId} (k : Nat) : ∀ {l : List (Sla UInt8)} {i : Nat} {x : Sla UInt8} {A : List HProp}, l[i]? = some x → Own w0 (rows e l :: A) w → Own w0 (rows e (l.set i ⟨x.base, x.xs.take k, x.cap⟩) :: A) w
  | [], _, _, _, h, _ => by simp at h
  | y :: l, 0, x, A, h, H => by
    simp at h; subst h
    have h1 := row_take k H.star
    rw [u8s_take] at h1
    exact h1.intro_star
  | y :: l, i + 1, x, A, h, H => by
    have h1 := H.star.pk1
    exact (rows_take k (l := l) (by simpa using h) h1).pk1.intro_star
theorem lookR_cut {keep : Int} {k : ByteArray} {l : List RF} : lookR (l.map (cutR keep)) k = (lookR l k).map (offV keep) := by
  induction l with
  | nil => rfl
  | cons z l ih =>
    simp only [List.map_cons, lookR]
    rw [ih]
    show (if z.name = k then _ else _) = _
    split <;> rfl
theorem RRep.offm {keep : Int} {l : List RF} {st : DSt} (h : RRep l st) (ho : st.off = false) : RRep (l.map (cutR keep)) (offS keep st) := by
  have ho' : ¬ st.off = true := by rw [ho]; decide
  unfold offS
  rw [if_neg ho']
  refine ⟨?_, fun k => ?_, fun z hz => ?_, h.fuse⟩
  · rw [List.map_map]; exact h.sorted
  · rw [lookR_cut, h.look]
  · obtain ⟨x, hx, rfl⟩ := List.mem_map.1 hz
    have := h.ok x hx
    simp only [cutR, keptOf, List.length_take]
    omega
theorem ref_off_off {w0 : World} {A : List HProp} {r N : Nat} {st : DSt} {keep : Int} (ho : st.off = true) :
    Fun Try.prog w0 37 [.pointer (some ⟨r, 0, none⟩), .int .i64 keep] (rdisk r N st :: A) (Ret w0 (fun _ : Unit => True) (fun _ => .tuple #[]) (fun _ => rdisk r N st :: A)) := by
  refine Fun.ex (fun w h => rdisk_open h) ?_
  rintro ⟨base, c, l⟩ ⟨hl, hc⟩
  dsimp only at hl hc ⊢
  obtain ⟨files, off, fuse, keep0, deeds⟩ := st
  obtain rfl : off = true := ho
  refine Fun.enter Try.func37 rfl Try.ntmps37 rfl ?_
  refine WC.seq <| WC.seq <| WC.region <| sv (vaI rfl) <| WL.nil <| WX.thenN <| WC.block <| ?_
  refine WC.loop (ι := Nat) (fun i => [(4, .int .i64 i)]) [(0, .pointer _), (1, .int _ _)] (fun i => cel r (rcells base l.length c ⟨files, true, fuse, keep0, deeds⟩) 45 :: row base c 3 51 (fcells l) :: rows 5 (l.map (·.b)) :: A) (fun i => i = 0) (fun i => 0) (0) (rfl) ⟨rfl, trivial⟩ ⟨rfl, rfl, trivial⟩ (fun _ h => h) ?_
  intro i hi ρh
  refine WC.seq <| ?_
  refine WC.cut0 [(19, .bool false)] [(0, .pointer _), (1, .int _ _), (4, .int _ _)] (cel r (rcells base l.length c ⟨files, true, fuse, keep0, deeds⟩) 45 :: row base c 3 51 (fcells l) :: rows 5 (l.map (·.b)) :: A) ⟨rfl, rfl, rfl, trivial⟩ ?_ fun ρh => ?_
  · -- ref.go:154
    refine WC.region <| sv (vmI rfl) <| sv (vmP rfl) <| sv (vnil rfl) <| sv (vfld fl45f0 rfl) <| sv (vldc pl43 rfl) <| sv (vlen Try.underlying43 rfl) <| svs (vlt rfl rfl) (fun q1 => ?_) (fun q1 => ?_)
    ·
      exact sv (vmB rfl) <| svg rfl (vmP rfl) <| svg rfl (vnil rfl) <| svg rfl (vfld fl45f1 rfl) <| svg rfl (vldc pl4 rfl) <| svg rfl (vnot rfl) <| sv (vpkt rfl) <| WL.nil <| WX.mid () trivial ⟨rfl, trivial⟩ ⟨rfl, rfl, rfl, trivial⟩ (fun _ h => h)
    ·
      exact sv (vmB rfl) <| sng rfl <| sng rfl <| sng rfl <| sng rfl <| sng rfl <| sv (vpkf rfl) <| WL.nil <| WX.mid () trivial ⟨rfl, trivial⟩ ⟨rfl, rfl, rfl, trivial⟩ (fun _ h => h)
  refine WC.ff rfl ?_
  exact WC.exit <| WX.thenE <| WX.thenE <| WX.blockH <| WX.thenN <| WC.region <| sv (vmP rfl) <| sv (vnil rfl) <| sv (vfld fl45f1 rfl) <| stc (v := .bool _) pl4 sz4 rfl rfl rfl <| WL.nil <| WX.end0 rfl (()) (trivial) rfl (fun w h => rdisk_mk hl hc h)
theorem ref_off_on {w0 : World} {A : List HProp} {r N : Nat} {st : DSt} {keep : Int} (ho : st.off = false) :
    Fun Try.prog w0 37 [.pointer (some ⟨r, 0, none⟩), .int .i64 keep] (rdisk r N st :: A) (Ret w0 (fun _ : Unit => True) (fun _ => .tuple #[]) (fun _ => rdisk r N (offS keep st) :: A)) := by
  refine Fun.ex (fun w h => rdisk_open h) ?_
  rintro ⟨base, c, l⟩ ⟨hl, hc⟩
  dsimp only at hl hc ⊢
  obtain ⟨files, off, fuse, keep0, deeds⟩ := st
  obtain rfl : off = false := ho
  refine Fun.known (p := l.length ≤ maxLen) (fun w h => row_len h.pk1 hc.1) fun hlen => ?_
  simp only [maxLen] at hlen
  refine Fun.enter Try.func37 rfl Try.ntmps37 rfl ?_
  refine WC.seq <| WC.seq <| WC.region <| sv (vaI rfl) <| WL.nil <| WX.thenN <| WC.block <| ?_
  refine WC.loop (ι := Nat) (fun i => [(4, .int .i64 i)]) [(0, .pointer _), (1, .int _ _)] (fun i => cel r (rcells base l.length c ⟨files, false, fuse, keep0, deeds⟩) 45 :: row base c 3 51 (fcells (cutI keep i l)) :: rows 5 ((cutI keep i l).map (·.b)) :: A) (fun i => i ≤ l.length) (fun i => l.length - i) (0) (by omega) ⟨rfl, trivial⟩ ⟨rfl, rfl, trivial⟩ (fun w h => by rw [cutI_zero]; exact h) ?_
  intro i hi ρh
  refine WC.seq <| ?_
  refine WC.cut0 [(19, .bool (decide ((i : Int) < l.length)))] [(0, .pointer _), (1, .int _ _), (4, .int _ _)] (cel r (rcells base l.length c ⟨files, false, fuse, keep0, deeds⟩) 45 :: row base c 3 51 (fcells (cutI keep i l)) :: rows 5 ((cutI keep i l).map (·.b)) :: A) ⟨rfl, rfl, rfl, trivial⟩ ?_ fun ρh => ?_
  · -- ref.go:154
    refine WC.region <| sv (vmI rfl) <| sv (vmP rfl) <| sv (vnil rfl) <| sv (vfld fl45f0 rfl) <| sv (vldc pl43 rfl) <| sv (vlen Try.underlying43 rfl) <| svs (vlt rfl rfl) (fun q1 => ?_) (fun q1 => ?_)
    ·
      exact sv (vmB rfl) <| svg rfl (vmP rfl) <| svg rfl (vnil rfl) <| svg rfl (vfld fl45f1 rfl) <| svg rfl (vldc pl4 rfl) <| svg rfl (vnot rfl) <| sv (vpkt rfl) <| WL.nil <| WX.mid () trivial ⟨bT (by omega), trivial⟩ ⟨rfl, rfl, rfl, trivial⟩ (fun _ h => h)
    ·
      exact sv (vmB rfl) <| sng rfl <| sng rfl <| sng rfl <| sng rfl <| sng rfl <| sv (vpkf rfl) <| WL.nil <| WX.mid () trivial ⟨bF (by first | omega | simp_all | grind), trivial⟩ ⟨rfl, rfl, rfl, trivial⟩ (fun _ h => h)
  refine WC.ite rfl (fun h1 => ?_) (fun h1 => ?_)
  · -- then
    obtain ⟨x, hx⟩ : ∃ x, l[i]? = some x := ⟨_, List.getElem?_eq_getElem (by omega)⟩
    have hcx := cutI_at (keep := keep) hx
    have hml := cutI_length (keep := keep) (i := i) (l := l)
    have hfl := fcells_length (cutI keep i l)
    have hpos : 0 < (fcells (cutI keep i l)).length := by omega
    have hf1 := fc1 hcx
    have hf2 := fc2 hcx
    have hok := hl.ok x (List.mem_of_getElem? hx)
    obtain ⟨K, hKd⟩ : ∃ K, K = keptOf keep (x.b.xs, x.safe) := ⟨_, rfl⟩
    have hK : (x.safe : Int) + min (max keep 0) ((x.b.xs.length : Int) - (x.safe : Int)) = (K : Int) := by rw [hKd]; unfold keptOf; dsimp only; omega
    have hKl : K ≤ x.b.xs.length := by rw [hKd]; unfold keptOf; dsimp only; omega
    have hst : ((i : Int)).toNat * 3 + 1 < (fcells (cutI keep i l)).length := by omega
    have hstb : ((i : Int)).toNat * 3 + 2 < ((fcells (cutI keep i l)).set (((i : Int)).toNat * 3 + 1) (.slice x.b.base ((K : Int)).toNat x.b.cap)).length := by rw [List.length_set]; omega
    have hf1b : ((fcells (cutI keep i l)).set (((i : Int)).toNat * 3 + 1) (.slice x.b.base ((K : Int)).toNat x.b.cap))[((i : Int)).toNat * 3 + 1]? = some (.slice x.b.base ((K : Int)).toNat x.b.cap) := by rw [List.getElem?_set_self hst]
    refine WC.known (fun w h => row_some hpos h.pk1) fun hb => ?_
    have hbb := hb
    refine WC.skip <| WX.thenN <| WC.seq <| WC.block <| WC.seq <| WC.region <| sv (vmP rfl) <| sv (vnil rfl) <| sv (vfld fl45f0 rfl) <| sv (vldc pl43 rfl) <| sv (vmI rfl) <| sv (vix Try.underlying43 sz51 rfl rfl (by omega) (by omega) reads (hpos)) <| sv (vaP rfl) <| WL.nil <| WX.thenN <| WC.seq <| WC.plan (.bar [0, 1, 2, 3, 4, 5, 6, 7, 8, 9, 10, 11, 12, 13, 14, 15, 16, 17, 18, 19, 20, 21, 22, 23, 24, 25] 26 (.done [])) rfl (by kernel_rfl) <| WPl.bar (trivial) <| dv (fun g => (vmP rfl)) <| dv (fun g => (vmP rfl)) <| dv (fun g => (vnilr (hb) rfl)) <| dv (fun g => (vfldr (hb) fl51f1 rfl)) <| dv (fun g => (vldo pl27 rfl reads (hf1))) <| dv (fun g => (vmP rfl)) <| dv (fun g => (vnilr (hb) rfl)) <| dv (fun g => (vfldr (hb) fl51f2 rfl)) <| dv (fun g => (vldo pl3 rfl reads (hf2))) <| dv (fun g => (vmI rfl)) <| dv (fun g => (vmax rfl rfl)) <| dv (fun g => (vmP rfl)) <| dv (fun g => (vnilr (hb) rfl)) <| dv (fun g => (vfldr (hb) fl51f1 rfl)) <| dv (fun g => (vldo pl27 rfl reads (hf1))) <| dv (fun g => (vlen Try.underlying27 rfl)) <| dv (fun g => (vmP rfl)) <| dv (fun g => (vnilr (hb) rfl)) <| dv (fun g => (vfldr (hb) fl51f2 rfl)) <| dv (fun g => (vldo pl3 rfl reads (hf2))) <| dv (fun g => (vsub rfl rfl (by omega))) <| dv (fun g => (vmin rfl rfl)) <| dv (fun g => (vw (vadd rfl rfl (by omega)) (iv hK))) <| dv (fun g => (vslH Try.underlying27 sz5 rfl rfl (by omega) (by omega))) <| dv (fun g => (vnilr (hb) rfl)) <| dv (fun g => (vfldr (hb) fl51f1 rfl)) <| WD.eff rfl <| pm (fun _ h => h.pk1) <| str (v := .slice _ _ _) pl27 sz27 rfl rfl rfl (hst) <| WL.nil <| WX.brT <| WPl.fin (trivial) <| WD.nil <| WX.thenN <| WC.region <| sv (vmP rfl) <| sv (vmP rfl) <| sv (vnilr (hbb) rfl) <| sv (vfldr (hbb) fl51f1 rfl) <| sv (vldo pl27 rfl reads (hf1b)) <| sv (vlen Try.underlying27 rfl) <| sv (vnilr (hbb) rfl) <| sv (vfldr (hbb) fl51f2 rfl) <| str (v := .int _ _) pl3 sz3 rfl rfl rfl (hstb) <| WL.nil <| WX.blockN <| WX.thenN <| WC.region <| sv (vmI rfl) <| sv (vadd rfl rfl (by omega)) <| sv (vaI rfl) <| WL.nil <| WX.again (i + 1) (by omega) (by omega) ⟨rfl, trivial⟩ ⟨rfl, rfl, trivial⟩ (fun w h => ?_)
    have hc2 : cutR keep x = ⟨x.name, ⟨x.b.base, x.b.xs.take K, x.b.cap⟩, K⟩ := by rw [hKd]; rfl
    rw [← cutI_set hx, hc2, fcells_set (y := ⟨x.name, ⟨x.b.base, x.b.xs.take K, x.b.cap⟩, K⟩) hcx rfl, List.map_set]
    have ht : (x.b.xs.take K).length = K := by rw [List.length_take]; omega
    dsimp only
    rw [ht]
    rw [Int.toNat_natCast, Int.toNat_natCast] at h
    exact (rows_take K (x := x.b) (by rw [List.getElem?_map, hcx]; rfl) h.pk2).pk2.pk2.pk1
  · -- else
    have hil : i = l.length := by omega
    subst hil
    refine WC.exit <| WX.thenE <| WX.thenE <| WX.blockH <| WX.thenN <| WC.region <| sv (vmP rfl) <| sv (vnil rfl) <| sv (vfld fl45f1 rfl) <| stc (v := .bool _) pl4 sz4 rfl rfl rfl <| WL.nil <| WX.end0 rfl (()) (trivial) rfl (fun w h => ?_)
    rw [cutI_all] at h
    exact rdisk_mk (hl.offm rfl) (by rw [List.length_map]; exact hc) (by rw [List.length_map]; exact h)
end Go.Proofs.Ytijbgeboaakmmaa
