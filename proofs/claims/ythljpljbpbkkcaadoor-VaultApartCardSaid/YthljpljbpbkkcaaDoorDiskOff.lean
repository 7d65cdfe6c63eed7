/-
  Layer 2's disk: the power fails.
-/
import Derived.Test.YthljpljbpbkkcaaDoorDiskFiles
import Derived.Test.YthljpljbpbkkcaaDoorDiskSpecE
set_option linter.unusedVariables false
set_option linter.unusedSimpArgs false
set_option maxRecDepth 4000
namespace Go.Proofs.YthljpljbpbkkcaaDoor
open Go.Sl Go.RowKit

def cutF (keep : Int) (x : DF) : DF := { x with bs := x.bs.take (keptOf keep (x.bs, x.safe)), safe := keptOf keep (x.bs, x.safe) }
instance memDec (n : ByteArray) (ns : List ByteArray) : Decidable (n ∈ ns) := decidable_of_iff (ns.any (fun k => decide (k = n)) = true) (by simp)
def cutL (keep : Int) (ns : List ByteArray) (l : List DF) : List DF := l.map fun (x : DF) => if x.name ∈ ns then cutF keep x else x
theorem ents_cut (keep : Int) (ns : List ByteArray) (l : List DF) : ents (cutL keep ns l) = ents l := by
  unfold ents cutL
  rw [List.map_map]
  apply List.map_congr_left
  intro x _
  simp only [Function.comp]
  split <;> rfl
theorem disk_off_off {w0 : World} {A : List HProp} {d : Nat} {st : DSt} {keep : Int} (ho : st.off = true) :
    Fun Tryd.prog w0 69 [.pointer (some ⟨d, 0, none⟩), .int .i64 keep] (pdisk d st :: A) (Ret w0 (fun _ : Unit => True) (fun _ => .tuple #[]) (fun _ => pdisk d st :: A)) := by
  refine Fun.ex (fun w h => pdisk_open h) ?_
  rintro ⟨m, l⟩ hl
  dsimp only at hl ⊢
  refine Fun.enter Tryd.func69 rfl Tryd.ntmps69 rfl ?_
  refine WC.seq <| ?_
  refine WC.cut0 [(14, .bool true)] [(0, .pointer _), (1, .int _ _)] (cel d (dcells m st) 60 :: mp .string m (ents l) :: pfiles l :: A) ⟨rfl, rfl, trivial⟩ ?_ fun ρh => ?_
  · -- disk.go:140
    exact WC.region <| sv (vmP rfl) <| sv (vpeqF Tryd.underlying31 rfl rfl) <| sv (vmB rfl) <| svg rfl (vmP rfl) <| svg rfl (vnil rfl) <| svg rfl (vfld fl60f1 rfl) <| svg rfl (vldc pl4 rfl) <| sv (vpkf rfl) <| WL.nil <| WX.mid () trivial ⟨(by rw [ho]; rfl), trivial⟩ ⟨rfl, rfl, trivial⟩ (fun _ h => h)
  refine WC.tt rfl ?_
  exact WC.ret <| WX.thenR <| WX.ret0 rfl (()) (trivial) rfl (fun w h => pdisk_mk hl h)
theorem cutL_at {keep : Int} {ns : List ByteArray} {l : List DF} {j : Nat} {x : DF} (h : l[j]? = some x) (hn : x.name ∉ ns) : (cutL keep ns l)[j]? = some x := by
  simp [cutL, h, hn]
theorem cutL_set {keep : Int} {ns : List ByteArray} {l : List DF} {j : Nat} {x : DF} (hnd : (l.map (·.name)).Nodup) (h : l[j]? = some x) : cutL keep (x.name :: ns) l = (cutL keep ns l).set j (cutF keep x) := by
  apply List.ext_getElem?
  intro i
  unfold cutL
  rw [List.getElem?_set, List.getElem?_map, List.getElem?_map]
  by_cases hij : j = i
  · subst hij
    have hl : j < l.length := (List.getElem?_eq_some_iff.1 h).1
    have hx : l[j] = x := (List.getElem?_eq_some_iff.1 h).2
    simp [h, hl, hx]
  · simp only [hij, if_false]
    cases hi : l[i]? with
    | none => rfl
    | some y =>
      have hne : y.name ≠ x.name := fun he => hij (by
        have g1 : (l.map (·.name))[j]? = some x.name := by simp [h]
        have g2 : (l.map (·.name))[i]? = some x.name := by simp [hi, he]
        exact (List.getElem?_inj (by simpa using (List.getElem?_eq_some_iff.1 h).1) hnd).1 (g1.trans g2.symm))
      simp [hne]
theorem cutL_all {keep : Int} {ns ms : List ByteArray} {l : List DF} (h : ∀ x ∈ l, (x.name ∈ ns ↔ x.name ∈ ms)) : cutL keep ns l = cutL keep ms l := by
  unfold cutL
  apply List.map_congr_left
  intro x hx
  simp only [h x hx]
theorem sub_len {α : Type} {ns l : List α} (hn : ns.Nodup) (hs : ∀ n ∈ ns, n ∈ l) : ns.length ≤ l.length := hn.length_le_of_subset hs
theorem cutL_len {keep : Int} {ns : List ByteArray} {l : List DF} : (cutL keep ns l).length = l.length := by simp [cutL]
theorem cutL_nil {keep : Int} {l : List DF} : cutL keep [] l = l := by simp [cutL]
theorem disk_off_on {w0 : World} {A : List HProp} {d m : Nat} {st : DSt} {keep : Int} {l : List DF} (ho : st.off = false) (hok : ∀ x ∈ l, x.safe ≤ x.bs.length ∧ x.bs.length ≤ 16777216) (hnd : (l.map (·.name)).Nodup) :
    Fun Tryd.prog w0 69 [.pointer (some ⟨d, 0, none⟩), .int .i64 keep] (cel d (dcells m st) 60 :: mp .string m (ents l) :: pfiles l :: A)
      (Ret w0 (fun _ : Unit => True) (fun _ => .tuple #[]) (fun _ => cel d (dcells m { st with off := true }) 60 :: mp .string m (ents l) :: pfiles (cutL keep (l.map (·.name)) l) :: A)) := by
  refine Fun.enter Tryd.func69 rfl Tryd.ntmps69 rfl ?_
  refine WC.seq <| ?_
  refine WC.cut0 [(14, .bool false)] [(0, .pointer _), (1, .int _ _)] (cel d (dcells m st) 60 :: mp .string m (ents l) :: pfiles l :: A) ⟨rfl, rfl, trivial⟩ ?_ fun ρh => ?_
  · -- disk.go:140
    exact WC.region <| sv (vmP rfl) <| sv (vpeqF Tryd.underlying31 rfl rfl) <| sv (vmB rfl) <| svg rfl (vmP rfl) <| svg rfl (vnil rfl) <| svg rfl (vfld fl60f1 rfl) <| svg rfl (vldc pl4 rfl) <| sv (vpkf rfl) <| WL.nil <| WX.mid () trivial ⟨(by rw [ho]; rfl), trivial⟩ ⟨rfl, rfl, trivial⟩ (fun _ h => h)
  refine WC.ff rfl ?_
  refine WC.skip <| WX.thenN <| WC.seq <| WC.region <| sv (vmP rfl) <| sv (vnil rfl) <| sv (vfld fl60f1 rfl) <| stc (v := .bool _) pl4 sz4 rfl rfl rfl <| WL.nil <| WX.thenN <| WC.seq <| WC.region <| sv (vmP rfl) <| sv (vnil rfl) <| sv (vfld fl60f0 rfl) <| sv (vldc pl58 rfl) <| pm (fun _ h => h.pk1) <| rgm Tryd.underlying58 rfl fun it5 => WL.nil <| WX.thenN <| WC.block <| ?_
  refine WC.loop (ι := List ByteArray) (fun i => []) [(1, .int _ _), (22, _)] (fun i => mr .string m (ents l) it5 (i.map Value.string) :: cel d (dcells m { st with off := true }) 60 :: pfiles (cutL keep i l) :: A) (fun i => i.Nodup ∧ ∀ n ∈ i, n ∈ l.map (·.name)) (fun i => l.length - i.length) ([]) (⟨by simp, by simp⟩) trivial ⟨rfl, rfl, trivial⟩ (fun w h => by rw [cutL_nil]; exact h) ?_
  intro ns hns ρh
  refine WC.seq <| WC.region <| nxm rfl (fun k6 v6 hk6 hv6 => ?_) (fun hall6 => ?_)
  ·
    obtain ⟨x, hx, hxe⟩ := List.mem_map.1 hk6
    cases hxe
    obtain ⟨j, hj⟩ := List.mem_iff_getElem?.1 hx
    have hxn : x.name ∉ ns := fun h => hv6 (List.mem_map.2 ⟨_, h, rfl⟩)
    have hxok := hok x hx
    have hcj := cutL_at (keep := keep) hj hxn
    refine WL.ex (fun w h => pfile_open (pfiles_out hcj h.pk2)) ?_
    rintro ⟨base, c⟩ hc
    dsimp only at hc ⊢
    have hK : (x.safe : Int) + min (max keep 0) ((x.bs.length : Int) - (x.safe : Int)) = (keptOf keep (x.bs, x.safe) : Int) := by unfold keptOf; dsimp only; omega
    have hKl : keptOf keep (x.bs, x.safe) ≤ x.bs.length := by unfold keptOf; dsimp only; omega
    refine sv (vex rfl rfl) <| WL.nil <| WX.thenN <| WC.seq <| ?_
    refine WC.tt rfl ?_
    refine WC.skip <| WX.thenN <| WC.block <| WC.seq <| WC.region <| pm (fun _ h => h.pk3) <| sv (ven rfl hk6) <| sv (vex rfl rfl) <| sv (vaP rfl) <| WL.nil <| WX.thenN <| WC.seq <| WC.draws rfl (by kernel_rfl) <| qv (vmP rfl) <| qv (vnil rfl) <| qv (vfld fl96f1 rfl) <| qv (vldc pl3 rfl) <| qv (vmI rfl) <| qv (vmax rfl rfl) <| qv (vmP rfl) <| qv (vnil rfl) <| qv (vfld fl96f0 rfl) <| qv (vldc pl25 rfl) <| qv (vlen Tryd.underlying25 rfl) <| qv (vmP rfl) <| qv (vnil rfl) <| qv (vfld fl96f1 rfl) <| qv (vldc pl3 rfl) <| qv (vsub rfl rfl (by omega)) <| qv (vmin rfl rfl) <| qv (vadd rfl rfl (by omega)) <| qv (vaI rfl) <| WQ.nil <| WX.thenN <| WC.seq <| WC.region <| sv (vmP rfl) <| sv (vmP rfl) <| sv (vnil rfl) <| sv (vfld fl96f0 rfl) <| sv (vldc pl25 rfl) <| sv (vmI rfl) <| sv (vmI rfl) <| sv (vslHM Tryd.underlying25 sz5 rfl rfl rfl (by omega) (by omega) (by omega)) <| sv (vnil rfl) <| sv (vfld fl96f0 rfl) <| pm (fun _ h => h.pk1) <| stc (v := .slice _ _ _) pl25 sz25 rfl rfl rfl <| WL.nil <| WX.thenN <| WC.region <| sv (vmP rfl) <| sv (vmI rfl) <| sv (vnil rfl) <| sv (vfld fl96f1 rfl) <| stc (v := .int _ _) pl3 sz3 rfl rfl rfl <| WL.nil <| WX.blockN <| WX.again (x.name :: ns) (⟨List.nodup_cons.2 ⟨hxn, hns.1⟩, fun n hn => by rcases List.mem_cons.1 hn with rfl | hn; exact List.mem_map.2 ⟨_, hx, rfl⟩; exact hns.2 n hn⟩) (by have := sub_len (List.nodup_cons.2 ⟨hxn, hns.1⟩) (l := l.map (·.name)) (fun n hn => by rcases List.mem_cons.1 hn with rfl | hn; exact List.mem_map.2 ⟨_, hx, rfl⟩; exact hns.2 n hn); simp at this; simp; omega) trivial ⟨rfl, rfl, trivial⟩ (fun w h => ?_)
    rw [cutL_set hnd hj]
    rw [hK] at h
    have h1 := h.pk2.row_cut (k := keptOf keep (x.bs, x.safe)) (by omega) (by rw [u8s_length]; omega)
    have hbl : (x.bs.take (keptOf keep (x.bs, x.safe))).length = keptOf keep (x.bs, x.safe) := by rw [List.length_take]; omega
    rw [Int.toNat_natCast, Nat.mul_one, u8s_take] at h1
    have h2 := h1.pk1
    have h3 := pfile_mk (bs := x.bs.take (keptOf keep (x.bs, x.safe))) (base := base) (c := keptOf keep (x.bs, x.safe)) (by omega) (by rw [hbl]; exact h2)
    exact (pfiles_set hcj (y := cutF keep x) (h3.pk2.pk1)).pk2.pk2
  ·
    refine sv (vex rfl rfl) <| WL.nil <| WX.thenN <| WC.seq <| ?_
    refine WC.ff rfl ?_
    refine WC.exit <| WX.thenE <| WX.thenE <| WX.blockH <| WX.end0 rfl (()) (trivial) rfl (fun w h => ?_)
    have h2 := h.mr_mp.pk1
    rw [cutL_all (ms := ns) fun x hx => ⟨fun _ => by have := hall6 _ (List.mem_map.2 ⟨x, hx, rfl⟩); simpa using this, fun _ => List.mem_map.2 ⟨x, hx, rfl⟩⟩]
    exact h2
theorem look_cut {keep : Int} {k : ByteArray} {l : List DF} : lookL (l.map (cutF keep)) k = (lookL l k).map (offV keep) := by
  induction l with
  | nil => rfl
  | cons z l ih =>
    simp only [List.map_cons, lookL]
    rw [ih]
    show (if z.name = k then _ else _) = _
    split <;> rfl
theorem cutL_map {keep : Int} {l : List DF} : cutL keep (l.map (·.name)) l = l.map (cutF keep) := by
  unfold cutL
  apply List.map_congr_left
  intro x hx
  rw [if_pos (List.mem_map.2 ⟨x, hx, rfl⟩)]
theorem Rep.offm {keep : Int} {l : List DF} {st : DSt} (h : Rep l st) (ho : st.off = false) : Rep (cutL keep (l.map (·.name)) l) (offS keep st) := by
  rw [cutL_map]
  have ho' : ¬ st.off = true := by rw [ho]; decide
  unfold offS
  rw [if_neg ho']
  refine ⟨?_, fun k => ?_, fun z hz => ?_, h.fuse⟩
  · rw [List.map_map]; exact h.nodup
  · rw [look_cut, h.look]
  · obtain ⟨x, hx, rfl⟩ := List.mem_map.1 hz
    have := h.ok x hx
    simp only [cutF, keptOf, List.length_take]
    omega
theorem disk_off {w0 : World} {A : List HProp} {d m : Nat} {st : DSt} {keep : Int} {l : List DF} (hr : Rep l st) :
    Fun Tryd.prog w0 69 [.pointer (some ⟨d, 0, none⟩), .int .i64 keep] (cel d (dcells m st) 60 :: mp .string m (ents l) :: pfiles l :: A) (Ret w0 (fun _ : Unit => True) (fun _ => .tuple #[]) (fun _ => pdisk d (offS keep st) :: A)) := by
  cases ho : st.off with
  | true =>
    have he : offS keep st = st := by unfold offS; rw [if_pos ho]
    rw [he]
    exact (disk_off_off (A := A) ho).perm fun w h => pdisk_mk hr h
  | false =>
    refine (disk_off_on ho hr.ok hr.nodup).mono fun e w ⟨i, hi, he, hO⟩ => ⟨i, hi, he, ?_⟩
    have hs : ({ st with off := true } : DSt).off = (offS keep st).off ∧ (offS keep st).fuse = st.fuse ∧ (offS keep st).keep = st.keep ∧ (offS keep st).deeds = st.deeds := by
      unfold offS; rw [ho]; exact ⟨rfl, rfl, rfl, rfl⟩
    refine pdisk_mk (m := m) (hr.offm ho) ?_
    rw [ents_cut]
    unfold dcells at hO ⊢
    rw [← hs.1, hs.2.1, hs.2.2.1, hs.2.2.2]
    exact hO
end Go.Proofs.YthljpljbpbkkcaaDoor
