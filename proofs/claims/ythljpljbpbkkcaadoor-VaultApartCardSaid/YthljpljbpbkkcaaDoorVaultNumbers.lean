/-
  Layer 16: the numbers of a flow's checkpoints, sorted.
-/
import Derived.Test.YthljpljbpbkkcaaDoorVaultCalm
import Derived.Test.YthljpljbpbkkcaaDoorSlSort
import Derived.Test.YthljpljbpbkkcaaDoorLayI
set_option linter.unusedVariables false
set_option linter.unusedSimpArgs false
set_option maxRecDepth 4000
namespace Go.Proofs.YthljpljbpbkkcaaDoor
open Go.Sl Go.RowKit Go.Pack Go.Vault Go.Journal

/-- these are the numbers of the flow's checkpoints -/
structure NumsOf (d : VD) (f : ByteArray) (l : List Int) : Prop where
  sorted : l.Pairwise (· < ·)
  mem : ∀ n, n ∈ l ↔ ∃ k, k.flow = f ∧ k.num = n ∧ (d.parts k).isSome = true
theorem lt_uniq : ∀ {l m : List Int}, l.Pairwise (· < ·) → m.Pairwise (· < ·) → (∀ n, n ∈ l ↔ n ∈ m) → l = m
  | [], [], _, _, _ => rfl
  | [], y :: m, _, _, h => by have := (h y).2 List.mem_cons_self; cases this
  | x :: l, [], _, _, h => by have := (h x).1 List.mem_cons_self; cases this
  | x :: l, y :: m, h1, h2, h => by
    rw [List.pairwise_cons] at h1 h2
    have hxy : x = y := by
      have a := (h x).1 List.mem_cons_self
      have b := (h y).2 List.mem_cons_self
      rcases List.mem_cons.1 a with a | a
      · exact a
      · rcases List.mem_cons.1 b with b | b
        · exact b.symm
        · have := h2.1 x a; have := h1.1 y b; omega
    subst hxy
    congr 1
    refine lt_uniq h1.2 h2.2 fun n => ⟨fun hn => ?_, fun hn => ?_⟩
    · rcases List.mem_cons.1 ((h n).1 (List.mem_cons_of_mem _ hn)) with rfl | h'
      · exact absurd (h1.1 n hn) (by omega)
      · exact h'
    · rcases List.mem_cons.1 ((h n).2 (List.mem_cons_of_mem _ hn)) with rfl | h'
      · exact absurd (h2.1 n hn) (by omega)
      · exact h'
theorem NumsOf.uniq {d : VD} {f : ByteArray} {l m : List Int} (h : NumsOf d f l) (k : NumsOf d f m) : l = m := lt_uniq h.sorted k.sorted fun n => (h.mem n).trans (k.mem n).symm
theorem nodup_le : ∀ (N : Nat) (l : List Int), l.Nodup → (∀ x ∈ l, 1 ≤ x ∧ x ≤ N) → l.length ≤ N
  | 0, l, _, h => by
    cases l with
    | nil => exact Nat.le_refl _
    | cons x l => have := h x List.mem_cons_self; omega
  | N + 1, l, hn, h => by
    by_cases hm : ((N + 1 : Nat) : Int) ∈ l
    · have h2 := nodup_le N (l.erase ((N + 1 : Nat) : Int)) (hn.erase _) fun x hx => by
        have hx' := hn.mem_erase_iff.1 hx
        have := h x hx'.2
        have := hx'.1
        omega
      rw [List.length_erase_of_mem hm] at h2
      omega
    · have h2 := nodup_le N l hn fun x hx => by
        have := h x hx
        have : x ≠ ((N + 1 : Nat) : Int) := fun e => hm (e ▸ hx)
        omega
      omega
theorem lt_of_sorted {l : List Int} (h : l.Pairwise (· ≤ ·)) (hn : l.Nodup) : l.Pairwise (· < ·) := by
  induction l with
  | nil => exact List.Pairwise.nil
  | cons x l ih =>
    rw [List.pairwise_cons] at h ⊢
    rw [List.nodup_cons] at hn
    refine ⟨fun y hy => ?_, ih h.2 hn.2⟩
    have := h.1 y hy
    have : x ≠ y := fun e => hn.1 (e ▸ hy)
    omega
/-- every part that is there has a number that counts -/
def Cnt (d : VD) : Prop := ∀ k, (d.parts k).isSome = true → cntP k.num
theorem i64s_getN {xs : List Int} {i : Nat} (h : i < xs.length) : (i64s xs)[((i : Int)).toNat]? = some (.int .i64 (xs.getD i 0)) := by
  have : ((i : Int)).toNat = i := by omega
  rw [this, i64s_at h, List.getD_eq_getElem?_getD, List.getElem?_eq_getElem h]; rfl
theorem getD_mem {xs : List Int} {i : Nat} (h : i < xs.length) : xs.getD i 0 ∈ xs := by
  rw [List.getD_eq_getElem?_getD, List.getElem?_eq_getElem h]; exact List.getElem_mem h
theorem sl_index {w0 : World} {A : List HProp} {base : Option Addr} {xs : List Int} {c : Nat} {v : Int} [hR : Reads w0 A base (i64s xs)] (hl : xs.length ≤ 140737488351232) : Fun Tryd.prog w0 44 [.slice base xs.length c, .int .i64 v] A (Ret w0 (fun i : Int => 0 ≤ i ↔ v ∈ xs) (fun i => .int .i64 i) (fun _ => A)) := by
  refine Fun.enter Tryd.func44 rfl Tryd.ntmps44 rfl ?_
  refine WC.seq <| WC.region <| sv (vaI rfl) <| WL.nil <| WX.thenN <| WC.seq <| WC.seq <| WC.region <| sv (vmS rfl) <| sv (vlen Tryd.underlying41 rfl) <| sv (vmI rfl) <| WL.nil <| WX.thenN <| WC.block <| ?_
  refine WC.loopS (ι := Nat) (fun i => [(8, .int .i64 i)]) [(0, .slice _ _ _), (1, .int _ _), (7, .int _ _)] (fun i => i ≤ xs.length ∧ ∀ j, j < i → xs.getD j 0 ≠ v) (fun i => xs.length - i) (0) (⟨Nat.zero_le _, fun j h => by omega⟩) ⟨rfl, trivial⟩ ⟨rfl, rfl, rfl, trivial⟩ ?_
  intro i hi ρh
  refine WC.seq <| WC.region <| sv (vlt rfl rfl) <| WL.nil <| WX.thenN <| WC.seq <| ?_
  refine WC.ite rfl (fun h1 => ?_) (fun h1 => ?_)
  · -- then
    refine WC.skip <| WX.thenN <| WC.seq <| WC.block <| WC.seq <| WC.region <| sv (vmI rfl) <| sv (vaI rfl) <| WL.nil <| WX.thenN <| WC.seq <| WC.region <| sv (vmI rfl) <| sv (vmS rfl) <| sv (vmI rfl) <| sv (vix1 Tryd.underlying41 sz3 rfl rfl (by omega) (by omega) hR.rd (by rw [i64s_length]; omega)) <| sv (vldr pl3 rfl (i64s_getN (by omega))) <| sv (veq rfl rfl) <| WL.nil <| WX.thenN <| ?_
    refine WC.ite rfl (fun h2 => ?_) (fun h2 => ?_)
    · -- then
      exact WC.seq <| WC.region <| sv (vmI rfl) <| sv (vaI rfl) <| WL.nil <| WX.thenN <| WC.ret <| WX.blockR <| WX.thenR <| WX.thenR <| WX.blockR <| WX.thenR <| WX.ret1 rfl ((i : Int)) (⟨fun _ => by rw [h2]; exact getD_mem (by omega), fun _ => by omega⟩) rfl (fun _ h => Sb.own (by repeat' (first | with_reducible exact Sb.all | exact Sb.nil | (apply Sb.cons; focus (first | ((repeat (first | with_reducible exact Tk.here | with_reducible apply Tk.there)); done) | ((repeat (first | exact Tk.here | apply Tk.there)); done))) | apply Sb.drop)) h)
    · -- else
      exact WC.skip <| WX.blockN <| WX.thenN <| WC.region <| sv (vadd rfl rfl (by omega)) <| sv (vmI rfl) <| WL.nil <| WX.again (i + 1) (⟨by omega, fun j hj => by by_cases hji : j = i; rw [hji]; exact fun e => h2 e.symm; exact hi.2 j (by omega)⟩) (by omega) ⟨rfl, trivial⟩ ⟨rfl, rfl, rfl, trivial⟩ (fun _ h => Sb.own (by repeat' (first | with_reducible exact Sb.all | exact Sb.nil | (apply Sb.cons; focus (first | ((repeat (first | with_reducible exact Tk.here | with_reducible apply Tk.there)); done) | ((repeat (first | exact Tk.here | apply Tk.there)); done))) | apply Sb.drop)) h)
  · -- else
    refine WC.exit <| WX.thenE <| WX.thenE <| WX.blockH <| WX.thenN <| WC.seq <| WC.region <| sv (vaI rfl) <| WL.nil <| WX.thenN <| WC.ret <| WX.ret1 rfl ((-1 : Int)) (⟨fun h => absurd h (by decide), fun h => by obtain ⟨j, hj, e⟩ := List.mem_iff_getElem.1 h; exact absurd (by rw [List.getD_eq_getElem?_getD, List.getElem?_eq_getElem hj]; exact e) (hi.2 j (by omega))⟩) rfl (fun _ h => Sb.own (by repeat' (first | with_reducible exact Sb.all | exact Sb.nil | (apply Sb.cons; focus (first | ((repeat (first | with_reducible exact Tk.here | with_reducible apply Tk.there)); done) | ((repeat (first | exact Tk.here | apply Tk.there)); done))) | apply Sb.drop)) h)
theorem sl_contains {w0 : World} {A : List HProp} {base : Option Addr} {xs : List Int} {c : Nat} {v : Int} [hR : Reads w0 A base (i64s xs)] (hl : xs.length ≤ 140737488351232) : Fun Tryd.prog w0 29 [.slice base xs.length c, .int .i64 v] A (Ret w0 (fun _ : Unit => True) (fun _ => .bool (decide (v ∈ xs))) (fun _ => A)) := by
  refine Fun.enter Tryd.func29 rfl Tryd.ntmps29 rfl ?_
  refine WC.seq <| WC.region <| sv (vaB rfl) <| WL.nil <| WX.thenN <| WC.seq <| WC.region <| sv (vmS rfl) <| sv (vmI rfl) <| clx (by repeat' (first | with_reducible exact Sb.all | exact Sb.nil | (apply Sb.cons; focus (first | ((repeat (first | with_reducible exact Tk.here | with_reducible apply Tk.there)); done) | ((repeat (first | exact Tk.here | apply Tk.there)); done))) | apply Sb.drop)) (sl_index hl) ct44 rfl fun r1 hr1 => ?_
  exact sv (vge rfl rfl) <| sv (vaB rfl) <| WL.nil <| WX.thenN <| WC.ret <| WX.ret1 rfl (()) (trivial) (bI hr1) (fun _ h => Sb.own (by repeat' (first | with_reducible exact Sb.all | exact Sb.nil | (apply Sb.cons; focus (first | ((repeat (first | with_reducible exact Tk.here | with_reducible apply Tk.there)); done) | ((repeat (first | exact Tk.here | apply Tk.there)); done))) | apply Sb.drop)) h)
/-- what was seen while numbers are gathered -/
structure NI where
  vk : List PK
  base : Option Addr
  cap : Nat
  xs : List Int
  last : Option Value
structure NR (l : List (PK × Sla UInt8)) (f : ByteArray) (i : NI) : Prop where
  nd : i.xs.Nodup
  sub : ∀ k ∈ i.vk, ∃ x ∈ l, x.1 = k
  mem : ∀ n, n ∈ i.xs ↔ ∃ k ∈ i.vk, k.flow = f ∧ k.num = n
theorem NR.new {l : List (PK × Sla UInt8)} {f : ByteArray} {last : Option Value} : NR l f ⟨[], none, 0, [], last⟩ :=
  ⟨List.nodup_nil, fun k hk => (by cases hk), fun n => ⟨fun h => (by cases h), fun h => (by obtain ⟨k, hk, _⟩ := h; cases hk)⟩⟩
theorem NR.more {l : List (PK × Sla UInt8)} {f : ByteArray} {vk : List PK} {base b2 : Option Addr} {cap c2 : Nat} {xs : List Int} {last l2 : Option Value} {x : PK × Sla UInt8} (h : NR l f ⟨vk, base, cap, xs, last⟩) (hx : x ∈ l) (hf : x.1.flow = f) (hn : x.1.num ∉ xs) : NR l f ⟨x.1 :: vk, b2, c2, xs ++ [x.1.num], l2⟩ := by
  refine ⟨?_, fun k hk => ?_, fun n => ?_⟩
  · show (xs ++ [x.1.num]).Nodup
    rw [List.nodup_append]
    exact ⟨h.nd, by simp, fun a ha b hb => by rw [List.mem_singleton] at hb; exact fun e => hn (hb ▸ e ▸ ha)⟩
  · rcases List.mem_cons.1 hk with rfl | hk
    · exact ⟨x, hx, rfl⟩
    · exact h.sub k hk
  · show n ∈ xs ++ [x.1.num] ↔ _
    rw [List.mem_append, List.mem_singleton]
    constructor
    · rintro (hm | rfl)
      · obtain ⟨k, hk, h1⟩ := (h.mem n).1 hm; exact ⟨k, List.mem_cons_of_mem _ hk, h1⟩
      · exact ⟨x.1, List.mem_cons_self, hf, rfl⟩
    · rintro ⟨k, hk, h1, h2⟩
      rcases List.mem_cons.1 hk with rfl | hk
      · exact .inr h2.symm
      · exact .inl ((h.mem n).2 ⟨k, hk, h1, h2⟩)
theorem NR.same {l : List (PK × Sla UInt8)} {f : ByteArray} {vk : List PK} {base : Option Addr} {cap : Nat} {xs : List Int} {last l2 : Option Value} {x : PK × Sla UInt8} (h : NR l f ⟨vk, base, cap, xs, last⟩) (hx : x ∈ l) (hn : ¬ (x.1.flow = f ∧ x.1.num ∉ xs)) : NR l f ⟨x.1 :: vk, base, cap, xs, l2⟩ := by
  refine ⟨h.nd, fun k hk => ?_, fun n => ?_⟩
  · rcases List.mem_cons.1 hk with rfl | hk
    · exact ⟨x, hx, rfl⟩
    · exact h.sub k hk
  · refine (h.mem n).trans ⟨fun ⟨k, hk, h1⟩ => ⟨k, List.mem_cons_of_mem _ hk, h1⟩, fun ⟨k, hk, h1, h2⟩ => ?_⟩
    rcases List.mem_cons.1 hk with rfl | hk
    · have : x.1.num ∈ xs := by
        by_cases hm : x.1.num ∈ xs
        · exact hm
        · exact absurd ⟨h1, hm⟩ hn
      obtain ⟨k, hk, h3⟩ := (h.mem _).1 this
      exact ⟨k, hk, h3.1, h3.2.trans h2⟩
    · exact ⟨k, hk, h1, h2⟩
theorem NR.len {d : VD} {mp mf : Nat} {fl : List (ByteArray × Int)} {l : List (PK × Sla UInt8)} {f : ByteArray} {i : NI} (h : NR l f i) (hv : VRep d ⟨mp, mf, l, fl⟩) (hc : Cnt d) : i.xs.length ≤ 1000000000 :=
  nodup_le 1000000000 i.xs h.nd fun n hn => by
    obtain ⟨k, hk, _, rfl⟩ := (h.mem n).1 hn
    obtain ⟨x, hx, rfl⟩ := h.sub k hk
    have := lookP_mem hv.nd hx
    rw [hv.look] at this
    exact hc x.1 (by rw [this]; rfl)
theorem NR.done {d : VD} {mp mf : Nat} {fl : List (ByteArray × Int)} {l : List (PK × Sla UInt8)} {f : ByteArray} {i : NI} (h : NR l f i) (hv : VRep d ⟨mp, mf, l, fl⟩) (hall : ∀ x ∈ l, x.1 ∈ i.vk) : NumsOf d f (sortI i.xs) := by
  refine ⟨lt_of_sorted (sortI_sorted _) ((sortI_perm _).nodup_iff.2 h.nd), fun n => ?_⟩
  rw [(sortI_perm i.xs).mem_iff, h.mem]
  constructor
  · rintro ⟨k, hk, h1, h2⟩
    obtain ⟨x, hx, rfl⟩ := h.sub k hk
    have := lookP_mem hv.nd hx
    rw [hv.look] at this
    exact ⟨x.1, h1, h2, by rw [this]; rfl⟩
  · rintro ⟨k, h1, h2, h3⟩
    obtain ⟨b, hb⟩ := Option.isSome_iff_exists.1 h3
    obtain ⟨j, x, hj, rfl, _⟩ := lookP_some ((hv.look k).trans hb)
    exact ⟨x.1, hall x (List.mem_of_getElem? hj), h1, h2⟩
theorem sl_sort {w0 : World} {R : List HProp} {base : Option Addr} {c : Nat} {xs : List Int} (hl : xs.length ≤ 1099511627776) :
    Fun Tryd.prog w0 30 [.slice base xs.length c] (row base c 1 3 (i64s xs) :: R) (Ret w0 (fun _ : Unit => True) (fun _ => .tuple #[]) (fun _ => row base c 1 3 (i64s (sortI xs)) :: R)) := sort_ints ly_sorti hl
theorem v_numbers {w0 : World} {A : List HProp} {v j : Nat} {dn : Bool} {d : VD} {f : ByteArray} (hc : Cnt d) :
    Fun Tryd.prog w0 16 [.pointer (some ⟨v, 0, none⟩), .string f] (pv v j dn d :: A) (Ret w0 (fun i : Option Addr × Nat × List Int => NumsOf d f i.2.2 ∧ i.2.2.length ≤ 1000000000) (fun i => .slice i.1 i.2.2.length i.2.1) (fun i => row i.1 i.2.1 1 3 (i64s i.2.2) :: pv v j dn d :: A)) := by
  refine Fun.ex (fun w h => pv_open h) ?_
  rintro ⟨mp, mf, l, fl⟩ hi
  dsimp only [vcl]
  refine Fun.enter Tryd.func16 rfl Tryd.ntmps16 rfl ?_
  refine WC.seq <| WC.region <| sv (vaS rfl) <| WL.nil <| WX.thenN <| WC.seq <| WC.seq <| WC.region <| sv (vmP rfl) <| sv (vpeqF Tryd.underlying27 rfl rfl) <| WL.nil <| WX.thenN <| ?_
  refine WC.ff rfl ?_
  refine WC.skip <| WX.thenN <| WC.seq <| WC.region <| sv (vaS rfl) <| WL.nil <| WX.thenN <| WC.seq <| WC.seq <| WC.region <| sv (vmP rfl) <| sv (vnil rfl) <| sv (vfldpz fl56f0 rfl) <| sv (vldc pl53 rfl) <| pm (fun _ h => Sb.own (by repeat' (first | with_reducible exact Sb.all | exact Sb.nil | (apply Sb.cons; focus (first | ((repeat (first | with_reducible exact Tk.here | with_reducible apply Tk.there)); done) | ((repeat (first | exact Tk.here | apply Tk.there)); done))) | apply Sb.drop)) h) <| rgmK Tryd.underlying53 rfl fun it3 =>?_
  refine WL.nil <| WX.thenN <| WC.block <| ?_
  refine WC.loop (ι := NI) (fun i => [(5, .slice i.base i.xs.length i.cap)]) [(1, .string _), (13, _)] (fun i => mrk KP mp (pents l) it3 (i.vk.map pkv) i.last :: row i.base i.cap 1 3 (i64s i.xs) :: cel v [.map (some mp), .map (some mf), .pointer (some ⟨j, 0, none⟩), .bool dn] 56 :: Sl.mp .string mf (fents fl) :: rows 5 (l.map Prod.snd) :: A) (fun i => NR l f i) (fun i => todo i.vk l) (⟨[], none, 0, [], none⟩) (NR.new) ⟨rfl, trivial⟩ ⟨rfl, rfl, trivial⟩ (fun w h => by have h2 := h.intro_row_nil (s := 1) (e := 3); exact Sb.own (by repeat' (first | with_reducible exact Sb.all | exact Sb.nil | (apply Sb.cons; focus (first | ((repeat (first | with_reducible exact Tk.here | with_reducible apply Tk.there)); done) | ((repeat (first | exact Tk.here | apply Tk.there)); done))) | apply Sb.drop)) h2) ?_
  rintro ⟨vk, ob, oc, xs, last⟩ hnr ρh
  have hxl := hnr.len hi hc
  dsimp only at hxl ⊢
  refine WC.seq <| WC.region <| nxmK rfl (fun k4 v4 hk4 hv4 => ?_) (fun hall4 => ?_)
  ·
    obtain ⟨x, hx, he⟩ := List.mem_map.1 hk4
    cases he
    have hxv : x.1 ∉ vk := fun h => hv4 (List.mem_map.2 ⟨x.1, h, rfl⟩)
    refine sv (vex rfl rfl) <| WL.nil <| WX.thenN <| WC.seq <| ?_
    refine WC.tt rfl ?_
    refine WC.skip <| WX.thenN <| WC.block <| WC.seq <| WC.region <| sv (venK rfl hk4) <| sv (vex rfl rfl) <| alz (cs := [.string ByteArray.empty, .int .i64 0, .int .i64 0, .int .i64 0]) zt62 (by rfl) fun b6 => stAp sz62 rfl rfl rfl (by intro v hv; simp only [List.mem_cons, List.not_mem_nil, or_false] at hv; rcases hv with rfl | rfl | rfl | rfl <;> rfl) rfl <| WL.nil <| WX.thenN <| ?_
    refine WC.cutS [(28, .bool (decide (x.1.flow = f ∧ x.1.num ∉ xs)))] [(1, .string _), (5, .slice _ _ _), (6, _), (13, _)] ⟨rfl, rfl, rfl, rfl, trivial⟩ ?_ fun ρh => ?_
    · -- vault.go:187
      refine WC.region <| sv (vfldpz fl62f0 rfl) <| sv (vldc pl9 rfl) <| sv (vmT rfl) <| svs (veqs rfl rfl) (fun q1 => ?_) (fun q1 => ?_)
      ·
        refine sv (vmB rfl) <| svg rfl (vmS rfl) <| svg rfl (vfldp fl62f1 rfl) <| svg rfl (vldc pl3 rfl) <| gy rfl <| clx (by repeat' (first | with_reducible exact Sb.all | exact Sb.nil | (apply Sb.cons; focus (first | ((repeat (first | with_reducible exact Tk.here | with_reducible apply Tk.there)); done) | ((repeat (first | exact Tk.here | apply Tk.there)); done))) | apply Sb.drop)) (sl_contains (by omega)) ct29 rfl fun r10 hr10 => ?_
        exact svg rfl (vnot rfl) <| sv (vpkt rfl) <| WL.nil <| WX.mid () trivial ⟨bB (by simp [q1]), trivial⟩ ⟨rfl, rfl, rfl, rfl, trivial⟩ (fun _ h => Sb.own (by repeat' (first | with_reducible exact Sb.all | exact Sb.nil | (apply Sb.cons; focus (first | ((repeat (first | with_reducible exact Tk.here | with_reducible apply Tk.there)); done) | ((repeat (first | exact Tk.here | apply Tk.there)); done))) | apply Sb.drop)) h)
      ·
        exact sv (vmB rfl) <| sng rfl <| sng rfl <| sng rfl <| sng rfl <| sng rfl <| sv (vpkf rfl) <| WL.nil <| WX.mid () trivial ⟨bF (by first | omega | simp_all | grind), trivial⟩ ⟨rfl, rfl, rfl, rfl, trivial⟩ (fun _ h => Sb.own (by repeat' (first | with_reducible exact Sb.all | exact Sb.nil | (apply Sb.cons; focus (first | ((repeat (first | with_reducible exact Tk.here | with_reducible apply Tk.there)); done) | ((repeat (first | exact Tk.here | apply Tk.there)); done))) | apply Sb.drop)) h)
    refine WC.ite rfl (fun h3 => ?_) (fun h3 => ?_)
    · -- then
      refine WC.region <| sv (vmS rfl) <| sv (vfldp fl62f1 rfl) <| sv (vldc pl3 rfl) <| pm (fun _ h => Sb.own (by repeat' (first | with_reducible exact Sb.all | exact Sb.nil | (apply Sb.cons; focus (first | ((repeat (first | with_reducible exact Tk.here | with_reducible apply Tk.there)); done) | ((repeat (first | exact Tk.here | apply Tk.there)); done))) | apply Sb.drop)) h) <| ap1 (v := .int _ _) (vs := i64s xs) Tryd.underlying41 zt3 rfl (fun _ => rfl) (fun _ => rfl) rfl rfl rfl (by rw [i64s_length]) (by simp only [maxLen]; omega) (by omega) fun _ base13 c13 hc13 => ?_
      exact sv (vaS rfl) <| WL.nil <| WX.blockN <| WX.again (⟨x.1 :: vk, base13, c13, xs ++ [x.1.num], some (pkv x.1)⟩) (hnr.more hx h3.1 h3.2) (todo_visit hx hxv) ⟨(by show Value.slice base13 (xs.length + 1) c13 = .slice base13 (xs ++ [x.1.num]).length c13; rw [List.length_append]; rfl), trivial⟩ ⟨rfl, rfl, trivial⟩ (fun w h => by rw [show i64s (xs ++ [x.1.num]) = i64s xs ++ [.int .i64 x.1.num] by simp [i64s]]; exact Sb.own (by repeat' (first | with_reducible exact Sb.all | exact Sb.nil | (apply Sb.cons; focus (first | ((repeat (first | with_reducible exact Tk.here | with_reducible apply Tk.there)); done) | ((repeat (first | exact Tk.here | apply Tk.there)); done))) | apply Sb.drop)) h)
    · -- else
      exact WC.skip <| WX.blockN <| WX.again (⟨x.1 :: vk, ob, oc, xs, some (pkv x.1)⟩) (hnr.same hx h3) (todo_visit hx hxv) ⟨rfl, trivial⟩ ⟨rfl, rfl, trivial⟩ (fun _ h => Sb.own (by repeat' (first | with_reducible exact Sb.all | exact Sb.nil | (apply Sb.cons; focus (first | ((repeat (first | with_reducible exact Tk.here | with_reducible apply Tk.there)); done) | ((repeat (first | exact Tk.here | apply Tk.there)); done))) | apply Sb.drop)) h)
  ·
    have hall : ∀ x ∈ l, x.1 ∈ vk := fun x hx => by
      obtain ⟨k, hk, e⟩ := List.mem_map.1 (hall4 _ (List.mem_map.2 ⟨x, hx, rfl⟩))
      rw [← pkv_inj e]; exact hk
    refine sv (vex rfl rfl) <| WL.nil <| WX.thenN <| WC.seq <| ?_
    refine WC.ff rfl ?_
    refine WC.exit <| WX.thenE <| WX.thenE <| WX.blockH <| WX.thenN <| WC.seq <| WC.region <| sv (vmS rfl) <| clx (by repeat' (first | with_reducible exact Sb.all | exact Sb.nil | (apply Sb.cons; focus (first | ((repeat (first | with_reducible exact Tk.here | with_reducible apply Tk.there)); done) | ((repeat (first | exact Tk.here | apply Tk.there)); done))) | apply Sb.drop)) (sl_sort (by omega)) ct30 rfl fun r14 hr14 => ?_
    exact WL.nil <| WX.thenN <| WC.seq <| WC.region <| sv (vmS rfl) <| sv (vaS rfl) <| WL.nil <| WX.thenN <| WC.ret <| WX.ret1 rfl ((ob, oc, sortI xs)) (⟨hnr.done hi hall, by rw [(sortI_perm xs).length_eq]; exact hxl⟩) (by show Value.slice ob xs.length oc = .slice ob (sortI xs).length oc; rw [(sortI_perm xs).length_eq]) (fun w h => by have h2 := (Own.sp1 (X1 := mrk KP mp (pents l) it3 (vk.map pkv) last) (by repeat' (first | exact Spl.nil | (apply Spl.cons; focus (first | ((repeat (first | with_reducible exact Tk.here | with_reducible apply Tk.there)); done) | ((repeat (first | exact Tk.here | apply Tk.there)); done))))) h).mrk_mpk; have h3 := pv_mk (v := v) (j := j) (down := dn) hi (Own.sp4 (by repeat' (first | exact Spl.nil | (apply Spl.cons; focus (first | ((repeat (first | with_reducible exact Tk.here | with_reducible apply Tk.there)); done) | ((repeat (first | exact Tk.here | apply Tk.there)); done))))) h2); exact Sb.own (by repeat' (first | with_reducible exact Sb.all | exact Sb.nil | (apply Sb.cons; focus (first | ((repeat (first | with_reducible exact Tk.here | with_reducible apply Tk.there)); done) | ((repeat (first | exact Tk.here | apply Tk.there)); done))) | apply Sb.drop)) h3)
theorem v_numbers_c {w0 : World} {A : List HProp} {v dk m : Nat} {d : VD} {f : ByteArray} (hc : Cnt d) :
    Fun Tryd.prog w0 16 [.pointer (some ⟨v, 0, none⟩), .string f] (vcm v dk d m :: A) (Ret w0 (fun i : Option Addr × Nat × List Int => NumsOf d f i.2.2 ∧ i.2.2.length ≤ 1000000000) (fun i => .slice i.1 i.2.2.length i.2.1) (fun i => row i.1 i.2.1 1 3 (i64s i.2.2) :: vcm v dk d m :: A)) := by
  refine Fun.ex (fun w h => vcm_open h) ?_
  rintro ⟨j, s⟩ hi
  have hi' : Vc ⟨s.st, s.n, false⟩ m := by have := hi; obtain ⟨st, n, sick⟩ := s; obtain rfl : sick = false := hi.sick; exact this
  exact (v_numbers hc).mono fun e w ⟨i, h1, he, hO⟩ => ⟨i, h1, he, (vcm_mk hi' (hO.ix [1, 2, 3, 0])).pk1⟩
end Go.Proofs.YthljpljbpbkkcaaDoor
