/-
  Layer 2: Names of the disk and of its reference.
-/
import Derived.Test.YtijbgeboaakmmaaDiskNamesA
import Derived.Test.YtijbgeboaakmmaaDiskPure
import Derived.Test.YtijbgeboaakmmaaSlAuto
import Derived.Test.YtijbgeboaakmmaaSlView
set_option linter.unusedVariables false
set_option linter.unusedSimpArgs false
set_option maxRecDepth 4000
namespace Go.Proofs.Ytijbgeboaakmmaa
open Go.Sl Go.RowKit

theorem nodup_le {α : Type} [DecidableEq α] : ∀ {l m : List α}, l.Nodup → (∀ x ∈ l, x ∈ m) → l.length ≤ m.length
  | [], m, _, _ => Nat.zero_le _
  | x :: l, m, hn, hs => by
    have hx := hs x List.mem_cons_self
    have h2 := List.nodup_cons.1 hn
    have := nodup_le (l := l) (m := m.erase x) h2.2 fun y hy => by
      have hyx : y ≠ x := fun e => h2.1 (e ▸ hy)
      exact (List.mem_erase_of_ne hyx).2 (hs y (List.mem_cons_of_mem _ hy))
    rw [List.length_erase_of_mem hx] at this
    have := List.length_pos_of_mem hx
    simp only [List.length_cons]
    omega
/-- at most N files, their names as names may be -/
structure Nm (N : Nat) (st : DSt) : Prop where
  names : ∃ ns : List ByteArray, ns.length ≤ N ∧ ∀ k, (st.files k).isSome = true → k ∈ ns
  ok : ∀ k, (st.files k).isSome = true → okName k
theorem Nm.new : Nm 0 newD := ⟨⟨[], Nat.le_refl _, fun k h => by cases h⟩, fun k h => by cases h⟩
structure NamesOf (st : DSt) (ns : List ByteArray) : Prop where
  sorted : ns.Pairwise nless
  mem : ∀ k, k ∈ ns ↔ (st.off = false ∧ (st.files k).isSome = true)
theorem bytes_ext {a b : ByteArray} (h : a.toList = b.toList) : a = b := by
  rw [Lib.toList_data, Lib.toList_data] at h
  exact Go.WideShapes.bytes_inj h
theorem NamesOf.uniq {st : DSt} {a b : List ByteArray} (ha : NamesOf st a) (hb : NamesOf st b) : a = b := by
  have hna : a.Nodup := ha.sorted.imp fun h => nless_ne h
  have hnb : b.Nodup := hb.sorted.imp fun h => nless_ne h
  refine List.Perm.eq_of_pairwise (le := nless) (fun x y _ _ h1 h2 => ?_) ha.sorted hb.sorted ((List.perm_ext_iff_of_nodup hna hnb).2 fun k => (ha.mem k).trans (hb.mem k).symm)
  rw [nless_iff] at h1 h2
  exact absurd (List.lt_trans h1 h2) (List.lt_irrefl _)
theorem NamesOf.few {N : Nat} {st : DSt} {ns : List ByteArray} (h : NamesOf st ns) (hN : Nm N st) : ns.length ≤ N ∧ ∀ x ∈ ns, okName x := by
  obtain ⟨m, hl, hm⟩ := hN.names
  refine ⟨Nat.le_trans (nodup_le (h.sorted.imp fun h => nless_ne h) fun x hx => hm x ((h.mem x).1 hx).2) hl, fun x hx => hN.ok x ((h.mem x).1 hx).2⟩
theorem ents_keys {l : List DF} : (ents l).map (fun p => keyB p.1) = l.map fun x => x.name.data.toList := by
  unfold ents
  rw [List.map_map]
  rfl
theorem look_some {l : List DF} {st : DSt} (h : Rep l st) {k : ByteArray} : (st.files k).isSome = true ↔ ∃ x ∈ l, x.name = k := by
  constructor
  · intro hk
    obtain ⟨v, hv⟩ := Option.isSome_iff_exists.1 hk
    obtain ⟨j, x, h1, h2, _⟩ := h.at hv
    exact ⟨x, List.mem_of_getElem? h1, h2⟩
  · rintro ⟨x, hx, rfl⟩
    rw [← h.look, look_of h.nodup hx]; rfl
theorem Rep.count {l : List DF} {st : DSt} {N : Nat} (h : Rep l st) (hN : Nm N st) : l.length ≤ N := by
  obtain ⟨ns, hl, hm⟩ := hN.names
  have := nodup_le h.nodup (m := ns) fun k hk => by
    obtain ⟨x, hx, rfl⟩ := List.mem_map.1 hk
    exact hm _ ((look_some h).2 ⟨x, hx, rfl⟩)
  rw [List.length_map] at this
  omega
def mkB (l : List UInt8) : ByteArray := ⟨l.toArray⟩
theorem mkB_data (s : ByteArray) : mkB s.data.toList = s := by
  obtain ⟨a⟩ := s
  simp [mkB]

theorem strs_enc (ss : List (List UInt8)) : ss.map Go.Proofs.encStr = strs (ss.map mkB) := by
  unfold strs
  rw [List.map_map]; rfl
theorem NamesOf.sorted_keys {st : DSt} {l : List DF} {ss : List (List UInt8)} (ho : st.off = false) (hr : Rep l st) (hp : ss.Perm ((ents l).map fun p => keyB p.1)) (hs : ss.Pairwise fun x y => leB x y = true) : NamesOf st (ss.map mkB) := by
  rw [ents_keys] at hp
  have hd : (l.map fun x => x.name.data.toList).Nodup := by
    have h2 := hr.nodup
    rw [List.Nodup, List.pairwise_map] at h2 ⊢
    exact h2.imp fun h e => h (Go.WideShapes.bytes_inj e)
  have hn : ss.Nodup := hp.nodup_iff.2 hd
  refine ⟨?_, fun k => ?_⟩
  · rw [List.pairwise_map]
    have := hs.and hn
    refine this.imp fun {a b} h => ?_
    obtain ⟨h1, h2⟩ := h
    rw [nless_iff, Lib.toList_data, Lib.toList_data]
    simp only [mkB, leB, decide_eq_true_eq] at *
    rcases List.le_iff_lt_or_eq.1 h1 with h | h
    · exact h
    · exact absurd h h2
  · rw [look_some hr]
    constructor
    · intro h
      obtain ⟨s, hs1, rfl⟩ := List.mem_map.1 h
      obtain ⟨x, hx, rfl⟩ := List.mem_map.1 (hp.mem_iff.1 hs1)
      exact ⟨ho, x, hx, (mkB_data _).symm⟩
    · rintro ⟨_, x, hx, rfl⟩
      exact List.mem_map.2 ⟨x.name.data.toList, hp.mem_iff.2 (List.mem_map.2 ⟨x, hx, rfl⟩), mkB_data _⟩
theorem NamesOf.off {st : DSt} (ho : st.off = true) : NamesOf st [] := ⟨List.Pairwise.nil, fun k => by simp [ho]⟩
theorem disk_names_off {w0 : World} {A : List HProp} {d : Nat} {st : DSt} (ho : st.off = true) :
    Fun Try.prog w0 17 [.pointer (some ⟨d, 0, none⟩)] (pdisk d st :: A) (Ret w0 (fun _ : Unit => True) (fun _ => .slice none 0 0) (fun _ => pdisk d st :: A)) := by
  refine Fun.ex (fun w h => pdisk_open h) ?_
  rintro ⟨m, l⟩ hl
  dsimp only at hl ⊢
  obtain ⟨files, off, fuse, keep0, deeds⟩ := st
  obtain rfl : off = true := ho
  refine Fun.enter Try.func17 rfl Try.ntmps17 rfl ?_
  refine WC.seq <| WC.region <| sv (vaS rfl) <| WL.nil <| WX.thenN <| WC.seq <| ?_
  refine WC.cutS [(10, .bool true)] [(0, .pointer _)] ⟨rfl, trivial⟩ ?_ fun ρh => ?_
  · -- disk.go:125
    exact WC.region <| sv (vmP rfl) <| sv (vpeqF Try.underlying25 rfl rfl) <| sv (vmB rfl) <| svg rfl (vmP rfl) <| svg rfl (vnil rfl) <| svg rfl (vfldp fl59f1 rfl) <| svg rfl (vldc pl4 rfl) <| sv (vpkf rfl) <| WL.nil <| WX.mid () trivial ⟨rfl, trivial⟩ ⟨rfl, trivial⟩ (fun _ h => Sb.own (by repeat' (first | with_reducible exact Sb.all | exact Sb.nil | (apply Sb.cons; focus (first | ((repeat (first | with_reducible exact Tk.here | with_reducible apply Tk.there)); done) | ((repeat (first | exact Tk.here | apply Tk.there)); done))) | apply Sb.drop)) h)
  refine WC.tt rfl ?_
  exact WC.seq <| WC.region <| sv (vaS rfl) <| WL.nil <| WX.thenN <| WC.ret <| WX.thenR <| WX.ret1 rfl (()) (trivial) rfl (fun w h => pdisk_mk hl (Sb.own (by repeat' (first | with_reducible exact Sb.all | exact Sb.nil | (apply Sb.cons; focus (first | ((repeat (first | with_reducible exact Tk.here | with_reducible apply Tk.there)); done) | ((repeat (first | exact Tk.here | apply Tk.there)); done))) | apply Sb.drop)) h))
theorem disk_names_on {w0 : World} {A : List HProp} {d N : Nat} {st : DSt} (ho : st.off = false) (hN : Nm N st) (hNb : N ≤ 1099511627776) :
    Fun Try.prog w0 17 [.pointer (some ⟨d, 0, none⟩)] (pdisk d st :: A) (Ret w0 (fun i : Option Addr × Nat × List ByteArray => NamesOf st i.2.2 ∧ i.2.2.length ≤ i.2.1) (fun i => .slice i.1 i.2.2.length i.2.1) (fun i => row i.1 i.2.1 1 9 (strs i.2.2) :: pdisk d st :: A)) := by
  refine Fun.ex (fun w h => pdisk_open h) ?_
  rintro ⟨m, l⟩ hl
  dsimp only at hl ⊢
  have hc := hl.count hN
  have hln : (ents l).length = l.length := List.length_map ..
  have hks : ∀ p ∈ ents l, ∃ s : ByteArray, p.1 = .string s ∧ s.size ≤ maxLen := fun p hp => by
    obtain ⟨x, hx, rfl⟩ := List.mem_map.1 hp
    refine ⟨x.name, rfl, ?_⟩
    have := (hN.ok x.name ((look_some hl).2 ⟨x, hx, rfl⟩)).2.2
    simp only [maxLen]; omega
  obtain ⟨files, off, fuse, keep0, deeds⟩ := st
  obtain rfl : off = false := ho
  refine Fun.enter Try.func17 rfl Try.ntmps17 rfl ?_
  refine WC.seq <| WC.region <| sv (vaS rfl) <| WL.nil <| WX.thenN <| WC.seq <| ?_
  refine WC.cutS [(10, .bool false)] [(0, .pointer _)] ⟨rfl, trivial⟩ ?_ fun ρh => ?_
  · -- disk.go:125
    exact WC.region <| sv (vmP rfl) <| sv (vpeqF Try.underlying25 rfl rfl) <| sv (vmB rfl) <| svg rfl (vmP rfl) <| svg rfl (vnil rfl) <| svg rfl (vfldp fl59f1 rfl) <| svg rfl (vldc pl4 rfl) <| sv (vpkf rfl) <| WL.nil <| WX.mid () trivial ⟨rfl, trivial⟩ ⟨rfl, trivial⟩ (fun _ h => Sb.own (by repeat' (first | with_reducible exact Sb.all | exact Sb.nil | (apply Sb.cons; focus (first | ((repeat (first | with_reducible exact Tk.here | with_reducible apply Tk.there)); done) | ((repeat (first | exact Tk.here | apply Tk.there)); done))) | apply Sb.drop)) h)
  refine WC.ff rfl ?_
  refine WC.skip <| WX.thenN <| WC.seq <| WC.region <| sv (vmP rfl) <| sv (vnil rfl) <| sv (vfldpz fl59f0 rfl) <| sv (vldc pl57 rfl) <| clx (by repeat' (first | with_reducible exact Sb.all | exact Sb.nil | (apply Sb.cons; focus (first | ((repeat (first | with_reducible exact Tk.here | with_reducible apply Tk.there)); done) | ((repeat (first | exact Tk.here | apply Tk.there)); done))) | apply Sb.drop)) (fun_keys) ct31 rfl fun r4 hr4 => ?_
  refine clx (by repeat' (first | with_reducible exact Sb.all | exact Sb.nil | (apply Sb.cons; focus (first | ((repeat (first | with_reducible exact Tk.here | with_reducible apply Tk.there)); done) | ((repeat (first | exact Tk.here | apply Tk.there)); done))) | apply Sb.drop)) (fun_sorted hks (by omega)) ct30 rfl fun r5 hr5 => ?_
  exact sv (vaS rfl) <| WL.nil <| WX.thenN <| WC.ret <| WX.ret1 rfl ((r5.1, r5.2.1, r5.2.2.map mkB)) (⟨NamesOf.sorted_keys rfl hl hr5.1 hr5.2.1, by rw [List.length_map]; exact hr5.2.2⟩) (by rw [List.length_map]; rfl) (fun w h => by rw [← strs_enc]; exact (pdisk_mk hl (Sb.own (by repeat' (first | with_reducible exact Sb.all | exact Sb.nil | (apply Sb.cons; focus (first | ((repeat (first | with_reducible exact Tk.here | with_reducible apply Tk.there)); done) | ((repeat (first | exact Tk.here | apply Tk.there)); done))) | apply Sb.drop)) h)).pk1)
theorem disk_names {w0 : World} {A : List HProp} {d N : Nat} {st : DSt} (hN : Nm N st) (hNb : N ≤ 1099511627776) :
    Fun Try.prog w0 17 [.pointer (some ⟨d, 0, none⟩)] (pdisk d st :: A) (Ret w0 (fun i : Option Addr × Nat × List ByteArray => NamesOf st i.2.2 ∧ i.2.2.length ≤ i.2.1) (fun i => .slice i.1 i.2.2.length i.2.1) (fun i => row i.1 i.2.1 1 9 (strs i.2.2) :: pdisk d st :: A)) := by
  cases ho : st.off with
  | true => exact (disk_names_off ho).mono fun e w ⟨i, hi, he, hO⟩ => ⟨(none, 0, []), ⟨NamesOf.off ho, Nat.le_refl _⟩, he, hO.intro_row_nil⟩
  | false => exact disk_names_on ho hN hNb
end Go.Proofs.Ytijbgeboaakmmaa
