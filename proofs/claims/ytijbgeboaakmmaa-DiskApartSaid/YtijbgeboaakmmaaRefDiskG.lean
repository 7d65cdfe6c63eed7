/-
  Layer 2's reference: Names; Read, power or none.
-/
import Derived.Test.YtijbgeboaakmmaaRefDiskF
import Derived.Test.YtijbgeboaakmmaaDiskNamesB
set_option linter.unusedVariables false
set_option linter.unusedSimpArgs false
set_option maxRecDepth 4000
namespace Go.Proofs.Ytijbgeboaakmmaa
open Go.Sl Go.RowKit

theorem ref_read_all {w0 : World} {A : List HProp} {r c : Nat} {base : Option Addr} {st : DSt} {l : List RF} {nm : ByteArray} {bs : List UInt8} {e : Int} (hl : l.length ≤ 1099511627776) (hr : RRep l st) (hb : readS nm st = (bs, e)) :
    Fun Try.prog w0 35 [.pointer (some ⟨r, 0, none⟩), .string nm] (cel r (rcells base l.length c st) 45 :: row base c 3 51 (fcells l) :: rows 5 (l.map (·.b)) :: A)
      (Ret w0 (fun i : Option Addr × Nat => RdC w0 (cel r (rcells base l.length c st) 45 :: row base c 3 51 (fcells l) :: rows 5 (l.map (·.b)) :: A) i.1 (u8s bs) ∧ bs.length ≤ i.2) (fun i => .tuple #[.slice i.1 bs.length i.2, .int .i64 e])
        (fun _ => cel r (rcells base l.length c st) 45 :: row base c 3 51 (fcells l) :: rows 5 (l.map (·.b)) :: A)) := by
  unfold readS at hb
  cases ho : st.off with
  | true =>
    rw [if_pos ho] at hb
    cases hb
    exact (ref_read_off ho).mono fun e w ⟨i, hi, he, hO⟩ => ⟨(none, 0), ⟨RdC.nil, Nat.le_refl _⟩, he, hO⟩
  | false =>
    rw [if_neg (by rw [ho]; decide)] at hb
    cases hf : st.files nm with
    | none =>
      rw [hf] at hb
      cases hb
      exact (ref_read_no hl ho (hr.no hf)).mono fun e w ⟨i, hi, he, hO⟩ => ⟨(none, 0), ⟨RdC.nil, Nat.le_refl _⟩, he, hO⟩
    | some v =>
      rw [hf] at hb
      obtain ⟨j, x, hj, rfl, rfl⟩ := hr.at hf
      cases hb
      have hm : x.b ∈ l.map (·.b) := List.mem_map.2 ⟨x, List.mem_of_getElem? hj, rfl⟩
      exact (ref_read_ok hl hr ho hj).mono fun e w ⟨i, hi, he, hO⟩ => ⟨(x.b.base, x.b.cap), ⟨RdC.of_rows (e := 5) (l := l.map (·.b)) (by simp) hm, (hr.ok x (List.mem_of_getElem? hj)).2.2⟩, he, hO⟩
theorem rlook_some {l : List RF} {st : DSt} (h : RRep l st) {k : ByteArray} : (st.files k).isSome = true ↔ k ∈ l.map (·.name) := by
  constructor
  · intro hk
    obtain ⟨v, hv⟩ := Option.isSome_iff_exists.1 hk
    obtain ⟨j, x, h1, h2, _⟩ := h.at hv
    exact List.mem_map.2 ⟨x, List.mem_of_getElem? h1, h2⟩
  · intro hk
    obtain ⟨x, hx, rfl⟩ := List.mem_map.1 hk
    cases hf : st.files x.name with
    | none => exact absurd rfl (h.no hf x hx)
    | some v => rfl
theorem RRep.names {l : List RF} {st : DSt} (h : RRep l st) (ho : st.off = false) : NamesOf st (l.map (·.name)) := ⟨h.sorted, fun k => by rw [rlook_some h]; simp [ho]⟩
theorem strs_snoc (l : List ByteArray) (s : ByteArray) : strs (l ++ [s]) = strs l ++ [.string s] := by simp [strs]
theorem ref_names_off {w0 : World} {A : List HProp} {r N : Nat} {st : DSt} (ho : st.off = true) :
    Fun Try.prog w0 38 [.pointer (some ⟨r, 0, none⟩)] (rdisk r N st :: A) (Ret w0 (fun _ : Unit => True) (fun _ => .slice none 0 0) (fun _ => rdisk r N st :: A)) := by
  refine Fun.ex (fun w h => rdisk_open h) ?_
  rintro ⟨base, c, l⟩ ⟨hl, hc⟩
  dsimp only at hl hc ⊢
  obtain ⟨files, off, fuse, keep0, deeds⟩ := st
  obtain rfl : off = true := ho
  refine Fun.enter Try.func38 rfl Try.ntmps38 rfl ?_
  refine WC.seq <| WC.region <| sv (vaS rfl) <| WL.nil <| WX.thenN <| WC.seq <| WC.region <| sv (vaS rfl) <| WL.nil <| WX.thenN <| WC.seq <| WC.seq <| WC.region <| sv (vaI rfl) <| WL.nil <| WX.thenN <| WC.block <| ?_
  refine WC.loopS (ι := Nat) (fun i => [(3, .slice none 0 0), (4, .int .i64 i)]) [(0, .pointer _)] (fun i => i = 0) (fun i => 0) (0) (rfl) ⟨rfl, rfl, trivial⟩ ⟨rfl, trivial⟩ ?_
  intro i hi ρh
  refine WC.seq <| ?_
  refine WC.cutS [(18, .bool false)] [(0, .pointer _), (3, .slice _ _ _), (4, .int _ _)] ⟨rfl, rfl, rfl, trivial⟩ ?_ fun ρh => ?_
  · -- ref.go:146
    refine WC.region <| sv (vmI rfl) <| sv (vmP rfl) <| sv (vnil rfl) <| sv (vfldpz fl45f0 rfl) <| sv (vldc pl43 rfl) <| sv (vlen Try.underlying43 rfl) <| svs (vlt rfl rfl) (fun q1 => ?_) (fun q1 => ?_)
    ·
      exact sv (vmB rfl) <| svg rfl (vmP rfl) <| svg rfl (vnil rfl) <| svg rfl (vfldp fl45f1 rfl) <| svg rfl (vldc pl4 rfl) <| svg rfl (vnot rfl) <| sv (vpkt rfl) <| WL.nil <| WX.mid () trivial ⟨rfl, trivial⟩ ⟨rfl, rfl, rfl, trivial⟩ (fun _ h => Sb.own (by repeat' (first | with_reducible exact Sb.all | exact Sb.nil | (apply Sb.cons; focus (first | ((repeat (first | with_reducible exact Tk.here | with_reducible apply Tk.there)); done) | ((repeat (first | exact Tk.here | apply Tk.there)); done))) | apply Sb.drop)) h)
    ·
      exact sv (vmB rfl) <| sng rfl <| sng rfl <| sng rfl <| sng rfl <| sng rfl <| sv (vpkf rfl) <| WL.nil <| WX.mid () trivial ⟨rfl, trivial⟩ ⟨rfl, rfl, rfl, trivial⟩ (fun _ h => Sb.own (by repeat' (first | with_reducible exact Sb.all | exact Sb.nil | (apply Sb.cons; focus (first | ((repeat (first | with_reducible exact Tk.here | with_reducible apply Tk.there)); done) | ((repeat (first | exact Tk.here | apply Tk.there)); done))) | apply Sb.drop)) h)
  refine WC.ff rfl ?_
  exact WC.exit <| WX.thenE <| WX.thenE <| WX.blockH <| WX.thenN <| WC.seq <| WC.region <| sv (vmS rfl) <| sv (vaS rfl) <| WL.nil <| WX.thenN <| WC.ret <| WX.ret1 rfl (()) (trivial) rfl (fun w h => rdisk_mk hl hc (Sb.own (by repeat' (first | with_reducible exact Sb.all | exact Sb.nil | (apply Sb.cons; focus (first | ((repeat (first | with_reducible exact Tk.here | with_reducible apply Tk.there)); done) | ((repeat (first | exact Tk.here | apply Tk.there)); done))) | apply Sb.drop)) h))
theorem ref_names_on {w0 : World} {A : List HProp} {r N : Nat} {st : DSt} (hN : N ≤ 1099511627776) (ho : st.off = false) :
    Fun Try.prog w0 38 [.pointer (some ⟨r, 0, none⟩)] (rdisk r N st :: A) (Ret w0 (fun i : Option Addr × Nat × List ByteArray => NamesOf st i.2.2 ∧ i.2.2.length ≤ i.2.1) (fun i => .slice i.1 i.2.2.length i.2.1) (fun i => row i.1 i.2.1 1 9 (strs i.2.2) :: rdisk r N st :: A)) := by
  refine Fun.ex (fun w h => rdisk_open h) ?_
  rintro ⟨base, c, l⟩ ⟨hl, hc⟩
  dsimp only at hl hc ⊢
  obtain ⟨files, off, fuse, keep0, deeds⟩ := st
  obtain rfl : off = false := ho
  have hno := hl.names rfl
  have hfl := fcells_length l
  refine Fun.enter Try.func38 rfl Try.ntmps38 rfl ?_
  refine WC.seq <| WC.region <| sv (vaS rfl) <| WL.nil <| WX.thenN <| WC.seq <| WC.region <| sv (vaS rfl) <| WL.nil <| WX.thenN <| WC.seq <| WC.seq <| WC.region <| sv (vaI rfl) <| WL.nil <| WX.thenN <| WC.block <| ?_
  refine WC.loop (ι := Nat × Option Addr × Nat) (fun i => [(3, .slice i.2.1 i.1 i.2.2), (4, .int .i64 i.1)]) [(0, .pointer _)] (fun i => row i.2.1 i.2.2 1 9 (strs ((l.map (·.name)).take i.1)) :: cel r (rcells base l.length c ⟨files, false, fuse, keep0, deeds⟩) 45 :: row base c 3 51 (fcells l) :: rows 5 (l.map (·.b)) :: A) (fun i => i.1 ≤ l.length ∧ i.1 ≤ i.2.2) (fun i => l.length - i.1) ((0, none, 0)) (⟨Nat.zero_le _, Nat.le_refl _⟩) ⟨rfl, rfl, trivial⟩ ⟨rfl, trivial⟩ (fun w h => h.intro_row_nil) ?_
  rintro ⟨i, nb, nc⟩ ⟨hi1, hi2⟩ ρh
  dsimp only at hi1 hi2 ⊢
  refine WC.seq <| ?_
  refine WC.cutS [(18, .bool (decide (i < l.length)))] [(0, .pointer _), (3, .slice _ _ _), (4, .int _ _)] ⟨rfl, rfl, rfl, trivial⟩ ?_ fun ρh => ?_
  · -- ref.go:146
    refine WC.region <| sv (vmI rfl) <| sv (vmP rfl) <| sv (vnil rfl) <| sv (vfldpz fl45f0 rfl) <| sv (vldc pl43 rfl) <| sv (vlen Try.underlying43 rfl) <| svs (vlt rfl rfl) (fun q1 => ?_) (fun q1 => ?_)
    ·
      exact sv (vmB rfl) <| svg rfl (vmP rfl) <| svg rfl (vnil rfl) <| svg rfl (vfldp fl45f1 rfl) <| svg rfl (vldc pl4 rfl) <| svg rfl (vnot rfl) <| sv (vpkt rfl) <| WL.nil <| WX.mid () trivial ⟨bT (by omega), trivial⟩ ⟨rfl, rfl, rfl, trivial⟩ (fun _ h => Sb.own (by repeat' (first | with_reducible exact Sb.all | exact Sb.nil | (apply Sb.cons; focus (first | ((repeat (first | with_reducible exact Tk.here | with_reducible apply Tk.there)); done) | ((repeat (first | exact Tk.here | apply Tk.there)); done))) | apply Sb.drop)) h)
    ·
      exact sv (vmB rfl) <| sng rfl <| sng rfl <| sng rfl <| sng rfl <| sng rfl <| sv (vpkf rfl) <| WL.nil <| WX.mid () trivial ⟨bF (by first | omega | simp_all | grind), trivial⟩ ⟨rfl, rfl, rfl, trivial⟩ (fun _ h => Sb.own (by repeat' (first | with_reducible exact Sb.all | exact Sb.nil | (apply Sb.cons; focus (first | ((repeat (first | with_reducible exact Tk.here | with_reducible apply Tk.there)); done) | ((repeat (first | exact Tk.here | apply Tk.there)); done))) | apply Sb.drop)) h)
  refine WC.ite rfl (fun h1 => ?_) (fun h1 => ?_)
  · -- then
    obtain ⟨x, hx⟩ : ∃ x, l[i]? = some x := ⟨_, List.getElem?_eq_getElem h1⟩
    have hpos : 0 < (fcells l).length := by omega
    have hf0 := fc0 hx
    have hnx : (l.map (·.name))[i]? = some x.name := by rw [List.getElem?_map, hx]; rfl
    refine WC.known (fun w h => row_some hpos h.pk2) fun hb => ?_
    refine WC.skip <| WX.thenN <| WC.seq <| WC.block <| WC.region <| sv (vmS rfl) <| sv (vmP rfl) <| sv (vnil rfl) <| sv (vfldpz fl45f0 rfl) <| sv (vldc pl43 rfl) <| sv (vmI rfl) <| sv (vix Try.underlying43 sz51 rfl rfl (by omega) (by omega) reads (hpos)) <| sv (vfldr (hb) fl51f0 rfl) <| sv (vldo pl9 rfl reads (hf0)) <| pm (fun _ h => Sb.own (by repeat' (first | with_reducible exact Sb.all | exact Sb.nil | (apply Sb.cons; focus (first | ((repeat (first | with_reducible exact Tk.here | with_reducible apply Tk.there)); done) | ((repeat (first | exact Tk.here | apply Tk.there)); done))) | apply Sb.drop)) h) <| ap1 (v := .string _) (vs := strs ((l.map (·.name)).take i)) Try.underlying36 zt9 rfl (fun _ => rfl) (fun _ => rfl) rfl rfl rfl (by rw [strs_length, List.length_take, List.length_map]; omega) (by simp only [maxLen]; omega) (by omega) fun _ base7 c7 hc7 => ?_
    exact sv (vaS rfl) <| WL.nil <| WX.blockN <| WX.thenN <| WC.region <| sv (vmI rfl) <| sv (vadd rfl rfl (by omega)) <| sv (vaI rfl) <| WL.nil <| WX.again ((i + 1, base7, c7)) (⟨by omega, by omega⟩) (by omega) ⟨rfl, rfl, trivial⟩ ⟨rfl, trivial⟩ (fun w h => by rw [List.take_add_one, hnx, Option.toList_some, strs_snoc]; exact Sb.own (by repeat' (first | with_reducible exact Sb.all | exact Sb.nil | (apply Sb.cons; focus (first | ((repeat (first | with_reducible exact Tk.here | with_reducible apply Tk.there)); done) | ((repeat (first | exact Tk.here | apply Tk.there)); done))) | apply Sb.drop)) h)
  · -- else
    have hil : i = l.length := by omega
    subst hil
    exact WC.exit <| WX.thenE <| WX.thenE <| WX.blockH <| WX.thenN <| WC.seq <| WC.region <| sv (vmS rfl) <| sv (vaS rfl) <| WL.nil <| WX.thenN <| WC.ret <| WX.ret1 rfl ((nb, nc, l.map (·.name))) (⟨hno, by rw [List.length_map]; exact hi2⟩) (by rw [List.length_map]; rfl) (fun w h => by rw [List.take_of_length_le (by rw [List.length_map]; exact Nat.le_refl _)] at h; exact (rdisk_mk hl hc (Sb.own (by repeat' (first | with_reducible exact Sb.all | exact Sb.nil | (apply Sb.cons; focus (first | ((repeat (first | with_reducible exact Tk.here | with_reducible apply Tk.there)); done) | ((repeat (first | exact Tk.here | apply Tk.there)); done))) | apply Sb.drop)) h)).pk1)
theorem ref_names {w0 : World} {A : List HProp} {r N : Nat} {st : DSt} (hN : N ≤ 1099511627776) :
    Fun Try.prog w0 38 [.pointer (some ⟨r, 0, none⟩)] (rdisk r N st :: A) (Ret w0 (fun i : Option Addr × Nat × List ByteArray => NamesOf st i.2.2 ∧ i.2.2.length ≤ i.2.1) (fun i => .slice i.1 i.2.2.length i.2.1) (fun i => row i.1 i.2.1 1 9 (strs i.2.2) :: rdisk r N st :: A)) := by
  cases ho : st.off with
  | true => exact (ref_names_off ho).mono fun e w ⟨i, hi, he, hO⟩ => ⟨(none, 0, []), ⟨NamesOf.off ho, Nat.le_refl _⟩, he, hO.intro_row_nil⟩
  | false => exact ref_names_on hN ho
theorem rdisk_mono {w0 w : World} {r N M : Nat} {st : DSt} {A : List HProp} (hM : N ≤ M) (H : Own w0 (rdisk r N st :: A) w) : Own w0 (rdisk r M st :: A) w := by
  obtain ⟨x, ⟨h1, h2, h3⟩, hO⟩ := rdisk_open H
  exact rdisk_mk h1 ⟨h2, Nat.le_trans h3 hM⟩ hO
end Go.Proofs.Ytijbgeboaakmmaa
