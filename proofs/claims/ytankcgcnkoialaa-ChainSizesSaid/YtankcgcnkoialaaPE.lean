/- The law ChainBytes, in plain Lean. -/
import Derived.Test.YtankcgcnkoialaaPD
namespace Go.Proofs.Ytankcgcnkoialaa
open Go Go.Ev Go.Lib

theorem known_enc : chain_EncodeF [⟨0, ⟨1, 0⟩⟩, ⟨7, ⟨65535, 255⟩⟩] = some (⟨6247, [2, 0, 0, 1, 0, 0, 7, 255, 255, 255], [], 0⟩, 0) := by
  rw [encode_is]; kernel_rfl
theorem known_true : law17_knownF () = some true := by
  unfold law17_knownF
  rw [show law10_AtF (1, 0) = some ⟨2, ⟨0, ⟨0, 0⟩, [], false, 0⟩, ⟨⟨1, 0, false, false⟩, ⟨0, 0, false, false⟩⟩, 0, 0, []⟩ from rfl, obnd_some, show law10_NumF 1 = some ⟨1, ⟨1, ⟨1, 0⟩, [], false, 0⟩, ⟨⟨0, 0, false, false⟩, ⟨0, 0, false, false⟩⟩, 0, 0, []⟩ from rfl,
    show law14_PF (0, 1, 0) = some ⟨0, ⟨1, 0⟩⟩ from rfl, show law14_PF (7, 65535, 255) = some ⟨7, ⟨65535, 255⟩⟩ from rfl, show law14_PF (0, 0, 0) = some ⟨0, ⟨0, 0⟩⟩ from rfl]
  unfold law16_NodeF
  simp only [obnd_some, known_enc]
  kernel_rfl
theorem ofPlaces_is {l : List Place} (hl : l.length ≤ 100000) : law14_OfPlacesF l = some l := by
  have this : law14_OfPlaces_l1J (l, [], ((0 : Nat) : Int)) = some (id (foldX (fun (s : List Place) (p : Place) => (.inl (s ++ [p]) : List Place ⊕ List Place)) id [] l)) :=
    fold_loop (F := law14_OfPlaces_l1F) (fun (s : List Place) (i : Nat) => (l, s, (i : Int))) id l (fun s p => .inl (s ++ [p])) id (fun s i => s.length = i) (by omega)
    (fun back s i hi hk => by
      unfold law14_OfPlaces_l1F
      simp only
      rw [ltT hi, brn_true, idxG hi, obnd_some, show law14_OfPlaceF l[i] = some l[i] from rfl, obnd_some, appN (by simp only [List.length_singleton]; omega), obnd_some, wr1 (by omega)]; rfl)
    (fun s i hi s' hk e => by cases e; simp [hk])
    (fun back s hk => by
      unfold law14_OfPlaces_l1F
      simp only
      rw [ltF, brn_false]; rfl) [] rfl
  rw [foldX_inl] at this
  unfold law14_OfPlacesF
  rw [show (0 : Int) = ((0 : Nat) : Int) from rfl, this, obnd_some]
  have : ∀ (m s : List Place), m.foldl (fun s p => s ++ [p]) s = s ++ m := by
    intro m
    induction m with
    | nil => intro s; simp
    | cons v m ih => intro s; rw [List.foldl_cons, ih]; simp
  rw [id, this]; rfl
theorem samePlaces {l : List Place} (hl : l.length ≤ 100000) : law14_SamePlacesF (l, l) = some true := by
  have this : law14_SamePlaces_l1J (l, l, ((0 : Nat) : Int)) = some ((fun (_ : Option Nat) => .inl ()) (l.findIdx? fun _ => false)) :=
    find_loop (F := law14_SamePlaces_l1F) (fun i => (l, l, (i : Int))) (fun _ => .inl ()) l (fun _ => false) (by omega)
    (fun back i hi => by
      unfold law14_SamePlaces_l1F
      simp only
      rw [ltT hi, brn_true, idxG hi, obnd_some, show law14_OfPlaceF l[i] = some l[i] from rfl, obnd_some, obnd_some, wr1 (by omega)]
      simp)
    (fun back => by
      unfold law14_SamePlaces_l1F
      simp only
      rw [ltF, brn_false])
  unfold law14_SamePlacesF
  simp only
  rw [decide_true, Bool.not_true, brn_false, show (0 : Int) = ((0 : Nat) : Int) from rfl, this]
  rfl
theorem sameRec {r : Rec} (hl : r.Cuts.length ≤ 100000) : ref7_SameRecF (r, r) = some true := by
  have this : ref7_SameRec_l1J (r, r, ((0 : Nat) : Int)) = some ((fun (_ : Option Nat) => .inl ()) (r.Cuts.findIdx? fun _ => false)) :=
    find_loop (F := ref7_SameRec_l1F) (fun i => (r, r, (i : Int))) (fun _ => .inl ()) r.Cuts (fun _ => false) (by omega)
    (fun back i hi => by
      unfold ref7_SameRec_l1F
      simp only
      rw [ltT hi, brn_true, idxG hi, obnd_some, obnd_some, wr1 (by omega), decide_eq_true rfl]
      rfl)
    (fun back => by
      unfold ref7_SameRec_l1F
      simp only
      rw [ltF, brn_false])
  unfold ref7_SameRecF
  simp only
  rw [decide_true, Bool.not_true, brn_false, brn_false, brn_false, show (0 : Int) = ((0 : Nat) : Int) from rfl, this]
  rfl

/-! ## what was written is read again -/
theorem byteI_toNat {n : Int} (h0 : 0 ≤ n) (h1 : n < 256) : ((byteI n).toNat : Int) = n := by
  unfold byteI
  rw [UInt8.toNat_ofNat', Nat.mod_eq_of_lt (by omega)]
  omega
theorem u8_at {B r : List UInt8} {a : Nat} {b : UInt8} (h : B.drop a = b :: r) : u8S B a = ((b.toNat : Int), ⟨B, ((a + 1 : Nat) : Int)⟩, 0) := by
  have : B[a]? = some b := by
    have := congrArg (fun l => l[0]?) h
    simpa [List.getElem?_drop] using this
  unfold u8S
  rw [this]
theorem u16_at {B r : List UInt8} {a : Nat} {b c : UInt8} (h : B.drop a = b :: c :: r) : u16S B a = ((c.toNat : Int) * 256 + (b.toNat : Int), ⟨B, ((a + 2 : Nat) : Int)⟩, 0) := by
  have h1 : B[a]? = some b := by
    have := congrArg (fun l => l[0]?) h
    simpa [List.getElem?_drop] using this
  have h2 : B[a + 1]? = some c := by
    have := congrArg (fun l => l[1]?) h
    simpa [List.getElem?_drop] using this
  unfold u16S
  rw [h1, h2]
theorem enc_bytes : ∀ {l : List Place} {s s' : List UInt8}, encL s l = .inl s' → s' = s ++ l.flatMap bytes4 ∧ ∀ p ∈ l, goodP p = true
  | [], s, s', h => by simp only [encL, foldX] at h; cases h; simp
  | p :: l, s, s', h => by
    unfold encL at h
    simp only [foldX, encStep] at h
    by_cases hg : goodP p = true
    · rw [if_pos hg] at h
      obtain ⟨e1, e2⟩ := enc_bytes (l := l) h
      refine ⟨by rw [e1]; simp, fun q hq => ?_⟩
      rcases List.mem_cons.1 hq with rfl | hq
      · exact hg
      · exact e2 q hq
    · rw [if_neg hg] at h; cases h
theorem dec_enc {B : List UInt8} : ∀ (l acc : List Place) (a : Nat), (∀ p ∈ l, goodP p = true) → a ≤ B.length → B.drop a = l.flatMap bytes4 → decL B l.length a acc = (acc ++ l, 0, 0)
  | [], acc, a, _, ha, h => by
    have : a = B.length := by
      have := congrArg List.length h
      simp only [List.flatMap_nil, List.length_nil, List.length_drop] at this
      omega
    simp [decL, this]
  | p :: l, acc, a, hg, ha, h => by
    obtain ⟨g1, g2, g3, g4, g5, g6⟩ := good_iff.1 (hg p (by simp))
    have h0 : B.drop a = byteI p.Sheet :: byteI (p.At.Row % 256) :: byteI (p.At.Row / 256) :: byteI p.At.Col :: l.flatMap bytes4 := by rw [h]; rfl
    have h1 : B.drop (a + 1) = byteI (p.At.Row % 256) :: byteI (p.At.Row / 256) :: byteI p.At.Col :: l.flatMap bytes4 := by rw [← List.drop_drop, h0]; rfl
    have h3 : B.drop (a + 3) = byteI p.At.Col :: l.flatMap bytes4 := by rw [← List.drop_drop, h0]; rfl
    have h4 : B.drop (a + 4) = l.flatMap bytes4 := by rw [← List.drop_drop, h0]; rfl
    have hlen : a + 4 ≤ B.length := by
      have := congrArg List.length h0
      simp only [List.length_drop, List.length_cons] at this
      omega
    rw [List.length_cons]
    unfold decL
    rw [u8_at h0, u16_at h1, u8_at h3]
    simp only [ne_eq, not_true_eq_false, if_false]
    rw [byteI_toNat g1 (by omega), byteI_toNat (by omega) (by omega), byteI_toNat (by omega) (by omega), byteI_toNat g5 g6, if_neg (by omega), dec_enc l _ (a + 4) (fun q hq => hg q (List.mem_cons_of_mem _ hq)) hlen h4,
      show p.At.Row / 256 * 256 + p.At.Row % 256 = p.At.Row by omega]
    simp
theorem dec_of_enc {l : List Place} {s : List UInt8} (hl : l.length ≤ 4096) (h : encL (b16 l.length) l = .inl s) : decS 6247 s = (l, 0, 0) := by
  obtain ⟨e1, e2⟩ := enc_bytes h
  have h0 : s.drop 0 = byteI ((l.length : Int) % 256) :: byteI ((l.length : Int) / 256) :: l.flatMap bytes4 := by rw [e1]; rfl
  have h2 : s.drop 2 = l.flatMap bytes4 := by rw [e1]; rfl
  unfold decS
  rw [u16_at h0]
  simp only [ne_eq, not_true_eq_false, if_false]
  rw [byteI_toNat (by omega) (by omega), byteI_toNat (by omega) (by omega), show (l.length : Int) / 256 * 256 + (l.length : Int) % 256 = l.length by omega, if_neg (by omega), Int.toNat_natCast,
    dec_enc l [] 2 e2 (by rw [e1, List.length_append, b16_len]; omega) h2, List.nil_append]
theorem enc_err : ∀ {l : List Place} {s : List UInt8} {e : Int}, encL s l = .inr e → e = 12
  | [], s, e, h => by simp only [encL, foldX] at h; cases h
  | p :: l, s, e, h => by
    unfold encL at h
    simp only [foldX, encStep] at h
    by_cases hg : goodP p = true
    · rw [if_pos hg] at h; exact enc_err (l := l) h
    · rw [if_neg hg] at h; cases h; rfl
theorem encS_len (l : List Place) : (encS l).1.Data.length ≤ 20000 ∧ (encS l).1.Cuts.length ≤ 20000 := by
  unfold encS
  by_cases h : 4096 < l.length
  · rw [if_pos h]; exact ⟨by simp [r0], by simp [r0]⟩
  rw [if_neg h]
  cases he : encL (b16 l.length) l with
  | inr e => exact ⟨by simp [r0], by simp [r0]⟩
  | inl s =>
    have := enc_len he
    rw [b16_len] at this
    simp only [cutS, cutsN_len]
    omega
theorem ChainBytes_true (p : List Place) (r : Rec) : law17_ChainBytesF (p, r) = some true := by
  unfold law17_ChainBytesF law17_ChainBytes_b1J
  rw [known_true, obnd_some]
  simp only [Bool.not_true, brn_false]
  by_cases h1 : 200 < (p.length : Int)
  · rw [decide_eq_true h1, brn_true, obnd_some, brn_true]
  rw [decide_eq_false h1, brn_false]
  by_cases h2 : 3000 < (r.Data.length : Int)
  · rw [decide_eq_true h2, brn_true, obnd_some, brn_true]
  rw [decide_eq_false h2, brn_false, obnd_some]
  by_cases h3 : 60 < (r.Cuts.length : Int)
  · rw [decide_eq_true h3, brn_true]
  rw [decide_eq_false h3, brn_false, encode_is, obnd_some, ofPlaces_is (by omega), obnd_some, refEncode_is, obnd_some]
  simp only [decide_true, Bool.not_true, brn_false]
  rw [show law1_OfF (encS p).1 = some (encS p).1 from rfl, obnd_some, sameRec (by have := (encS_len p).2; omega), obnd_some, Bool.not_true, brn_false]
  have hb : law17_ChainBytes_b2J (p, (encS p).1, decide ((encS p).2 = 0)) = some (.inl ()) := by
    unfold law17_ChainBytes_b2J
    simp only
    by_cases h : (encS p).2 = 0
    · rw [decide_eq_true h, brn_true, decode_is (by have := (encS_len p).1; omega), obnd_some]
      have hd : decS (encS p).1.Type_ (encS p).1.Data = (p, 0, 0) := by
        revert h
        unfold encS
        rw [if_neg (by omega)]
        cases he : encL (b16 p.length) p with
        | inr e => intro h; have := enc_err he; simp only at h; omega
        | inl s => intro _; exact dec_of_enc (by omega) he
      rw [hd]
      simp only [decide_true, Bool.not_true, brn_false]
      rw [ofPlaces_is (by omega), obnd_some, samePlaces (by omega), obnd_some]; rfl
    · rw [decide_eq_false h, brn_false]
  rw [hb, obnd_some]
  simp only [osum]
  have ht : law1_ToF r = some ⟨r.Type_, r.Data, r.Cuts, r.At⟩ := by
    unfold law1_ToF
    rw [appN (by simp only [List.length_nil]; omega), obnd_some, appN (by simp only [List.length_nil]; omega), obnd_some]; rfl
  rw [ht, obnd_some, decode_is (by simp only; omega), obnd_some, refDecode_is (by omega), obnd_some]
  simp only [decide_true, brn_true]
  have hl : ∀ (k a : Nat) (acc : List Place), (decL r.Data k a acc).1.length ≤ acc.length + k := by
    intro k
    induction k with
    | zero => intro a acc; unfold decL; split <;> simp
    | succ k ih =>
      intro a acc
      unfold decL
      split
      · simp
      split
      · simp
      split
      · simp
      split
      · simp
      · have := ih (a + 4) (acc ++ [⟨(u8S r.Data a).1, ⟨(u16S r.Data (a + 1)).1, (u8S r.Data (a + 3)).1⟩⟩])
        rw [List.length_append, List.length_singleton] at this
        omega
  have hs : (decS r.Type_ r.Data).1.length ≤ 100000 := by
    unfold decS
    split
    · simp
    split
    · simp
    split
    · simp
    · have := hl (u16S r.Data 0).1.toNat 2 []
      simp only [List.length_nil] at this
      omega
  rw [samePlaces hs, obnd_some]
end Go.Proofs.Ytankcgcnkoialaa
