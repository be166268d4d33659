/- Texts joined by a program of this session: Da, Dd, Dg, Db, Dc, De, Df, Di, Dn, Dh, Do, Dx. -/
import Derived.Test.YtfnaahkgegfbnaaGreatDoorZ0
set_option linter.unusedVariables false
set_option linter.unusedSimpArgs false
set_option maxRecDepth 10000
namespace Go.Proofs.YtfnaahkgegfbnaaGreatDoor
def syntax_letter (a0 : Int) : Option Bool :=
  (if (decide (a0 ≥ 97)) = true then (if (decide (a0 ≤ 122)) = true then some true else (if (decide (a0 ≥ 65)) = true then (if (decide (a0 ≤ 90)) = true then some true else some (a0 == 95)) else some (a0 == 95))) else (if (decide (a0 ≥ 65)) = true then (if (decide (a0 ≤ 90)) = true then some true else some (a0 == 95)) else some (a0 == 95)))
def syntax_digit (a0 : Int) : Option Bool :=
  (if (decide (a0 ≥ 48)) = true then some (decide (a0 ≤ 57)) else some false)
def syntax_inner (a0 : Int) : Option Bool :=
  (syntax_letter a0).bind fun r1 => (if r1 = true then some true else (syntax_digit a0).bind fun r6 => (if r6 = true then some true else some (a0 == 45)))
def lexer_skip_l1 : Nat → SParser → Int → Option SParser
  | 0, _, _ => none
  | k + 1, a0, x18 =>
    (if (decide (x18 < ((a0.x_.s_).length : Int))) = true then chk (decide ((0 : Int) ≤ x18)) ((a0.x_.s_[Int.toNat (x18)]?).bind fun c53 => (syntax_inner (c53.toNat : Int)).bind fun r55 => (if r55 = true then (lexer_skip_l1 k a0 (w64 (x18 + 1))) else some (SParser.mk (SLexer.mk a0.x_.s_ x18) a0.t_))) else some (SParser.mk (SLexer.mk a0.x_.s_ x18) a0.t_))
def lexer_skip (k : Nat) (a0 : SParser) : Option SParser :=
  (lexer_skip_l1 k a0 a0.x_.at_)
def lexer_skip_i1_l1 : Nat → SParser → Int → Option SParser
  | 0, _, _ => none
  | k + 1, a0, x18 =>
    (if (decide (x18 < ((a0.x_.s_).length : Int))) = true then chk (decide ((0 : Int) ≤ x18)) ((a0.x_.s_[Int.toNat (x18)]?).bind fun c53 => (syntax_digit (c53.toNat : Int)).bind fun r55 => (if r55 = true then (lexer_skip_i1_l1 k a0 (w64 (x18 + 1))) else some (SParser.mk (SLexer.mk a0.x_.s_ x18) a0.t_))) else some (SParser.mk (SLexer.mk a0.x_.s_ x18) a0.t_))
def lexer_skip_i1 (k : Nat) (a0 : SParser) : Option SParser :=
  (lexer_skip_i1_l1 k a0 a0.x_.at_)
def strconv_Atoi (a0 : Str) : Option (Int × Bool) := chk (decide (a0.length ≤ 18)) ((Lib.atoi a0).bind fun n => some (n, false))
mutual
def lexer_quoted_j9 : Nat → SParser → (List Int) → Int → UInt8 → Bool → Option (Except Pan (SParser × SToken))
  | 0, _, _, _, _, _ => none
  | k + 1, a0, x70, x75, c150, x164 =>
    (if x164 = true then chk (decide ((0 : Int) ≤ (w64 (x75 + 1)))) ((a0.x_.s_[Int.toNat (w64 (x75 + 1))]?).bind fun c201 => (if ((c201.toNat : Int) != 34) = true then (if ((c201.toNat : Int) != 92) = true then some (.error (x75, 14)) else (lexer_quoted_j10 k a0 x70 x75)) else (lexer_quoted_j10 k a0 x70 x75))) else chk (decide ((x70 ++ [(c150.toNat : Int)]).length * 1 ≤ 140737488355328)) ((lexer_quoted_l7 k a0 (x70 ++ [(c150.toNat : Int)]) (w64 (x75 + 1)))))
def lexer_quoted_j8 : Nat → SParser → (List Int) → Int → UInt8 → Bool → Option (Except Pan (SParser × SToken))
  | 0, _, _, _, _, _ => none
  | k + 1, a0, x70, x75, c150, x153 =>
    (if x153 = true then some (.error (x75, 14)) else (if ((c150.toNat : Int) == 92) = true then (lexer_quoted_j9 k a0 x70 x75 c150 (decide ((w64 (x75 + 1)) < ((a0.x_.s_).length : Int)))) else (lexer_quoted_j9 k a0 x70 x75 c150 false)))
def lexer_quoted_l7 : Nat → SParser → (List Int) → Int → Option (Except Pan (SParser × SToken))
  | 0, _, _, _ => none
  | k + 1, a0, x70, x75 =>
    (if (decide (x75 < ((a0.x_.s_).length : Int))) = true then chk (decide ((0 : Int) ≤ x75)) ((a0.x_.s_[Int.toNat (x75)]?).bind fun c150 => (if ((c150.toNat : Int) == 34) = true then some (.ok ((SParser.mk (SLexer.mk a0.x_.s_ (w64 (x75 + 1))) a0.t_), (SToken.mk 3 a0.x_.at_ (List.map (fun q : Int => UInt8.ofNat q.toNat) x70) 0))) else (if (decide ((c150.toNat : Int) < 32)) = true then (lexer_quoted_j8 k a0 x70 x75 c150 true) else (lexer_quoted_j8 k a0 x70 x75 c150 (decide ((c150.toNat : Int) > 126)))))) else some (.error (a0.x_.at_, 14)))
def lexer_quoted_j10 : Nat → SParser → (List Int) → Int → Option (Except Pan (SParser × SToken))
  | 0, _, _, _ => none
  | k + 1, a0, x70, x75 =>
    chk (decide ((0 : Int) ≤ (w64 (x75 + 1)))) ((a0.x_.s_[Int.toNat (w64 (x75 + 1))]?).bind fun c190 => chk (decide ((x70 ++ [(c190.toNat : Int)]).length * 1 ≤ 140737488355328)) ((lexer_quoted_l7 k a0 (x70 ++ [(c190.toNat : Int)]) (w64 ((w64 (x75 + 1)) + 1)))))
end
def lexer_quoted (k : Nat) (a0 : SParser) : Option (Except Pan (SParser × SToken)) :=
  (lexer_quoted_l7 k a0 [] (w64 (a0.x_.at_ + 1)))
def stringslite_HasPrefix (a0 : Str) (a1 : Str) : Option Bool :=
  (if (decide (((a0).length : Int) ≥ ((a1).length : Int))) = true then chk (decide ((0 : Int) ≤ ((a1).length : Int)) && decide ((((a1).length : Int) : Int) ≤ ((a0).length : Int))) (some ((List.take (Int.toNat ((a1).length : Int)) a0) == a1)) else some false)
def strings_HasPrefix (a0 : Str) (a1 : Str) : Option Bool :=
  (stringslite_HasPrefix a0 a1).bind fun r1 => some r1
def lexer_next_j2 (x29 : Int) (r94 : SParser) (r105 : Int × Bool) (x114 : Bool) : Option (Except Pan (SParser × SToken)) :=
  (if x114 = true then some (.error (x29, 2)) else some (.ok (r94, (SToken.mk 2 x29 w_0 r105.1))))
def lexer_next_l3 : Nat → SParser → Int → Int → Option (Except Pan (SParser × SToken))
  | 0, _, _, _ => none
  | k + 1, a0, x29, x135 =>
    (if (decide (x135 < 13)) = true then chk (decide ((0 : Int) ≤ x135)) ((([wx2e2e, wx213d, wx3e3d, wx3d, wx3c, wx7b, wx7d, wx28, wx29, wx2c, wx2e, wx2f, wx2d] : List Str)[Int.toNat (x135)]?).bind fun c153 => chk (decide ((0 : Int) ≤ x29) && decide ((x29 : Int) ≤ ((a0.x_.s_).length : Int))) ((strings_HasPrefix (List.drop (Int.toNat x29) a0.x_.s_) c153).bind fun r156 => (if r156 = true then some (.ok ((SParser.mk (SLexer.mk a0.x_.s_ (w64 (x29 + ((c153).length : Int)))) a0.t_), (SToken.mk 4 x29 c153 0))) else (lexer_next_l3 k a0 x29 (w64 (x135 + 1)))))) else some (.error (x29, 14)))
def lexer_next_j1 (k : Nat) (a0 : SParser) (x29 : Int) : Option (Except Pan (SParser × SToken)) :=
  (if (x29 == ((a0.x_.s_).length : Int)) = true then some (.ok ((SParser.mk (SLexer.mk a0.x_.s_ x29) a0.t_), (SToken.mk 0 x29 w_0 0))) else chk (decide ((0 : Int) ≤ x29)) ((a0.x_.s_[Int.toNat (x29)]?).bind fun c77 => (syntax_letter (c77.toNat : Int)).bind fun r79 => (if r79 = true then (lexer_skip k (SParser.mk (SLexer.mk a0.x_.s_ x29) a0.t_)).bind fun r83 => chk (decide ((0 : Int) ≤ x29) && decide ((x29 : Int) ≤ r83.x_.at_) && decide ((r83.x_.at_ : Int) ≤ ((r83.x_.s_).length : Int))) (some (.ok (r83, (SToken.mk 1 x29 (List.take ((Int.toNat r83.x_.at_) - (Int.toNat x29)) (List.drop (Int.toNat x29) r83.x_.s_)) 0)))) else (syntax_digit (c77.toNat : Int)).bind fun r90 => (if r90 = true then (lexer_skip_i1 k (SParser.mk (SLexer.mk a0.x_.s_ x29) a0.t_)).bind fun r94 => chk (decide ((0 : Int) ≤ x29) && decide ((x29 : Int) ≤ r94.x_.at_) && decide ((r94.x_.at_ : Int) ≤ ((r94.x_.s_).length : Int))) ((strconv_Atoi (List.take ((Int.toNat r94.x_.at_) - (Int.toNat x29)) (List.drop (Int.toNat x29) r94.x_.s_))).bind fun r105 => (if r105.2 = true then (lexer_next_j2 x29 r94 r105 true) else (lexer_next_j2 x29 r94 r105 (decide (r105.1 > 1099511627776))))) else (if ((c77.toNat : Int) == 34) = true then xbind (lexer_quoted k (SParser.mk (SLexer.mk a0.x_.s_ x29) a0.t_)) fun r122 => some (.ok (r122.1, r122.2)) else (lexer_next_l3 k a0 x29 0))))))
def lexer_next_l4 : Nat → SParser → Int → Option (Except Pan (SParser × SToken))
  | 0, _, _ => none
  | k + 1, a0, x172 =>
    (if (decide (x172 < ((a0.x_.s_).length : Int))) = true then chk (decide ((0 : Int) ≤ x172)) ((a0.x_.s_[Int.toNat (x172)]?).bind fun c195 => (if ((c195.toNat : Int) == 32) = true then (lexer_next_l4 k a0 (w64 (x172 + 1))) else (lexer_next_j1 k a0 x172))) else (lexer_next_j1 k a0 x172))
def lexer_next (k : Nat) (a0 : SParser) : Option (Except Pan (SParser × SToken)) :=
  (lexer_next_l4 k a0 a0.x_.at_)
def parser_advance (k : Nat) (a0 : SParser) : Option (Except Pan SParser) :=
  xbind (lexer_next k a0) fun r1 => some (.ok (SParser.mk r1.1.x_ r1.2))
def parser_is (a0 : SParser) (a1 : Str) : Option (SParser × Bool) :=
  (if (a0.t_.kind == 1) = true then some (a0, (a0.t_.s_ == a1)) else (if (a0.t_.kind == 4) = true then some (a0, (a0.t_.s_ == a1)) else some (a0, false)))
def parser_takes (k : Nat) (a0 : SParser) (a1 : Str) : Option (Except Pan (SParser × Bool)) :=
  (parser_is a0 a1).bind fun r1 => (if (!r1.2) = true then some (.ok (r1.1, false)) else xbind (parser_advance k r1.1) fun r5 => some (.ok (r5, true)))
def parser_wrong (a0 : SParser) : Option (Except Pan SParser) :=
  some (.error (a0.t_.at_, 14))
def parser_need (k : Nat) (a0 : SParser) (a1 : Str) : Option (Except Pan SParser) :=
  xbind (parser_takes k a0 a1) fun r1 => (if (!r1.2) = true then xbind (parser_wrong r1.1) fun _ => none else some (.ok r1.1))
def syntax_isWord_l2 : Nat → Str → Int → Option Bool
  | 0, _, _ => none
  | k + 1, a0, x30 =>
    (if (decide (x30 < ((a0).length : Int))) = true then chk (decide ((0 : Int) ≤ x30)) ((a0[Int.toNat (x30)]?).bind fun c47 => (syntax_inner (c47.toNat : Int)).bind fun r49 => (if (!r49) = true then some false else (syntax_isWord_l2 k a0 (w64 (x30 + 1))))) else some true)
def syntax_isWord_j1 (k : Nat) (a0 : Str) (x17 : Bool) : Option Bool :=
  (if x17 = true then some false else (syntax_isWord_l2 k a0 0))
def syntax_isWord (k : Nat) (a0 : Str) : Option Bool :=
  (if (a0 == w_0) = true then (syntax_isWord_j1 k a0 true) else chk (decide ((0 : Int) ≤ 0)) ((a0[Int.toNat (0)]?).bind fun c58 => (syntax_letter (c58.toNat : Int)).bind fun r60 => (syntax_isWord_j1 k a0 (!r60))))
def syntax_IsVariable (k : Nat) (a0 : Str) : Option Bool :=
  (syntax_isWord k a0).bind fun r1 => (if r1 = true then (if (decide (((a0).length : Int) ≤ 64)) = true then some (!(resWords.contains a0)) else some false) else some false)
def parser_name_j1 (k : Nat) (a0 : SParser) (x21 : Bool) : Option (Except Pan (SParser × Str)) :=
  (if x21 = true then xbind (parser_wrong a0) fun _ => none else xbind (parser_advance k a0) fun r31 => some (.ok (r31, a0.t_.s_)))
def parser_name (k : Nat) (a0 : SParser) : Option (Except Pan (SParser × Str)) :=
  (if (a0.t_.kind != 1) = true then (parser_name_j1 k a0 true) else (syntax_IsVariable k a0.t_.s_).bind fun r38 => (parser_name_j1 k a0 (!r38)))
def parser_label_j1 (k : Nat) (a0 : SParser) : Option (Except Pan (SParser × Str)) :=
  xbind (parser_advance k a0) fun r11 => some (.ok (r11, a0.t_.s_))
def parser_label (k : Nat) (a0 : SParser) : Option (Except Pan (SParser × Str)) :=
  (if (a0.t_.kind != 1) = true then (if (a0.t_.kind != 3) = true then xbind (parser_wrong a0) fun _ => none else (parser_label_j1 k a0)) else (parser_label_j1 k a0))
def syntax_IsField_j1 (a0 : Str) (x11 : Bool) : Option Bool :=
  (if x11 = true then some false else (if (a0 == w_and) = true then (if (a0 == w_and) = true then some false else some true) else (if (a0 == w_attr) = true then (if (a0 == w_attr) = true then some false else some true) else (if (a0 == w_false) = true then (if (a0 == w_false) = true then some false else some true) else (if (a0 == w_has) = true then (if (a0 == w_has) = true then some false else some true) else (if (a0 == w_not) = true then (if (a0 == w_not) = true then some false else some true) else (if (a0 == w_or) = true then (if (a0 == w_or) = true then some false else some true) else (if (a0 == w_prefix) = true then (if (a0 == w_prefix) = true then some false else some true) else (if (a0 == w_true) = true then some false else some true)))))))))
def syntax_IsField (k : Nat) (a0 : Str) : Option Bool :=
  (syntax_isWord k a0).bind fun r16 => (if (!r16) = true then (syntax_IsField_j1 a0 true) else (syntax_IsField_j1 a0 (decide (((a0).length : Int) > 64))))
def parser_name_i1_j1 (k : Nat) (a0 : SParser) (x21 : Bool) : Option (Except Pan (SParser × Str)) :=
  (if x21 = true then xbind (parser_wrong a0) fun _ => none else xbind (parser_advance k a0) fun r31 => some (.ok (r31, a0.t_.s_)))
def parser_name_i1 (k : Nat) (a0 : SParser) : Option (Except Pan (SParser × Str)) :=
  (if (a0.t_.kind != 1) = true then (parser_name_i1_j1 k a0 true) else (syntax_IsField k a0.t_.s_).bind fun r38 => (parser_name_i1_j1 k a0 (!r38)))
def parser_path (k : Nat) (a0 : SParser) : Option (Except Pan (SParser × Str × Str)) :=
  xbind (parser_takes k a0 w_attr) fun r1 => (if r1.2 = true then xbind (parser_need k r1.1 wx2e) fun r6 => xbind (parser_label k r6) fun r11 => some (.ok (r11.1, w_attr, r11.2)) else xbind (parser_name_i1 k r1.1) fun r18 => some (.ok (r18.1, r18.2, w_0)))
def parser_int (k : Nat) (a0 : SParser) : Option (Except Pan (SParser × Int)) :=
  (if (a0.t_.kind != 2) = true then xbind (parser_wrong a0) fun _ => none else xbind (parser_advance k a0) fun r11 => some (.ok (r11, a0.t_.n_)))
def parser_value (k : Nat) (a0 : SParser) : Option (Except Pan (SParser × GValue)) :=
  (if (a0.t_.kind == 3) = true then xbind (parser_label k a0) fun r2 => some (.ok (r2.1, (GValue.mk 1 r2.2 0))) else xbind (parser_takes k a0 w_true) fun r7 => (if r7.2 = true then some (.ok (r7.1, (GValue.mk 3 w_0 1))) else xbind (parser_takes k r7.1 w_false) fun r12 => (if r12.2 = true then some (.ok (r12.1, (GValue.mk 3 w_0 0))) else xbind (parser_takes k r12.1 wx2d) fun r18 => (if r18.2 = true then xbind (parser_int k r18.1) fun r24 => some (.ok (r24.1, (GValue.mk 2 w_0 (w64 (0 - r24.2))))) else xbind (parser_int k r18.1) fun r31 => some (.ok (r31.1, (GValue.mk 2 w_0 r31.2)))))))
def parser_test_j3 (k : Nat) (r7 : SParser × Str × Str) (x98 : Str) (x99 : Int) (x100 : Int) (x101 : Int) (x102 : Str) (x103 : Int) (x104 : Int) : Option (Except Pan (SParser × GPred)) :=
  xbind (parser_value k (SParser.mk (SLexer.mk x98 x99) (SToken.mk x100 x101 x102 x103))) fun r109 => (if (r7.1.t_.s_ == wx213d) = true then some (.ok (r109.1, (GPred.mk 3 w_0 w_0 (GValue.mk 0 w_0 0) [(GPred.mk x104 r7.2.1 r7.2.2 r109.2 ([] : List GPred))]))) else (if (r7.1.t_.s_ == wx3e3d) = true then some (.ok (r109.1, (GPred.mk 3 w_0 w_0 (GValue.mk 0 w_0 0) [(GPred.mk x104 r7.2.1 r7.2.2 r109.2 ([] : List GPred))]))) else some (.ok (r109.1, (GPred.mk x104 r7.2.1 r7.2.2 r109.2 ([] : List GPred))))))
def parser_test_j5 (k : Nat) (r7 : SParser × Str × Str) (x177 : Str) (x178 : Int) (x179 : Int) (x180 : Int) (x181 : Str) (x182 : Int) (x183 : Bool) : Option (Except Pan (SParser × GPred)) :=
  (if x183 = true then (parser_test_j3 k r7 x177 x178 x179 x180 x181 x182 6) else xbind (parser_takes k (SParser.mk (SLexer.mk x177 x178) (SToken.mk x179 x180 x181 x182)) w_prefix) fun r189 => (if r189.2 = true then (if (r189.1.t_.kind != 3) = true then xbind (parser_wrong r189.1) fun _ => none else (parser_test_j3 k r7 r189.1.x_.s_ r189.1.x_.at_ r189.1.t_.kind r189.1.t_.at_ r189.1.t_.s_ r189.1.t_.n_ 7)) else xbind (parser_wrong r189.1) fun _ => none))
def parser_test_j4 (k : Nat) (r7 : SParser × Str × Str) (x154 : Str) (x155 : Int) (x156 : Int) (x157 : Int) (x158 : Str) (x159 : Int) (x160 : Bool) : Option (Except Pan (SParser × GPred)) :=
  (if x160 = true then (parser_test_j3 k r7 x154 x155 x156 x157 x158 x159 5) else xbind (parser_takes k (SParser.mk (SLexer.mk x154 x155) (SToken.mk x156 x157 x158 x159)) wx3c) fun r208 => (if r208.2 = true then (parser_test_j5 k r7 r208.1.x_.s_ r208.1.x_.at_ r208.1.t_.kind r208.1.t_.at_ r208.1.t_.s_ r208.1.t_.n_ r208.2) else xbind (parser_takes k r208.1 wx3e3d) fun r214 => (parser_test_j5 k r7 r214.1.x_.s_ r214.1.x_.at_ r214.1.t_.kind r214.1.t_.at_ r214.1.t_.s_ r214.1.t_.n_ r214.2)))
def parser_test (k : Nat) (a0 : SParser) : Option (Except Pan (SParser × GPred)) :=
  xbind (parser_path k a0) fun r7 => xbind (parser_takes k r7.1 wx3d) fun r221 => (if r221.2 = true then (parser_test_j4 k r7 r221.1.x_.s_ r221.1.x_.at_ r221.1.t_.kind r221.1.t_.at_ r221.1.t_.s_ r221.1.t_.n_ r221.2) else xbind (parser_takes k r221.1 wx213d) fun r226 => (parser_test_j4 k r7 r226.1.x_.s_ r226.1.x_.at_ r226.1.t_.kind r226.1.t_.at_ r226.1.t_.s_ r226.1.t_.n_ r226.2))
mutual
def parser_factor : Nat → SParser → Option (Except Pan (SParser × GPred))
  | 0, _ => none
  | k + 1, a0 =>
    xbind (parser_takes k a0 w_not) fun r4 => (if r4.2 = true then xbind (parser_factor k r4.1) fun r9 => some (.ok (r9.1, (GPred.mk 3 w_0 w_0 (GValue.mk 0 w_0 0) [r9.2]))) else xbind (parser_takes k r4.1 wx28) fun r22 => (if r22.2 = true then xbind (parser_predicate k r22.1) fun r27 => xbind (parser_need k r27.1 wx29) fun r37 => some (.ok (r37, r27.2)) else xbind (parser_takes k r22.1 w_true) fun r44 => (if r44.2 = true then some (.ok (r44.1, (GPred.mk 0 w_0 w_0 (GValue.mk 0 w_0 0) ([] : List GPred)))) else xbind (parser_takes k r44.1 w_has) fun r56 => (if r56.2 = true then xbind (parser_label k r56.1) fun r62 => some (.ok (r62.1, (GPred.mk 4 w_0 r62.2 (GValue.mk 0 w_0 0) ([] : List GPred)))) else xbind (parser_test k r56.1) fun r74 => some (.ok (r74.1, r74.2))))))
def parser_joined_i1_l1 : Nat → Int → Str → (List GPred) → Str → Int → Int → Int → Str → Int → Option (Except Pan (SParser × GPred))
  | 0, _, _, _, _, _, _, _, _, _ => none
  | k + 1, a1, a2, x192, x197, x198, x199, x200, x201, x202 =>
    xbind (parser_takes k (SParser.mk (SLexer.mk x197 x198) (SToken.mk x199 x200 x201 x202)) a2) fun r254 => (if r254.2 = true then xbind (parser_factor k r254.1) fun r274 => chk (decide ((x192 ++ [r274.2]).length * 96 ≤ 140737488355328)) ((parser_joined_i1_l1 k a1 a2 (x192 ++ [r274.2]) r274.1.x_.s_ r274.1.x_.at_ r274.1.t_.kind r274.1.t_.at_ r274.1.t_.s_ r274.1.t_.n_)) else (if (((x192).length : Int) == 1) = true then chk (decide ((0 : Int) ≤ 0)) ((x192[Int.toNat (0)]?).bind fun x293 => some (.ok (r254.1, x293))) else some (.ok (r254.1, (GPred.mk a1 w_0 w_0 (GValue.mk 0 w_0 0) x192)))))
def parser_joined_i1 : Nat → SParser → Int → Str → Option (Except Pan (SParser × GPred))
  | 0, _, _, _ => none
  | k + 1, a0, a1, a2 =>
    xbind (parser_factor k a0) fun r4 => (parser_joined_i1_l1 k a1 a2 [r4.2] r4.1.x_.s_ r4.1.x_.at_ r4.1.t_.kind r4.1.t_.at_ r4.1.t_.s_ r4.1.t_.n_)
def parser_conjunct : Nat → SParser → Option (Except Pan (SParser × GPred))
  | 0, _ => none
  | k + 1, a0 =>
    xbind (parser_joined_i1 k a0 1 w_and) fun r4 => some (.ok (r4.1, r4.2))
def parser_joined_l1 : Nat → Int → Str → (List GPred) → Str → Int → Int → Int → Str → Int → Option (Except Pan (SParser × GPred))
  | 0, _, _, _, _, _, _, _, _, _ => none
  | k + 1, a1, a2, x192, x197, x198, x199, x200, x201, x202 =>
    xbind (parser_takes k (SParser.mk (SLexer.mk x197 x198) (SToken.mk x199 x200 x201 x202)) a2) fun r254 => (if r254.2 = true then xbind (parser_conjunct k r254.1) fun r274 => chk (decide ((x192 ++ [r274.2]).length * 96 ≤ 140737488355328)) ((parser_joined_l1 k a1 a2 (x192 ++ [r274.2]) r274.1.x_.s_ r274.1.x_.at_ r274.1.t_.kind r274.1.t_.at_ r274.1.t_.s_ r274.1.t_.n_)) else (if (((x192).length : Int) == 1) = true then chk (decide ((0 : Int) ≤ 0)) ((x192[Int.toNat (0)]?).bind fun x293 => some (.ok (r254.1, x293))) else some (.ok (r254.1, (GPred.mk a1 w_0 w_0 (GValue.mk 0 w_0 0) x192)))))
def parser_joined : Nat → SParser → Int → Str → Option (Except Pan (SParser × GPred))
  | 0, _, _, _ => none
  | k + 1, a0, a1, a2 =>
    xbind (parser_conjunct k a0) fun r4 => (parser_joined_l1 k a1 a2 [r4.2] r4.1.x_.s_ r4.1.x_.at_ r4.1.t_.kind r4.1.t_.at_ r4.1.t_.s_ r4.1.t_.n_)
def parser_predicate : Nat → SParser → Option (Except Pan (SParser × GPred))
  | 0, _ => none
  | k + 1, a0 =>
    xbind (parser_joined k a0 2 w_or) fun r4 => some (.ok (r4.1, r4.2))
end
def parser_variable (k : Nat) (a0 : SParser) : Option (Except Pan (SParser × GVariable)) :=
  xbind (parser_name k a0) fun r2 => xbind (parser_takes k r2.1 wx7b) fun r8 => (if r8.2 = true then xbind (parser_predicate k r8.1) fun r13 => xbind (parser_need k r13.1 wx7d) fun r20 => some (.ok (r20, (GVariable.mk r2.2 r13.2))) else some (.ok (r8.1, (GVariable.mk r2.2 (GPred.mk 0 w_0 w_0 (GValue.mk 0 w_0 0) [])))))
def parser_query_c1 (k : Nat) (a0 : GQuery) (a2 : SParser) : Option (Except Pan (GQuery × SParser)) :=
  xbind (parser_variable k a2) fun r13 => chk (decide ((a0.Variables ++ [r13.2]).length * 112 ≤ 140737488355328)) (some (.ok ((GQuery.mk (a0.Variables ++ [r13.2]) a0.Relations a0.Absences a0.Slots a0.Group a0.Compute a0.Order a0.Limit), r13.1)))
def parser_list_l1 : Nat → (List GVariable) → (List GRelation) → (List GAbsence) → (List GColumn) → (List GAggregate) → (List GOrderKey) → Int → Int → Int → Str → Int → Int → Int → Str → Int → Option (Except Pan (SParser × GQuery))
  | 0, _, _, _, _, _, _, _, _, _, _, _, _, _, _, _ => none
  | k + 1, x116, x121, x126, x131, x136, x141, x146, x147, x148, x149, x150, x151, x152, x153, x154 =>
    xbind (parser_takes k (SParser.mk (SLexer.mk x149 x150) (SToken.mk x151 x152 x153 x154)) wx2c) fun r242 => (if r242.2 = true then xbind (parser_query_c1 k (GQuery.mk x116 x121 x126 (GInterval.mk x146 x147) x131 x136 x141 x148) r242.1) fun r248 => (parser_list_l1 k r248.1.Variables r248.1.Relations r248.1.Absences r248.1.Group r248.1.Compute r248.1.Order r248.1.Slots.From r248.1.Slots.To r248.1.Limit r248.2.x_.s_ r248.2.x_.at_ r248.2.t_.kind r248.2.t_.at_ r248.2.t_.s_ r248.2.t_.n_) else some (.ok (r242.1, (GQuery.mk x116 x121 x126 (GInterval.mk x146 x147) x131 x136 x141 x148))))
def parser_list (k : Nat) (a0 : SParser) (a1 : GQuery) : Option (Except Pan (SParser × GQuery)) :=
  xbind (parser_query_c1 k a1 a0) fun r1 => (parser_list_l1 k r1.1.Variables r1.1.Relations r1.1.Absences r1.1.Group r1.1.Compute r1.1.Order r1.1.Slots.From r1.1.Slots.To r1.1.Limit r1.2.x_.s_ r1.2.x_.at_ r1.2.t_.kind r1.2.t_.at_ r1.2.t_.s_ r1.2.t_.n_)
def slices_Index_string_l1 : Nat → (List Str) → Str → Int → Option Int
  | 0, _, _, _ => none
  | k + 1, a0, a1, x11 =>
    (if (decide (x11 < ((a0).length : Int))) = true then chk (decide ((0 : Int) ≤ x11)) ((a0[Int.toNat (x11)]?).bind fun x30 => (if (a1 == x30) = true then some x11 else (slices_Index_string_l1 k a0 a1 (w64 (x11 + 1))))) else some (-1))
def slices_Index_string (k : Nat) (a0 : List Str) (a1 : Str) : Option Int :=
  (slices_Index_string_l1 k a0 a1 0)
def slices_Contains_string (k : Nat) (a0 : List Str) (a1 : Str) : Option Bool :=
  (slices_Index_string k a0 a1).bind fun r1 => some (decide (r1 ≥ 0))
def parser_relation_c1 (k : Nat) (a0 : Str) : Option Bool :=
  chk (decide ((0 : Int) ≤ 1) && decide ((1 : Int) ≤ ((namesR).length : Int))) ((slices_Contains_string k (List.drop (Int.toNat 1) namesR) a0).bind fun r11 => some r11)
def parser_name_i2_j1 (k : Nat) (a0 : SParser) (x21 : Bool) : Option (Except Pan (SParser × Str)) :=
  (if x21 = true then xbind (parser_wrong a0) fun _ => none else xbind (parser_advance k a0) fun r31 => some (.ok (r31, a0.t_.s_)))
def parser_name_i2 (k : Nat) (a0 : SParser) : Option (Except Pan (SParser × Str)) :=
  (if (a0.t_.kind != 1) = true then (parser_name_i2_j1 k a0 true) else (parser_relation_c1 k a0.t_.s_).bind fun r38 => (parser_name_i2_j1 k a0 (!r38)))
def parser_relation (k : Nat) (a0 : SParser) : Option (Except Pan (SParser × Int)) :=
  xbind (parser_name_i2 k a0) fun r1 => (slices_Index_string k namesR r1.2).bind fun r11 => some (.ok (r1.1, r11))
def parser_clause (k : Nat) (a0 : SParser) (a1 : GQuery) : Option (Except Pan (SParser × GQuery)) :=
  xbind (parser_takes k a0 w_not) fun r47 => (if r47.2 = true then xbind (parser_variable k r47.1) fun r52 => xbind (parser_relation k r52.1) fun r59 => xbind (parser_name k r59.1) fun r79 => chk (decide ((a1.Absences ++ [(GAbsence.mk r52.2 r59.2 r79.2 true)]).length * 144 ≤ 140737488355328)) (some (.ok (r79.1, (GQuery.mk a1.Variables a1.Relations (a1.Absences ++ [(GAbsence.mk r52.2 r59.2 r79.2 true)]) a1.Slots a1.Group a1.Compute a1.Order a1.Limit)))) else xbind (parser_name k r47.1) fun r93 => xbind (parser_relation k r93.1) fun r98 => xbind (parser_takes k r98.1 w_not) fun r138 => (if r138.2 = true then xbind (parser_variable k r138.1) fun r158 => chk (decide ((a1.Absences ++ [(GAbsence.mk r158.2 r98.2 r93.2 false)]).length * 144 ≤ 140737488355328)) (some (.ok (r158.1, (GQuery.mk a1.Variables a1.Relations (a1.Absences ++ [(GAbsence.mk r158.2 r98.2 r93.2 false)]) a1.Slots a1.Group a1.Compute a1.Order a1.Limit)))) else xbind (parser_name k r138.1) fun r185 => chk (decide ((a1.Relations ++ [(GRelation.mk r98.2 r93.2 r185.2)]).length * 40 ≤ 140737488355328)) (some (.ok (r185.1, (GQuery.mk a1.Variables (a1.Relations ++ [(GRelation.mk r98.2 r93.2 r185.2)]) a1.Absences a1.Slots a1.Group a1.Compute a1.Order a1.Limit))))))
def parser_query_c2 (k : Nat) (a1 : SParser) (a2 : GQuery) : Option (Except Pan (SParser × GQuery)) :=
  xbind (parser_clause k a1 a2) fun r1 => some (.ok (r1.1, r1.2))
def parser_list_i1_l1 : Nat → (List GVariable) → (List GRelation) → (List GAbsence) → (List GColumn) → (List GAggregate) → (List GOrderKey) → Str → Int → Int → Int → Str → Int → Int → Int → Int → Option (Except Pan (SParser × GQuery))
  | 0, _, _, _, _, _, _, _, _, _, _, _, _, _, _, _ => none
  | k + 1, x116, x121, x126, x131, x136, x141, x146, x147, x148, x149, x150, x151, x152, x153, x154 =>
    xbind (parser_takes k (SParser.mk (SLexer.mk x146 x147) (SToken.mk x148 x149 x150 x151)) wx2c) fun r242 => (if r242.2 = true then xbind (parser_query_c2 k r242.1 (GQuery.mk x116 x121 x126 (GInterval.mk x152 x153) x131 x136 x141 x154)) fun r248 => (parser_list_i1_l1 k r248.2.Variables r248.2.Relations r248.2.Absences r248.2.Group r248.2.Compute r248.2.Order r248.1.x_.s_ r248.1.x_.at_ r248.1.t_.kind r248.1.t_.at_ r248.1.t_.s_ r248.1.t_.n_ r248.2.Slots.From r248.2.Slots.To r248.2.Limit) else some (.ok (r242.1, (GQuery.mk x116 x121 x126 (GInterval.mk x152 x153) x131 x136 x141 x154))))
def parser_list_i1 (k : Nat) (a0 : SParser) (a2 : GQuery) : Option (Except Pan (SParser × GQuery)) :=
  xbind (parser_query_c2 k a0 a2) fun r1 => (parser_list_i1_l1 k r1.2.Variables r1.2.Relations r1.2.Absences r1.2.Group r1.2.Compute r1.2.Order r1.1.x_.s_ r1.1.x_.at_ r1.1.t_.kind r1.1.t_.at_ r1.1.t_.s_ r1.1.t_.n_ r1.2.Slots.From r1.2.Slots.To r1.2.Limit)
def parser_column (k : Nat) (a0 : SParser) : Option (Except Pan (SParser × GColumn)) :=
  xbind (parser_name k a0) fun r2 => xbind (parser_need k r2.1 wx2e) fun r8 => xbind (parser_path k r8) fun r13 => some (.ok (r13.1, (GColumn.mk r2.2 r13.2.1 r13.2.2)))
def parser_query_c3 (k : Nat) (a0 : GQuery) (a2 : SParser) : Option (Except Pan (GQuery × SParser)) :=
  xbind (parser_column k a2) fun r12 => chk (decide ((a0.Group ++ [r12.2]).length * 48 ≤ 140737488355328)) (some (.ok ((GQuery.mk a0.Variables a0.Relations a0.Absences a0.Slots (a0.Group ++ [r12.2]) a0.Compute a0.Order a0.Limit), r12.1)))
def parser_list_i2_l1 : Nat → (List GVariable) → (List GRelation) → (List GAbsence) → (List GColumn) → (List GAggregate) → (List GOrderKey) → Int → Int → Int → Str → Int → Int → Int → Str → Int → Option (Except Pan (SParser × GQuery))
  | 0, _, _, _, _, _, _, _, _, _, _, _, _, _, _, _ => none
  | k + 1, x116, x121, x126, x131, x136, x141, x146, x147, x148, x149, x150, x151, x152, x153, x154 =>
    xbind (parser_takes k (SParser.mk (SLexer.mk x149 x150) (SToken.mk x151 x152 x153 x154)) wx2c) fun r242 => (if r242.2 = true then xbind (parser_query_c3 k (GQuery.mk x116 x121 x126 (GInterval.mk x146 x147) x131 x136 x141 x148) r242.1) fun r248 => (parser_list_i2_l1 k r248.1.Variables r248.1.Relations r248.1.Absences r248.1.Group r248.1.Compute r248.1.Order r248.1.Slots.From r248.1.Slots.To r248.1.Limit r248.2.x_.s_ r248.2.x_.at_ r248.2.t_.kind r248.2.t_.at_ r248.2.t_.s_ r248.2.t_.n_) else some (.ok (r242.1, (GQuery.mk x116 x121 x126 (GInterval.mk x146 x147) x131 x136 x141 x148))))
def parser_list_i2 (k : Nat) (a0 : SParser) (a1 : GQuery) : Option (Except Pan (SParser × GQuery)) :=
  xbind (parser_query_c3 k a1 a0) fun r1 => (parser_list_i2_l1 k r1.1.Variables r1.1.Relations r1.1.Absences r1.1.Group r1.1.Compute r1.1.Order r1.1.Slots.From r1.1.Slots.To r1.1.Limit r1.2.x_.s_ r1.2.x_.at_ r1.2.t_.kind r1.2.t_.at_ r1.2.t_.s_ r1.2.t_.n_)
def parser_aggregate_c1 (k : Nat) (a0 : Str) : Option Bool :=
  chk (decide ((0 : Int) ≤ 1) && decide ((1 : Int) ≤ ((namesA).length : Int))) ((slices_Contains_string k (List.drop (Int.toNat 1) namesA) a0).bind fun r11 => some r11)
def parser_name_i3_j1 (k : Nat) (a0 : SParser) (x21 : Bool) : Option (Except Pan (SParser × Str)) :=
  (if x21 = true then xbind (parser_wrong a0) fun _ => none else xbind (parser_advance k a0) fun r31 => some (.ok (r31, a0.t_.s_)))
def parser_name_i3 (k : Nat) (a0 : SParser) : Option (Except Pan (SParser × Str)) :=
  (if (a0.t_.kind != 1) = true then (parser_name_i3_j1 k a0 true) else (parser_aggregate_c1 k a0.t_.s_).bind fun r38 => (parser_name_i3_j1 k a0 (!r38)))
def parser_aggregate (k : Nat) (a0 : SParser) : Option (Except Pan (SParser × GAggregate)) :=
  xbind (parser_name_i3 k a0) fun r2 => (slices_Index_string k namesA r2.2).bind fun r12 => (if (decide (r12 ≤ 3)) = true then some (.ok (r2.1, (GAggregate.mk r12 (GColumn.mk w_0 w_0 w_0) (GFraction.mk 0 0)))) else xbind (parser_need k r2.1 wx28) fun r18 => (if (r12 == 7) = true then xbind (parser_int k r18) fun r24 => xbind (parser_need k r24.1 wx2f) fun r30 => xbind (parser_int k r30) fun r36 => xbind (parser_need k r36.1 wx2c) fun r42 => xbind (parser_column k r42) fun r48 => xbind (parser_need k r48.1 wx29) fun r54 => some (.ok (r54, (GAggregate.mk r12 r48.2 (GFraction.mk r24.2 r36.2)))) else xbind (parser_column k r18) fun r61 => xbind (parser_need k r61.1 wx29) fun r67 => some (.ok (r67, (GAggregate.mk r12 r61.2 (GFraction.mk 0 0))))))
def parser_query_c4 (k : Nat) (a0 : GQuery) (a2 : SParser) : Option (Except Pan (GQuery × SParser)) :=
  xbind (parser_aggregate k a2) fun r12 => chk (decide ((a0.Compute ++ [r12.2]).length * 72 ≤ 140737488355328)) (some (.ok ((GQuery.mk a0.Variables a0.Relations a0.Absences a0.Slots a0.Group (a0.Compute ++ [r12.2]) a0.Order a0.Limit), r12.1)))
def parser_list_i3_l1 : Nat → (List GVariable) → (List GRelation) → (List GAbsence) → (List GColumn) → (List GAggregate) → (List GOrderKey) → Int → Int → Int → Str → Int → Int → Int → Str → Int → Option (Except Pan (SParser × GQuery))
  | 0, _, _, _, _, _, _, _, _, _, _, _, _, _, _, _ => none
  | k + 1, x116, x121, x126, x131, x136, x141, x146, x147, x148, x149, x150, x151, x152, x153, x154 =>
    xbind (parser_takes k (SParser.mk (SLexer.mk x149 x150) (SToken.mk x151 x152 x153 x154)) wx2c) fun r242 => (if r242.2 = true then xbind (parser_query_c4 k (GQuery.mk x116 x121 x126 (GInterval.mk x146 x147) x131 x136 x141 x148) r242.1) fun r248 => (parser_list_i3_l1 k r248.1.Variables r248.1.Relations r248.1.Absences r248.1.Group r248.1.Compute r248.1.Order r248.1.Slots.From r248.1.Slots.To r248.1.Limit r248.2.x_.s_ r248.2.x_.at_ r248.2.t_.kind r248.2.t_.at_ r248.2.t_.s_ r248.2.t_.n_) else some (.ok (r242.1, (GQuery.mk x116 x121 x126 (GInterval.mk x146 x147) x131 x136 x141 x148))))
def parser_list_i3 (k : Nat) (a0 : SParser) (a1 : GQuery) : Option (Except Pan (SParser × GQuery)) :=
  xbind (parser_query_c4 k a1 a0) fun r1 => (parser_list_i3_l1 k r1.1.Variables r1.1.Relations r1.1.Absences r1.1.Group r1.1.Compute r1.1.Order r1.1.Slots.From r1.1.Slots.To r1.1.Limit r1.2.x_.s_ r1.2.x_.at_ r1.2.t_.kind r1.2.t_.at_ r1.2.t_.s_ r1.2.t_.n_)
def parser_query_c5 (k : Nat) (a1 : SParser) (a2 : GQuery) : Option (Except Pan (SParser × GQuery)) :=
  xbind (parser_int k a1) fun r1 => xbind (parser_takes k r1.1 w_desc) fun r7 => chk (decide ((a2.Order ++ [(GOrderKey.mk r1.2 r7.2)]).length * 16 ≤ 140737488355328)) (some (.ok (r7.1, (GQuery.mk a2.Variables a2.Relations a2.Absences a2.Slots a2.Group a2.Compute (a2.Order ++ [(GOrderKey.mk r1.2 r7.2)]) a2.Limit))))
def parser_list_i4_l1 : Nat → (List GVariable) → (List GRelation) → (List GAbsence) → (List GColumn) → (List GAggregate) → (List GOrderKey) → Str → Int → Int → Int → Str → Int → Int → Int → Int → Option (Except Pan (SParser × GQuery))
  | 0, _, _, _, _, _, _, _, _, _, _, _, _, _, _, _ => none
  | k + 1, x116, x121, x126, x131, x136, x141, x146, x147, x148, x149, x150, x151, x152, x153, x154 =>
    xbind (parser_takes k (SParser.mk (SLexer.mk x146 x147) (SToken.mk x148 x149 x150 x151)) wx2c) fun r242 => (if r242.2 = true then xbind (parser_query_c5 k r242.1 (GQuery.mk x116 x121 x126 (GInterval.mk x152 x153) x131 x136 x141 x154)) fun r248 => (parser_list_i4_l1 k r248.2.Variables r248.2.Relations r248.2.Absences r248.2.Group r248.2.Compute r248.2.Order r248.1.x_.s_ r248.1.x_.at_ r248.1.t_.kind r248.1.t_.at_ r248.1.t_.s_ r248.1.t_.n_ r248.2.Slots.From r248.2.Slots.To r248.2.Limit) else some (.ok (r242.1, (GQuery.mk x116 x121 x126 (GInterval.mk x152 x153) x131 x136 x141 x154))))
def parser_list_i4 (k : Nat) (a0 : SParser) (a2 : GQuery) : Option (Except Pan (SParser × GQuery)) :=
  xbind (parser_query_c5 k a0 a2) fun r1 => (parser_list_i4_l1 k r1.2.Variables r1.2.Relations r1.2.Absences r1.2.Group r1.2.Compute r1.2.Order r1.1.x_.s_ r1.1.x_.at_ r1.1.t_.kind r1.1.t_.at_ r1.1.t_.s_ r1.1.t_.n_ r1.2.Slots.From r1.2.Slots.To r1.2.Limit)
def parser_query_j4 (k : Nat) (x323 : List GVariable) (x328 : List GRelation) (x333 : List GAbsence) (x338 : List GColumn) (x343 : List GAggregate) (x348 : List GOrderKey) (x353 : Str) (x354 : Int) (x355 : Int) (x356 : Int) (x357 : Str) (x358 : Int) (x359 : Int) (x360 : Int) (x361 : Int) : Option (Except Pan (SParser × GQuery)) :=
  xbind (parser_takes k (SParser.mk (SLexer.mk x353 x354) (SToken.mk x355 x356 x357 x358)) w_order) fun r366 => (if r366.2 = true then xbind (parser_need k r366.1 w_by) fun r372 => xbind (parser_list_i4 k r372 (GQuery.mk x323 x328 x333 (GInterval.mk x359 x360) x338 x343 x348 x361)) fun r379 => xbind (parser_takes k r379.1 w_limit) fun r415 => (if r415.2 = true then xbind (parser_int k r415.1) fun r421 => some (.ok (r421.1, (GQuery.mk r379.2.Variables r379.2.Relations r379.2.Absences r379.2.Slots r379.2.Group r379.2.Compute r379.2.Order r421.2))) else some (.ok (r415.1, r379.2))) else xbind (parser_takes k r366.1 w_limit) fun r484 => (if r484.2 = true then xbind (parser_int k r484.1) fun r490 => some (.ok (r490.1, (GQuery.mk x323 x328 x333 (GInterval.mk x359 x360) x338 x343 x348 r490.2))) else some (.ok (r484.1, (GQuery.mk x323 x328 x333 (GInterval.mk x359 x360) x338 x343 x348 x361)))))
def parser_query_j3 (k : Nat) (x238 : List GVariable) (x243 : List GRelation) (x248 : List GAbsence) (x253 : List GColumn) (x258 : List GAggregate) (x263 : List GOrderKey) (x268 : Str) (x269 : Int) (x270 : Int) (x271 : Int) (x272 : Str) (x273 : Int) (x274 : Int) (x275 : Int) (x276 : Int) : Option (Except Pan (SParser × GQuery)) :=
  xbind (parser_takes k (SParser.mk (SLexer.mk x268 x269) (SToken.mk x270 x271 x272 x273)) w_compute) fun r554 => (if r554.2 = true then xbind (parser_list_i3 k r554.1 (GQuery.mk x238 x243 x248 (GInterval.mk x274 x275) x253 x258 x263 x276)) fun r560 => (parser_query_j4 k r560.2.Variables r560.2.Relations r560.2.Absences r560.2.Group r560.2.Compute r560.2.Order r560.1.x_.s_ r560.1.x_.at_ r560.1.t_.kind r560.1.t_.at_ r560.1.t_.s_ r560.1.t_.n_ r560.2.Slots.From r560.2.Slots.To r560.2.Limit) else (parser_query_j4 k x238 x243 x248 x253 x258 x263 r554.1.x_.s_ r554.1.x_.at_ r554.1.t_.kind r554.1.t_.at_ r554.1.t_.s_ r554.1.t_.n_ x274 x275 x276))
def parser_query_j2 (k : Nat) (x110 : List GVariable) (x115 : List GRelation) (x120 : List GAbsence) (x125 : List GColumn) (x130 : List GAggregate) (x135 : List GOrderKey) (x148 : Int) (x177 : Str) (x178 : Int) (x179 : Int) (x180 : Int) (x181 : Str) (x182 : Int) (x183 : Int) (x184 : Int) : Option (Except Pan (SParser × GQuery)) :=
  xbind (parser_takes k (SParser.mk (SLexer.mk x177 x178) (SToken.mk x179 x180 x181 x182)) w_group) fun r597 => (if r597.2 = true then xbind (parser_need k r597.1 w_by) fun r603 => xbind (parser_list_i2 k r603 (GQuery.mk x110 x115 x120 (GInterval.mk x183 x184) x125 x130 x135 x148)) fun r610 => (parser_query_j3 k r610.2.Variables r610.2.Relations r610.2.Absences r610.2.Group r610.2.Compute r610.2.Order r610.1.x_.s_ r610.1.x_.at_ r610.1.t_.kind r610.1.t_.at_ r610.1.t_.s_ r610.1.t_.n_ r610.2.Slots.From r610.2.Slots.To r610.2.Limit) else (parser_query_j3 k x110 x115 x120 x125 x130 x135 r597.1.x_.s_ r597.1.x_.at_ r597.1.t_.kind r597.1.t_.at_ r597.1.t_.s_ r597.1.t_.n_ x183 x184 x148))
def parser_query_j1 (k : Nat) (x110 : List GVariable) (x115 : List GRelation) (x120 : List GAbsence) (x125 : List GColumn) (x130 : List GAggregate) (x135 : List GOrderKey) (x140 : Str) (x141 : Int) (x142 : Int) (x143 : Int) (x144 : Str) (x145 : Int) (x146 : Int) (x147 : Int) (x148 : Int) : Option (Except Pan (SParser × GQuery)) :=
  xbind (parser_takes k (SParser.mk (SLexer.mk x140 x141) (SToken.mk x142 x143 x144 x145)) w_slots) fun r648 => (if r648.2 = true then xbind (parser_int k r648.1) fun r654 => xbind (parser_need k r654.1 wx2e2e) fun r660 => xbind (parser_int k r660) fun r666 => (parser_query_j2 k x110 x115 x120 x125 x130 x135 x148 r666.1.x_.s_ r666.1.x_.at_ r666.1.t_.kind r666.1.t_.at_ r666.1.t_.s_ r666.1.t_.n_ r654.2 r666.2) else (parser_query_j2 k x110 x115 x120 x125 x130 x135 x148 r648.1.x_.s_ r648.1.x_.at_ r648.1.t_.kind r648.1.t_.at_ r648.1.t_.s_ r648.1.t_.n_ x146 x147))
def parser_query (k : Nat) (a0 : SParser) : Option (Except Pan (SParser × GQuery)) :=
  xbind (parser_need k a0 w_find) fun r28 => xbind (parser_list k r28 (GQuery.mk [] [] [] (GInterval.mk 0 0) [] [] [] 0)) fun r33 => xbind (parser_takes k r33.1 w_where) fun r673 => (if r673.2 = true then xbind (parser_list_i1 k r673.1 r33.2) fun r679 => (parser_query_j1 k r679.2.Variables r679.2.Relations r679.2.Absences r679.2.Group r679.2.Compute r679.2.Order r679.1.x_.s_ r679.1.x_.at_ r679.1.t_.kind r679.1.t_.at_ r679.1.t_.s_ r679.1.t_.n_ r679.2.Slots.From r679.2.Slots.To r679.2.Limit) else (parser_query_j1 k r33.2.Variables r33.2.Relations r33.2.Absences r33.2.Group r33.2.Compute r33.2.Order r673.1.x_.s_ r673.1.x_.at_ r673.1.t_.kind r673.1.t_.at_ r673.1.t_.s_ r673.1.t_.n_ r33.2.Slots.From r33.2.Slots.To r33.2.Limit))
def syntax_Parse_c1 (k : Nat) (a0 : SParser) (a1 : GQuery) : Option (Except Pan (SParser × GQuery)) :=
  xbind (parser_query k a0) fun r1 => some (.ok (r1.1, r1.2))
def syntax_parse (k : Nat) (a0 : Str) (a1 : GQuery) : Option (GQuery × SFailure) :=
  (if (decide (((a0).length : Int) > 4096)) = true then some (a1, (SFailure.mk 0 5)) else xcatch (parser_advance k (SParser.mk (SLexer.mk a0 0) (SToken.mk 0 0 w_0 0))) (fun p34 => some (a1, (SFailure.mk p34.1 p34.2))) (fun r30 => xcatch (syntax_Parse_c1 k r30 a1) (fun p67 => some (a1, (SFailure.mk p67.1 p67.2))) (fun r63 => (if (r63.1.t_.kind != 0) = true then xcatch (parser_wrong r63.1) (fun p107 => some (r63.2, (SFailure.mk p107.1 p107.2))) (fun _ => none) else some (r63.2, (SFailure.mk 0 0))))))
def attribute_isTest (a0 : GPred) : Option Bool :=
  (if (a0.Op == 5) = true then some true else (if (a0.Op == 6) = true then some true else some (a0.Op == 7)))
def attribute_within_l1 : Nat → Str → Int → Int → Int → Option Bool
  | 0, _, _, _, _ => none
  | k + 1, a0, a1, a2, x9 =>
    (if (decide (x9 < ((a0).length : Int))) = true then chk (decide ((0 : Int) ≤ x9)) ((a0[Int.toNat (x9)]?).bind fun c26 => (if (decide ((c26.toNat : Int) < a1)) = true then some false else chk (decide ((0 : Int) ≤ x9)) ((a0[Int.toNat (x9)]?).bind fun c30 => (if (decide ((c30.toNat : Int) > a2)) = true then some false else (attribute_within_l1 k a0 a1 a2 (w64 (x9 + 1))))))) else some true)
def attribute_within (k : Nat) (a0 : Str) (a1 : Int) (a2 : Int) : Option Bool :=
  (attribute_within_l1 k a0 a1 a2 0)
def attribute_IsName (k : Nat) (a0 : Str) : Option Bool :=
  (if (!(a0 == w_0)) = true then (if (decide (((a0).length : Int) ≤ 64)) = true then (attribute_within k a0 33 126).bind fun r3 => some r3 else some false) else some false)
def attribute_CheckValue_j1 (a0 : GValue) (x11 : Bool) : Option Int :=
  (if (decide (((a0.Text).length : Int) > 4096)) = true then some 5 else (if (!x11) = true then some 3 else some 0))
def attribute_CheckValue (k : Nat) (a0 : GValue) : Option Int :=
  (if (a0.Kind == 1) = true then (attribute_within k a0.Text 32 126).bind fun r16 => (if r16 = true then (attribute_CheckValue_j1 a0 (a0.Int == 0)) else (attribute_CheckValue_j1 a0 false)) else (if (a0.Kind == 2) = true then (if (a0.Text == w_0) = true then (if (decide (a0.Int ≥ (-1099511627776))) = true then (attribute_CheckValue_j1 a0 (decide (a0.Int ≤ 1099511627776))) else (attribute_CheckValue_j1 a0 false)) else (attribute_CheckValue_j1 a0 false)) else (if (a0.Kind == 3) = true then (if (a0.Text == w_0) = true then (if (a0.Int == 0) = true then (attribute_CheckValue_j1 a0 true) else (attribute_CheckValue_j1 a0 (a0.Int == 1))) else (attribute_CheckValue_j1 a0 false)) else some 12)))
def attribute_checkNode_j5 (k : Nat) (a0 : GPred) : Option Int :=
  (attribute_CheckValue k a0.Value).bind fun r77 => (if (r77 != 0) = true then some r77 else (if (a0.Op == 6) = true then (if (a0.Value.Kind == 3) = true then some 13 else (if (a0.Op == 7) = true then (if (a0.Value.Kind != 1) = true then some 13 else some 0) else some 0)) else (if (a0.Op == 7) = true then (if (a0.Value.Kind != 1) = true then some 13 else some 0) else some 0)))
def attribute_checkNode_j7 (k : Nat) (a0 : GPred) (r16 : Bool) (x112 : Bool) : Option Int :=
  (if x112 = true then some 11 else (if (!r16) = true then some 0 else (attribute_IsName k a0.Field).bind fun r119 => (if (!r119) = true then some 11 else (if (a0.Field == w_attr) = true then (attribute_IsName k a0.Key).bind fun r126 => (if (!r126) = true then some 11 else (if (!(a0.Field == w_attr)) = true then (if (!(a0.Key == w_0)) = true then some 11 else (attribute_checkNode_j5 k a0)) else (attribute_checkNode_j5 k a0))) else (if (!(a0.Field == w_attr)) = true then (if (!(a0.Key == w_0)) = true then some 11 else (attribute_checkNode_j5 k a0)) else (attribute_checkNode_j5 k a0))))))
def attribute_checkNode_j6 (k : Nat) (a0 : GPred) (r16 : Bool) (x101 : Bool) : Option Int :=
  (if x101 = true then some 3 else (if (a0.Op == 4) = true then (attribute_IsName k a0.Key).bind fun r141 => (attribute_checkNode_j7 k a0 r16 (!r141)) else (attribute_checkNode_j7 k a0 r16 false)))
def attribute_checkNode_j2 (k : Nat) (a0 : GPred) (x7 : Bool) : Option Int :=
  (attribute_isTest a0).bind fun r16 => (if (!x7) = true then (attribute_checkNode_j6 k a0 r16 true) else (if (!r16) = true then (if (!(a0.Field == w_0)) = true then (attribute_checkNode_j6 k a0 r16 true) else (if (!((a0.Value.Kind == 0) && ((a0.Value.Text == w_0) && ((a0.Value.Int == 0) && true)))) = true then (attribute_checkNode_j6 k a0 r16 true) else (if (!r16) = true then (if (!(a0.Op == 4)) = true then (attribute_checkNode_j6 k a0 r16 (!(a0.Key == w_0))) else (attribute_checkNode_j6 k a0 r16 false)) else (attribute_checkNode_j6 k a0 r16 false)))) else (if (!r16) = true then (if (!(a0.Op == 4)) = true then (attribute_checkNode_j6 k a0 r16 (!(a0.Key == w_0))) else (attribute_checkNode_j6 k a0 r16 false)) else (attribute_checkNode_j6 k a0 r16 false))))
def attribute_checkNode_j8 (k : Nat) (a0 : GPred) (x153 : Bool) : Option Int :=
  (if x153 = true then (attribute_checkNode_j2 k a0 (decide (((a0.Args).length : Int) ≥ 1))) else (if (a0.Op == 3) = true then (attribute_checkNode_j2 k a0 (((a0.Args).length : Int) == 1)) else (if (a0.Op == 0) = true then (if (a0.Op == 0) = true then (attribute_checkNode_j2 k a0 (((a0.Args).length : Int) == 0)) else some 12) else (if (a0.Op == 4) = true then (if (a0.Op == 4) = true then (attribute_checkNode_j2 k a0 (((a0.Args).length : Int) == 0)) else some 12) else (if (a0.Op == 5) = true then (if (a0.Op == 5) = true then (attribute_checkNode_j2 k a0 (((a0.Args).length : Int) == 0)) else some 12) else (if (a0.Op == 6) = true then (if (a0.Op == 6) = true then (attribute_checkNode_j2 k a0 (((a0.Args).length : Int) == 0)) else some 12) else (if (a0.Op == 7) = true then (attribute_checkNode_j2 k a0 (((a0.Args).length : Int) == 0)) else some 12)))))))
def attribute_checkNode (k : Nat) (a0 : GPred) : Option Int :=
  (if (a0.Op == 1) = true then (attribute_checkNode_j8 k a0 (a0.Op == 1)) else (attribute_checkNode_j8 k a0 (a0.Op == 2)))
mutual
def attribute_Check_c1 : Nat → GPred → Int → Int → Option (Int × Int)
  | 0, _, _, _ => none
  | k + 1, a0, a1, a2 =>
    (if (decide (a2 ≥ 64)) = true then some (a2, 6) else (if (decide (a1 > 16)) = true then some (a2, 15) else (attribute_checkNode k a0).bind fun r6 => (if (r6 != 0) = true then some (w64 (a2 + 1), r6) else (attribute_Check_c1_l1 k a0 a1 (w64 (a2 + 1)) 0))))
def attribute_Check_c1_l1 : Nat → GPred → Int → Int → Int → Option (Int × Int)
  | 0, _, _, _, _ => none
  | k + 1, a0, a1, x29, x30 =>
    (if (decide (x30 < ((a0.Args).length : Int))) = true then chk (decide ((0 : Int) ≤ x30)) ((a0.Args[Int.toNat (x30)]?).bind fun x58 => (attribute_Check_c1 k x58 (w64 (a1 + 1)) x29).bind fun r71 => (if (r71.2 != 0) = true then some (r71.1, r71.2) else (attribute_Check_c1_l1 k a0 a1 r71.1 (w64 (x30 + 1))))) else some (x29, 0))
end
def attribute_Check (k : Nat) (a0 : GPred) : Option Int :=
  (attribute_Check_c1 k a0 1 0).bind fun r4 => some r4.2
def syntax_CheckPred_c1 (a0 : GPred) : Option Bool :=
  (if (a0.Op == 1) = true then some (decide (((a0.Args).length : Int) < 2)) else (if (a0.Op == 2) = true then some (decide (((a0.Args).length : Int) < 2)) else some false))
mutual
def syntax_inTree_c1 : Nat → GPred → Option Bool
  | 0, _ => none
  | k + 1, a0 =>
    (syntax_inTree k a0).bind fun r2 => some r2
def slices_IndexFunc_api_Pred_l1 : Nat → (List GPred) → Int → Option Int
  | 0, _, _ => none
  | k + 1, a0, x16 =>
    (if (decide (x16 < ((a0).length : Int))) = true then chk (decide ((0 : Int) ≤ x16)) ((a0[Int.toNat (x16)]?).bind fun x40 => (syntax_inTree_c1 k x40).bind fun r49 => (if r49 = true then some x16 else (slices_IndexFunc_api_Pred_l1 k a0 (w64 (x16 + 1))))) else some (-1))
def slices_IndexFunc_api_Pred : Nat → (List GPred) → Option Int
  | 0, _ => none
  | k + 1, a0 =>
    (slices_IndexFunc_api_Pred_l1 k a0 0)
def slices_ContainsFunc_api_Pred : Nat → (List GPred) → Option Bool
  | 0, _ => none
  | k + 1, a0 =>
    (slices_IndexFunc_api_Pred k a0).bind fun r1 => some (decide (r1 ≥ 0))
def syntax_inTree : Nat → GPred → Option Bool
  | 0, _ => none
  | k + 1, a0 =>
    (syntax_CheckPred_c1 a0).bind fun r3 => (if r3 = true then some true else (slices_ContainsFunc_api_Pred k a0.Args).bind fun r8 => some r8)
end
def syntax_CheckPred_c2 (k : Nat) (a0 : GPred) : Option Bool :=
  (if (decide (a0.Op ≥ 5)) = true then (if (!(a0.Field == w_attr)) = true then (syntax_IsField k a0.Field).bind fun r4 => some (!r4) else some false) else some false)
mutual
def syntax_inTree_c1_i1 : Nat → GPred → Option Bool
  | 0, _ => none
  | k + 1, a0 =>
    (syntax_inTree_i1 k a0).bind fun r2 => some r2
def slices_IndexFunc_api_Pred_i1_l1 : Nat → (List GPred) → Int → Option Int
  | 0, _, _ => none
  | k + 1, a0, x16 =>
    (if (decide (x16 < ((a0).length : Int))) = true then chk (decide ((0 : Int) ≤ x16)) ((a0[Int.toNat (x16)]?).bind fun x40 => (syntax_inTree_c1_i1 k x40).bind fun r49 => (if r49 = true then some x16 else (slices_IndexFunc_api_Pred_i1_l1 k a0 (w64 (x16 + 1))))) else some (-1))
def slices_IndexFunc_api_Pred_i1 : Nat → (List GPred) → Option Int
  | 0, _ => none
  | k + 1, a0 =>
    (slices_IndexFunc_api_Pred_i1_l1 k a0 0)
def slices_ContainsFunc_api_Pred_i1 : Nat → (List GPred) → Option Bool
  | 0, _ => none
  | k + 1, a0 =>
    (slices_IndexFunc_api_Pred_i1 k a0).bind fun r1 => some (decide (r1 ≥ 0))
def syntax_inTree_i1 : Nat → GPred → Option Bool
  | 0, _ => none
  | k + 1, a0 =>
    (syntax_CheckPred_c2 k a0).bind fun r3 => (if r3 = true then some true else (slices_ContainsFunc_api_Pred_i1 k a0.Args).bind fun r8 => some r8)
end
def syntax_CheckPred (k : Nat) (a0 : GPred) : Option Int :=
  (attribute_Check k a0).bind fun r2 => (if (r2 != 0) = true then some r2 else (syntax_inTree k a0).bind fun r6 => (if r6 = true then some 3 else (syntax_inTree_i1 k a0).bind fun r12 => (if r12 = true then some 11 else some 0)))
def syntax_isRelation (a0 : Int) : Option Bool :=
  (if (decide (a0 ≥ 1)) = true then some (decide (a0 < ((namesR).length : Int))) else some false)
def syntax_checkPattern_l3 : Nat → GQuery → Int → Option Int
  | 0, _, _ => none
  | k + 1, a0, x363 =>
    (if (decide (x363 < ((a0.Absences).length : Int))) = true then chk (decide ((0 : Int) ≤ x363)) ((a0.Absences[Int.toNat (x363)]?).bind fun x411 => (syntax_IsVariable k x411.Variable.Name).bind fun r426 => (if (!r426) = true then some 11 else (syntax_CheckPred k x411.Variable.Where).bind fun r435 => (if (r435 != 0) = true then some r435 else (syntax_isRelation x411.Kind).bind fun r440 => (if (!r440) = true then some 12 else (syntax_IsVariable k x411.Other).bind fun r446 => (if (!r446) = true then some 11 else (syntax_checkPattern_l3 k a0 (w64 (x363 + 1)))))))) else some 0)
def syntax_checkPattern_l2 : Nat → GQuery → Int → Option Int
  | 0, _, _ => none
  | k + 1, a0, x260 =>
    (if (decide (x260 < ((a0.Relations).length : Int))) = true then chk (decide ((0 : Int) ≤ x260)) ((a0.Relations[Int.toNat (x260)]?).bind fun x295 => (syntax_isRelation x295.Kind).bind fun r305 => (if (!r305) = true then some 12 else (syntax_IsVariable k x295.A).bind fun r310 => (if (!r310) = true then some 11 else (syntax_IsVariable k x295.B).bind fun r317 => (if (!r317) = true then some 11 else (syntax_checkPattern_l2 k a0 (w64 (x260 + 1))))))) else (syntax_checkPattern_l3 k a0 0))
def syntax_checkPattern_l1 : Nat → GQuery → Int → Option Int
  | 0, _, _ => none
  | k + 1, a0, x98 =>
    (if (decide (x98 < ((a0.Variables).length : Int))) = true then chk (decide ((0 : Int) ≤ x98)) ((a0.Variables[Int.toNat (x98)]?).bind fun x131 => (syntax_IsVariable k x131.Name).bind fun r145 => (if (!r145) = true then some 11 else (syntax_CheckPred k x131.Where).bind fun r150 => (if (r150 != 0) = true then some r150 else (syntax_checkPattern_l1 k a0 (w64 (x98 + 1)))))) else (syntax_checkPattern_l2 k a0 0))
def syntax_checkPattern (k : Nat) (a0 : GQuery) : Option Int :=
  (if (((a0.Variables).length : Int) == 0) = true then some 7 else (syntax_checkPattern_l1 k a0 0))
def syntax_isColumn (k : Nat) (a0 : GColumn) : Option Bool :=
  (syntax_IsVariable k a0.Var).bind fun r6 => (if (!r6) = true then some false else (if (a0.Field == w_attr) = true then (attribute_IsName k a0.Key).bind fun r14 => some r14 else (syntax_IsField k a0.Field).bind fun r19 => (if r19 = true then some (a0.Key == w_0) else some false)))
def syntax_checkAggregate_j3 (a0 : GAggregate) (x30 : Bool) : Option Int :=
  (if x30 = true then some 11 else (if (a0.Kind == 7) = true then (if (decide (a0.Q.Num < 0)) = true then some 2 else (if (decide (a0.Q.Num > 1048576)) = true then some 2 else (if (decide (a0.Q.Den < 1)) = true then some 2 else (if (decide (a0.Q.Den > 1048576)) = true then some 2 else some 0)))) else some 0))
def syntax_checkAggregate_j2 (k : Nat) (a0 : GAggregate) (x17 : Bool) (x18 : Bool) : Option Int :=
  (if x18 = true then some 3 else (if (!x17) = true then (syntax_isColumn k a0.Column).bind fun r47 => (syntax_checkAggregate_j3 a0 (!r47)) else (syntax_checkAggregate_j3 a0 false)))
def syntax_checkAggregate_j1 (k : Nat) (a0 : GAggregate) (x8 : Bool) : Option Int :=
  (if x8 = true then some 12 else (if (decide (a0.Kind ≤ 3)) = true then (if (!((a0.Column.Var == w_0) && ((a0.Column.Field == w_0) && ((a0.Column.Key == w_0) && true)))) = true then (syntax_checkAggregate_j2 k a0 true true) else (if (!(a0.Kind == 7)) = true then (syntax_checkAggregate_j2 k a0 true (!((a0.Q.Num == 0) && ((a0.Q.Den == 0) && true)))) else (syntax_checkAggregate_j2 k a0 true false))) else (if (!(a0.Kind == 7)) = true then (syntax_checkAggregate_j2 k a0 false (!((a0.Q.Num == 0) && ((a0.Q.Den == 0) && true)))) else (syntax_checkAggregate_j2 k a0 false false))))
def syntax_checkAggregate (k : Nat) (a0 : GAggregate) : Option Int :=
  (if (decide (a0.Kind < 1)) = true then (syntax_checkAggregate_j1 k a0 true) else (syntax_checkAggregate_j1 k a0 (decide (a0.Kind ≥ ((namesA).length : Int)))))
def syntax_checkResults_l4 : Nat → GQuery → Int → Option Int
  | 0, _, _ => none
  | k + 1, a0, x270 =>
    (if (decide (x270 < ((a0.Order).length : Int))) = true then chk (decide ((0 : Int) ≤ x270)) ((a0.Order[Int.toNat (x270)]?).bind fun x292 => (if (decide (x292.Index < 0)) = true then some 2 else (if (decide (x292.Index > 1048576)) = true then some 2 else (syntax_checkResults_l4 k a0 (w64 (x270 + 1)))))) else (if (decide (a0.Limit < 0)) = true then some 2 else (if (decide (a0.Limit > 1048576)) = true then some 2 else some 0)))
def syntax_checkResults_l3 : Nat → GQuery → Int → Option Int
  | 0, _, _ => none
  | k + 1, a0, x177 =>
    (if (decide (x177 < ((a0.Compute).length : Int))) = true then chk (decide ((0 : Int) ≤ x177)) ((a0.Compute[Int.toNat (x177)]?).bind fun x202 => (syntax_checkAggregate k x202).bind fun r212 => (if (r212 != 0) = true then some r212 else (syntax_checkResults_l3 k a0 (w64 (x177 + 1))))) else (syntax_checkResults_l4 k a0 0))
def syntax_checkResults_l2 : Nat → GQuery → Int → Option Int
  | 0, _, _ => none
  | k + 1, a0, x73 =>
    (if (decide (x73 < ((a0.Group).length : Int))) = true then chk (decide ((0 : Int) ≤ x73)) ((a0.Group[Int.toNat (x73)]?).bind fun x97 => (syntax_isColumn k x97).bind fun r107 => (if (!r107) = true then some 11 else (syntax_checkResults_l2 k a0 (w64 (x73 + 1))))) else (syntax_checkResults_l3 k a0 0))
def syntax_checkResults_j1 (k : Nat) (a0 : GQuery) (x8 : Bool) : Option Int :=
  (if x8 = true then some 2 else (syntax_checkResults_l2 k a0 0))
def syntax_checkResults (k : Nat) (a0 : GQuery) : Option Int :=
  (if (decide (a0.Slots.From < 0)) = true then (syntax_checkResults_j1 k a0 true) else (if (decide (a0.Slots.From > 1048576)) = true then (syntax_checkResults_j1 k a0 true) else (if (decide (a0.Slots.To < 0)) = true then (syntax_checkResults_j1 k a0 true) else (syntax_checkResults_j1 k a0 (decide (a0.Slots.To > 1048576))))))
def syntax_spaced_j2 (k : Nat) (a0 : SToken) (a1 : SToken) : Option Bool :=
  (if (a0.kind == 1) = true then (if (a1.kind == 4) = true then (if (a1.s_ == wx2828) = true then some false else (slices_Contains_string k namesC a1.s_).bind fun r40 => some (!r40)) else some true) else some false)
def syntax_spaced_j1 (k : Nat) (a0 : SToken) (a1 : SToken) : Option Bool :=
  (if (a1.kind == 1) = true then (if (a0.kind == 4) = true then (slices_Contains_string k namesT a0.s_).bind fun r54 => (if (!r54) = true then some true else (syntax_spaced_j2 k a0 a1)) else some true) else (syntax_spaced_j2 k a0 a1))
def syntax_spaced (k : Nat) (a0 : SToken) (a1 : SToken) : Option Bool :=
  (if (a0.kind == 4) = true then (if (a0.s_ == wx2c) = true then some true else (if (a0.s_ == wx3d) = true then some true else (if (a0.s_ == wx3c) = true then some true else (if (a1.kind == 4) = true then (if (a1.s_ == wx3d) = true then some true else (if (a1.s_ == wx3c) = true then some true else (syntax_spaced_j1 k a0 a1))) else (syntax_spaced_j1 k a0 a1))))) else (if (a1.kind == 4) = true then (if (a1.s_ == wx3d) = true then some true else (if (a1.s_ == wx3c) = true then some true else (syntax_spaced_j1 k a0 a1))) else (syntax_spaced_j1 k a0 a1)))
def writer_put_j2 (a1 : SToken) (a2 : Str) (x33 : List Int) : Option SWriter :=
  chk (decide ((x33 ++ List.map (fun b : UInt8 => (b.toNat : Int)) a2).length ≤ 140737488355328)) ((if (a1.s_ == wx2828) = true then some (SWriter.mk (x33 ++ List.map (fun b : UInt8 => (b.toNat : Int)) a2) (SToken.mk a1.kind a1.at_ wx28 a1.n_)) else some (SWriter.mk (x33 ++ List.map (fun b : UInt8 => (b.toNat : Int)) a2) a1)))
def writer_put_j3 (a0 : SWriter) (a1 : SToken) (a2 : Str) (x57 : Bool) : Option SWriter :=
  (if x57 = true then chk (decide ((a0.out ++ [32]).length * 1 ≤ 140737488355328)) ((writer_put_j2 a1 a2 (a0.out ++ [32]))) else (writer_put_j2 a1 a2 a0.out))
def writer_put (k : Nat) (a0 : SWriter) (a1 : SToken) (a2 : Str) : Option SWriter :=
  (if (decide (((a0.out).length : Int) > 0)) = true then (syntax_spaced k a0.last a1).bind fun r74 => (writer_put_j3 a0 a1 a2 r74) else (writer_put_j3 a0 a1 a2 false))
def writer_words_l1 : Nat → (List Str) → (List Int) → Int → Int → Str → Int → Int → Option SWriter
  | 0, _, _, _, _, _, _, _ => none
  | k + 1, a1, x29, x34, x35, x36, x37, x38 =>
    (if (decide (x38 < ((a1).length : Int))) = true then chk (decide ((0 : Int) ≤ x38)) ((a1[Int.toNat (x38)]?).bind fun x75 => (writer_put k (SWriter.mk x29 (SToken.mk x34 x35 x36 x37)) (SToken.mk 1 0 x75 0) x75).bind fun r83 => (writer_words_l1 k a1 r83.out r83.last.kind r83.last.at_ r83.last.s_ r83.last.n_ (w64 (x38 + 1)))) else some (SWriter.mk x29 (SToken.mk x34 x35 x36 x37)))
def writer_words (k : Nat) (a0 : SWriter) (a1 : List Str) : Option SWriter :=
  (writer_words_l1 k a1 a0.out a0.last.kind a0.last.at_ a0.last.s_ a0.last.n_ 0)
def writer_sign (k : Nat) (a0 : SWriter) (a1 : Str) : Option SWriter :=
  (writer_put k a0 (SToken.mk 4 0 a1 0) a1).bind fun r1 => some r1
mutual
def writer_text_l3 : Nat → SWriter → Str → (List Int) → Int → Option SWriter
  | 0, _, _, _, _ => none
  | k + 1, a0, a1, x70, x75 =>
    (if (decide (x75 < ((a1).length : Int))) = true then chk (decide ((0 : Int) ≤ x75)) ((a1[Int.toNat (x75)]?).bind fun c193 => (if ((c193.toNat : Int) == 34) = true then chk (decide ((x70 ++ [92]).length * 1 ≤ 140737488355328)) ((writer_text_j4 k a0 a1 x75 (x70 ++ [92]))) else chk (decide ((0 : Int) ≤ x75)) ((a1[Int.toNat (x75)]?).bind fun c203 => (if ((c203.toNat : Int) == 92) = true then chk (decide ((x70 ++ [92]).length * 1 ≤ 140737488355328)) ((writer_text_j4 k a0 a1 x75 (x70 ++ [92]))) else (writer_text_j4 k a0 a1 x75 x70))))) else chk (decide ((x70 ++ [34]).length * 1 ≤ 140737488355328)) ((writer_put k a0 (SToken.mk 3 0 w_0 0) (List.map (fun q : Int => UInt8.ofNat q.toNat) (x70 ++ [34]))).bind fun r217 => some r217))
def writer_text_j4 : Nat → SWriter → Str → Int → (List Int) → Option SWriter
  | 0, _, _, _, _ => none
  | k + 1, a0, a1, x75, x168 =>
    chk (decide ((0 : Int) ≤ x75)) ((a1[Int.toNat (x75)]?).bind fun c183 => chk (decide ((x168 ++ [(c183.toNat : Int)]).length * 1 ≤ 140737488355328)) ((writer_text_l3 k a0 a1 (x168 ++ [(c183.toNat : Int)]) (w64 (x75 + 1)))))
end
def writer_text (k : Nat) (a0 : SWriter) (a1 : Str) : Option SWriter :=
  (writer_text_l3 k a0 a1 [34] 0)
def writer_label (k : Nat) (a0 : SWriter) (a1 : Str) : Option SWriter :=
  (syntax_isWord k a1).bind fun r1 => (if r1 = true then (writer_words k a0 [a1]).bind fun r10 => some r10 else (writer_text k a0 a1).bind fun r20 => some r20)
def writer_path (k : Nat) (a0 : SWriter) (a1 : Str) (a2 : Str) : Option SWriter :=
  (writer_words k a0 [a1]).bind fun r5 => (if (a1 == w_attr) = true then (writer_sign k r5 wx2e).bind fun r14 => (writer_label k r14 a2).bind fun r24 => some r24 else some r5)
def strconv_Itoa (a0 : Int) : Option Str := chk (decide (-9223372036854775808 ≤ a0) && decide (a0 ≤ 9223372036854775807)) (some (itoaK a0))
def writer_number (k : Nat) (a0 : SWriter) (a1 : Int) : Option SWriter :=
  (if (decide (a1 < 0)) = true then (writer_sign k a0 wx2d).bind fun r1 => (strconv_Itoa (w64 (0 - a1))).bind fun r10 => (writer_put k (SWriter.mk r1.out (SToken.mk r1.last.kind r1.last.at_ r1.last.s_ r1.last.n_)) (SToken.mk 2 0 w_0 0) r10).bind fun r14 => some r14 else (strconv_Itoa a1).bind fun r25 => (writer_put k (SWriter.mk a0.out (SToken.mk a0.last.kind a0.last.at_ a0.last.s_ a0.last.n_)) (SToken.mk 2 0 w_0 0) r25).bind fun r29 => some r29)
def writer_value (k : Nat) (a0 : SWriter) (a1 : GValue) : Option SWriter :=
  (if (a1.Kind == 1) = true then (writer_text k a0 a1.Text).bind fun r2 => some r2 else (if (a1.Kind == 2) = true then (writer_number k a0 a1.Int).bind fun r11 => some r11 else chk (decide ((0 : Int) ≤ a1.Int)) ((([w_false, w_true] : List Str)[Int.toNat (a1.Int)]?).bind fun c21 => (writer_words k a0 [c21]).bind fun r27 => some r27)))
mutual
def writer_pred_j1 : Nat → SWriter → GPred → Bool → Option SWriter
  | 0, _, _, _ => none
  | k + 1, a0, a1, x16 =>
    (if x16 = true then (writer_pred_l2 k a1 a0.out a0.last.kind a0.last.at_ a0.last.s_ a0.last.n_ 0) else (if (a1.Op == 3) = true then (writer_words k a0 [w_not]).bind fun r218 => chk (decide ((0 : Int) ≤ 0)) ((a1.Args[Int.toNat (0)]?).bind fun x228 => (writer_argument k r218 x228).bind fun r238 => some r238) else (if (a1.Op == 4) = true then (writer_words k a0 [w_has]).bind fun r253 => (writer_label k r253 a1.Key).bind fun r262 => some r262 else (writer_path k a0 a1.Field a1.Key).bind fun r273 => (if (a1.Op == 5) = true then (writer_sign k r273 wx3d).bind fun r282 => (writer_value k r282 a1.Value).bind fun r292 => some r292 else (if (a1.Op == 6) = true then (writer_sign k r273 wx3c).bind fun r303 => (writer_value k r303 a1.Value).bind fun r313 => some r313 else (writer_words k r273 [w_prefix]).bind fun r328 => (writer_value k r328 a1.Value).bind fun r338 => some r338)))))
def writer_pred : Nat → SWriter → GPred → Option SWriter
  | 0, _, _ => none
  | k + 1, a0, a1 =>
    (if (a1.Op == 0) = true then (writer_words k a0 [w_true]).bind fun r6 => some r6 else (if (a1.Op == 1) = true then (writer_pred_j1 k a0 a1 (a1.Op == 1)) else (writer_pred_j1 k a0 a1 (a1.Op == 2))))
def writer_argument_j1 : Nat → SWriter → GPred → Bool → Option SWriter
  | 0, _, _, _ => none
  | k + 1, a0, a1, x3 =>
    (if x3 = true then (writer_pred k a0 a1).bind fun r9 => some r9 else (writer_sign k a0 wx28).bind fun r19 => (writer_pred k r19 a1).bind fun r29 => (writer_sign k r29 wx29).bind fun r38 => some r38)
def writer_argument : Nat → SWriter → GPred → Option SWriter
  | 0, _, _ => none
  | k + 1, a0, a1 =>
    (if (a1.Op != 1) = true then (writer_argument_j1 k a0 a1 (a1.Op != 2)) else (writer_argument_j1 k a0 a1 false))
def writer_pred_l2 : Nat → GPred → (List Int) → Int → Int → Str → Int → Int → Option SWriter
  | 0, _, _, _, _, _, _, _ => none
  | k + 1, a1, x82, x87, x88, x89, x90, x91 =>
    (if (decide (x91 < ((a1.Args).length : Int))) = true then chk (decide ((0 : Int) ≤ x91)) ((a1.Args[Int.toNat (x91)]?).bind fun x160 => (if (decide (x91 > 0)) = true then chk (decide ((0 : Int) ≤ a1.Op)) ((([w_0, w_and, w_or] : List Str)[Int.toNat (a1.Op)]?).bind fun c174 => (writer_words k (SWriter.mk x82 (SToken.mk x87 x88 x89 x90)) [c174]).bind fun r180 => (writer_argument k r180 x160).bind fun r191 => (writer_pred_l2 k a1 r191.out r191.last.kind r191.last.at_ r191.last.s_ r191.last.n_ (w64 (x91 + 1)))) else (writer_argument k (SWriter.mk x82 (SToken.mk x87 x88 x89 x90)) x160).bind fun r202 => (writer_pred_l2 k a1 r202.out r202.last.kind r202.last.at_ r202.last.s_ r202.last.n_ (w64 (x91 + 1))))) else some (SWriter.mk x82 (SToken.mk x87 x88 x89 x90)))
end
def writer_variable (k : Nat) (a0 : SWriter) (a1 : GVariable) : Option SWriter :=
  (writer_words k a0 [a1.Name]).bind fun r6 => (writer_sign k r6 wx7b).bind fun r15 => (writer_pred k r15 a1.Where).bind fun r26 => (writer_sign k r26 wx7d).bind fun r35 => some r35
def writer_query_c1 (k : Nat) (a0 : Int) (a2 : SWriter) (a3 : GQuery) : Option (SWriter × GQuery) :=
  chk (decide ((0 : Int) ≤ a0)) ((a3.Variables[Int.toNat (a0)]?).bind fun x21 => (writer_variable k a2 x21).bind fun r30 => some (r30, a3))
def writer_list_l1 : Nat → Int → (List Str) → (List Int) → Int → Int → Str → Int → (List GVariable) → (List GRelation) → (List GAbsence) → Int → Int → (List GColumn) → (List GAggregate) → (List GOrderKey) → Int → Int → Option (SWriter × GQuery)
  | 0, _, _, _, _, _, _, _, _, _, _, _, _, _, _, _, _, _ => none
  | k + 1, a1, a4, x74, x79, x80, x81, x82, x83, x85, x87, x89, x90, x91, x93, x95, x97, x98 =>
    (if (decide (x98 < a1)) = true then (if (x98 == 0) = true then (writer_words k (SWriter.mk x74 (SToken.mk x79 x80 x81 x82)) a4).bind fun r179 => (writer_query_c1 k x98 r179 (GQuery.mk x83 x85 x87 (GInterval.mk x89 x90) x91 x93 x95 x97)).bind fun r188 => (writer_list_l1 k a1 a4 r188.1.out r188.1.last.kind r188.1.last.at_ r188.1.last.s_ r188.1.last.n_ r188.2.Variables r188.2.Relations r188.2.Absences r188.2.Slots.From r188.2.Slots.To r188.2.Group r188.2.Compute r188.2.Order r188.2.Limit (w64 (x98 + 1))) else (writer_sign k (SWriter.mk x74 (SToken.mk x79 x80 x81 x82)) wx2c).bind fun r205 => (writer_query_c1 k x98 r205 (GQuery.mk x83 x85 x87 (GInterval.mk x89 x90) x91 x93 x95 x97)).bind fun r214 => (writer_list_l1 k a1 a4 r214.1.out r214.1.last.kind r214.1.last.at_ r214.1.last.s_ r214.1.last.n_ r214.2.Variables r214.2.Relations r214.2.Absences r214.2.Slots.From r214.2.Slots.To r214.2.Group r214.2.Compute r214.2.Order r214.2.Limit (w64 (x98 + 1)))) else some ((SWriter.mk x74 (SToken.mk x79 x80 x81 x82)), (GQuery.mk x83 x85 x87 (GInterval.mk x89 x90) x91 x93 x95 x97)))
def writer_list (k : Nat) (a0 : SWriter) (a1 : Int) (a3 : GQuery) (a4 : List Str) : Option (SWriter × GQuery) :=
  (writer_list_l1 k a1 a4 a0.out a0.last.kind a0.last.at_ a0.last.s_ a0.last.n_ a3.Variables a3.Relations a3.Absences a3.Slots.From a3.Slots.To a3.Group a3.Compute a3.Order a3.Limit 0)
def writer_absence (k : Nat) (a0 : SWriter) (a1 : GAbsence) : Option SWriter :=
  (if a1.First = true then (writer_words k a0 [w_not]).bind fun r99 => (writer_variable k r99 a1.Variable).bind fun r109 => chk (decide ((0 : Int) ≤ a1.Kind)) ((namesR[Int.toNat (a1.Kind)]?).bind fun x166 => (writer_words k r109 [x166, a1.Other]).bind fun r178 => some r178) else chk (decide ((0 : Int) ≤ a1.Kind)) ((namesR[Int.toNat (a1.Kind)]?).bind fun x232 => (writer_words k a0 [a1.Other, x232, w_not]).bind fun r244 => (writer_variable k r244 a1.Variable).bind fun r254 => some r254))
def writer_query_c2 (k : Nat) (a0 : Int) (a1 : GQuery) (a3 : SWriter) : Option (GQuery × SWriter) :=
  (if (decide (a0 ≥ ((a1.Relations).length : Int))) = true then chk (decide ((0 : Int) ≤ (w64 (a0 - ((a1.Relations).length : Int))))) ((a1.Absences[Int.toNat (w64 (a0 - ((a1.Relations).length : Int)))]?).bind fun x59 => (writer_absence k a3 x59).bind fun r68 => some (a1, r68)) else chk (decide ((0 : Int) ≤ a0)) ((a1.Relations[Int.toNat (a0)]?).bind fun x78 => chk (decide ((0 : Int) ≤ x78.Kind)) ((namesR[Int.toNat (x78.Kind)]?).bind fun x130 => (writer_words k a3 [x78.A, x130, x78.B]).bind fun r142 => some (a1, r142))))
def writer_list_i1_l1 : Nat → Int → (List Str) → (List Int) → Int → Int → Str → Int → (List GVariable) → (List GRelation) → (List GAbsence) → Int → Int → (List GColumn) → (List GAggregate) → (List GOrderKey) → Int → Int → Option (SWriter × GQuery)
  | 0, _, _, _, _, _, _, _, _, _, _, _, _, _, _, _, _, _ => none
  | k + 1, a1, a4, x74, x79, x80, x81, x82, x83, x85, x87, x89, x90, x91, x93, x95, x97, x98 =>
    (if (decide (x98 < a1)) = true then (if (x98 == 0) = true then (writer_words k (SWriter.mk x74 (SToken.mk x79 x80 x81 x82)) a4).bind fun r179 => (writer_query_c2 k x98 (GQuery.mk x83 x85 x87 (GInterval.mk x89 x90) x91 x93 x95 x97) r179).bind fun r188 => (writer_list_i1_l1 k a1 a4 r188.2.out r188.2.last.kind r188.2.last.at_ r188.2.last.s_ r188.2.last.n_ r188.1.Variables r188.1.Relations r188.1.Absences r188.1.Slots.From r188.1.Slots.To r188.1.Group r188.1.Compute r188.1.Order r188.1.Limit (w64 (x98 + 1))) else (writer_sign k (SWriter.mk x74 (SToken.mk x79 x80 x81 x82)) wx2c).bind fun r205 => (writer_query_c2 k x98 (GQuery.mk x83 x85 x87 (GInterval.mk x89 x90) x91 x93 x95 x97) r205).bind fun r214 => (writer_list_i1_l1 k a1 a4 r214.2.out r214.2.last.kind r214.2.last.at_ r214.2.last.s_ r214.2.last.n_ r214.1.Variables r214.1.Relations r214.1.Absences r214.1.Slots.From r214.1.Slots.To r214.1.Group r214.1.Compute r214.1.Order r214.1.Limit (w64 (x98 + 1)))) else some ((SWriter.mk x74 (SToken.mk x79 x80 x81 x82)), (GQuery.mk x83 x85 x87 (GInterval.mk x89 x90) x91 x93 x95 x97)))
def writer_list_i1 (k : Nat) (a0 : SWriter) (a1 : Int) (a2 : GQuery) (a4 : List Str) : Option (SWriter × GQuery) :=
  (writer_list_i1_l1 k a1 a4 a0.out a0.last.kind a0.last.at_ a0.last.s_ a0.last.n_ a2.Variables a2.Relations a2.Absences a2.Slots.From a2.Slots.To a2.Group a2.Compute a2.Order a2.Limit 0)
def writer_column (k : Nat) (a0 : SWriter) (a1 : GColumn) : Option SWriter :=
  (writer_words k a0 [a1.Var]).bind fun r6 => (writer_sign k r6 wx2e).bind fun r15 => (writer_path k r15 a1.Field a1.Key).bind fun r25 => some r25
def writer_query_c3 (k : Nat) (a0 : Int) (a2 : SWriter) (a3 : GQuery) : Option (SWriter × GQuery) :=
  chk (decide ((0 : Int) ≤ a0)) ((a3.Group[Int.toNat (a0)]?).bind fun x20 => (writer_column k a2 x20).bind fun r28 => some (r28, a3))
def writer_list_i2_l1 : Nat → Int → (List Str) → (List Int) → Int → Int → Str → Int → (List GVariable) → (List GRelation) → (List GAbsence) → Int → Int → (List GColumn) → (List GAggregate) → (List GOrderKey) → Int → Int → Option (SWriter × GQuery)
  | 0, _, _, _, _, _, _, _, _, _, _, _, _, _, _, _, _, _ => none
  | k + 1, a1, a4, x74, x79, x80, x81, x82, x83, x85, x87, x89, x90, x91, x93, x95, x97, x98 =>
    (if (decide (x98 < a1)) = true then (if (x98 == 0) = true then (writer_words k (SWriter.mk x74 (SToken.mk x79 x80 x81 x82)) a4).bind fun r179 => (writer_query_c3 k x98 r179 (GQuery.mk x83 x85 x87 (GInterval.mk x89 x90) x91 x93 x95 x97)).bind fun r188 => (writer_list_i2_l1 k a1 a4 r188.1.out r188.1.last.kind r188.1.last.at_ r188.1.last.s_ r188.1.last.n_ r188.2.Variables r188.2.Relations r188.2.Absences r188.2.Slots.From r188.2.Slots.To r188.2.Group r188.2.Compute r188.2.Order r188.2.Limit (w64 (x98 + 1))) else (writer_sign k (SWriter.mk x74 (SToken.mk x79 x80 x81 x82)) wx2c).bind fun r205 => (writer_query_c3 k x98 r205 (GQuery.mk x83 x85 x87 (GInterval.mk x89 x90) x91 x93 x95 x97)).bind fun r214 => (writer_list_i2_l1 k a1 a4 r214.1.out r214.1.last.kind r214.1.last.at_ r214.1.last.s_ r214.1.last.n_ r214.2.Variables r214.2.Relations r214.2.Absences r214.2.Slots.From r214.2.Slots.To r214.2.Group r214.2.Compute r214.2.Order r214.2.Limit (w64 (x98 + 1)))) else some ((SWriter.mk x74 (SToken.mk x79 x80 x81 x82)), (GQuery.mk x83 x85 x87 (GInterval.mk x89 x90) x91 x93 x95 x97)))
def writer_list_i2 (k : Nat) (a0 : SWriter) (a1 : Int) (a3 : GQuery) (a4 : List Str) : Option (SWriter × GQuery) :=
  (writer_list_i2_l1 k a1 a4 a0.out a0.last.kind a0.last.at_ a0.last.s_ a0.last.n_ a3.Variables a3.Relations a3.Absences a3.Slots.From a3.Slots.To a3.Group a3.Compute a3.Order a3.Limit 0)
def writer_aggregate (k : Nat) (a0 : SWriter) (a1 : GAggregate) : Option SWriter :=
  chk (decide ((0 : Int) ≤ a1.Kind)) ((namesA[Int.toNat (a1.Kind)]?).bind fun x8 => (writer_words k a0 [x8]).bind fun r20 => (if (decide (a1.Kind ≤ 3)) = true then some r20 else (writer_put k r20 (SToken.mk 4 0 wx2828 0) wx28).bind fun r30 => (if (a1.Kind == 7) = true then (writer_number k r30 a1.Q.Num).bind fun r40 => (writer_sign k r40 wx2f).bind fun r50 => (writer_number k r50 a1.Q.Den).bind fun r60 => (writer_sign k r60 wx2c).bind fun r70 => (writer_column k r70 a1.Column).bind fun r80 => (writer_sign k r80 wx29).bind fun r90 => some r90 else (writer_column k r30 a1.Column).bind fun r101 => (writer_sign k r101 wx29).bind fun r111 => some r111)))
def writer_query_c4 (k : Nat) (a0 : Int) (a2 : SWriter) (a3 : GQuery) : Option (SWriter × GQuery) :=
  chk (decide ((0 : Int) ≤ a0)) ((a3.Compute[Int.toNat (a0)]?).bind fun x20 => (writer_aggregate k a2 x20).bind fun r28 => some (r28, a3))
def writer_list_i3_l1 : Nat → Int → (List Str) → (List Int) → Int → Int → Str → Int → (List GVariable) → (List GRelation) → (List GAbsence) → Int → Int → (List GColumn) → (List GAggregate) → (List GOrderKey) → Int → Int → Option (SWriter × GQuery)
  | 0, _, _, _, _, _, _, _, _, _, _, _, _, _, _, _, _, _ => none
  | k + 1, a1, a4, x74, x79, x80, x81, x82, x83, x85, x87, x89, x90, x91, x93, x95, x97, x98 =>
    (if (decide (x98 < a1)) = true then (if (x98 == 0) = true then (writer_words k (SWriter.mk x74 (SToken.mk x79 x80 x81 x82)) a4).bind fun r179 => (writer_query_c4 k x98 r179 (GQuery.mk x83 x85 x87 (GInterval.mk x89 x90) x91 x93 x95 x97)).bind fun r188 => (writer_list_i3_l1 k a1 a4 r188.1.out r188.1.last.kind r188.1.last.at_ r188.1.last.s_ r188.1.last.n_ r188.2.Variables r188.2.Relations r188.2.Absences r188.2.Slots.From r188.2.Slots.To r188.2.Group r188.2.Compute r188.2.Order r188.2.Limit (w64 (x98 + 1))) else (writer_sign k (SWriter.mk x74 (SToken.mk x79 x80 x81 x82)) wx2c).bind fun r205 => (writer_query_c4 k x98 r205 (GQuery.mk x83 x85 x87 (GInterval.mk x89 x90) x91 x93 x95 x97)).bind fun r214 => (writer_list_i3_l1 k a1 a4 r214.1.out r214.1.last.kind r214.1.last.at_ r214.1.last.s_ r214.1.last.n_ r214.2.Variables r214.2.Relations r214.2.Absences r214.2.Slots.From r214.2.Slots.To r214.2.Group r214.2.Compute r214.2.Order r214.2.Limit (w64 (x98 + 1)))) else some ((SWriter.mk x74 (SToken.mk x79 x80 x81 x82)), (GQuery.mk x83 x85 x87 (GInterval.mk x89 x90) x91 x93 x95 x97)))
def writer_list_i3 (k : Nat) (a0 : SWriter) (a1 : Int) (a3 : GQuery) (a4 : List Str) : Option (SWriter × GQuery) :=
  (writer_list_i3_l1 k a1 a4 a0.out a0.last.kind a0.last.at_ a0.last.s_ a0.last.n_ a3.Variables a3.Relations a3.Absences a3.Slots.From a3.Slots.To a3.Group a3.Compute a3.Order a3.Limit 0)
def writer_query_c5 (k : Nat) (a0 : Int) (a2 : SWriter) (a3 : GQuery) : Option (SWriter × GQuery) :=
  chk (decide ((0 : Int) ≤ a0)) ((a3.Order[Int.toNat (a0)]?).bind fun x20 => (writer_number k a2 x20.Index).bind fun r28 => chk (decide ((0 : Int) ≤ a0)) ((a3.Order[Int.toNat (a0)]?).bind fun x38 => (if x38.Descending = true then (writer_words k r28 [w_desc]).bind fun r50 => some (r50, a3) else some (r28, a3))))
def writer_list_i4_l1 : Nat → Int → (List Str) → (List Int) → Int → Int → Str → Int → (List GVariable) → (List GRelation) → (List GAbsence) → Int → Int → (List GColumn) → (List GAggregate) → (List GOrderKey) → Int → Int → Option (SWriter × GQuery)
  | 0, _, _, _, _, _, _, _, _, _, _, _, _, _, _, _, _, _ => none
  | k + 1, a1, a4, x74, x79, x80, x81, x82, x83, x85, x87, x89, x90, x91, x93, x95, x97, x98 =>
    (if (decide (x98 < a1)) = true then (if (x98 == 0) = true then (writer_words k (SWriter.mk x74 (SToken.mk x79 x80 x81 x82)) a4).bind fun r179 => (writer_query_c5 k x98 r179 (GQuery.mk x83 x85 x87 (GInterval.mk x89 x90) x91 x93 x95 x97)).bind fun r188 => (writer_list_i4_l1 k a1 a4 r188.1.out r188.1.last.kind r188.1.last.at_ r188.1.last.s_ r188.1.last.n_ r188.2.Variables r188.2.Relations r188.2.Absences r188.2.Slots.From r188.2.Slots.To r188.2.Group r188.2.Compute r188.2.Order r188.2.Limit (w64 (x98 + 1))) else (writer_sign k (SWriter.mk x74 (SToken.mk x79 x80 x81 x82)) wx2c).bind fun r205 => (writer_query_c5 k x98 r205 (GQuery.mk x83 x85 x87 (GInterval.mk x89 x90) x91 x93 x95 x97)).bind fun r214 => (writer_list_i4_l1 k a1 a4 r214.1.out r214.1.last.kind r214.1.last.at_ r214.1.last.s_ r214.1.last.n_ r214.2.Variables r214.2.Relations r214.2.Absences r214.2.Slots.From r214.2.Slots.To r214.2.Group r214.2.Compute r214.2.Order r214.2.Limit (w64 (x98 + 1)))) else some ((SWriter.mk x74 (SToken.mk x79 x80 x81 x82)), (GQuery.mk x83 x85 x87 (GInterval.mk x89 x90) x91 x93 x95 x97)))
def writer_list_i4 (k : Nat) (a0 : SWriter) (a1 : Int) (a3 : GQuery) (a4 : List Str) : Option (SWriter × GQuery) :=
  (writer_list_i4_l1 k a1 a4 a0.out a0.last.kind a0.last.at_ a0.last.s_ a0.last.n_ a3.Variables a3.Relations a3.Absences a3.Slots.From a3.Slots.To a3.Group a3.Compute a3.Order a3.Limit 0)
def writer_query_j1 (k : Nat) (r26 : SWriter × GQuery) (x86 : List Int) (x91 : Int) (x92 : Int) (x93 : Str) (x94 : Int) : Option SWriter :=
  (writer_list_i2 k (SWriter.mk x86 (SToken.mk x91 x92 x93 x94)) ((r26.2.Group).length : Int) r26.2 [w_group, w_by]).bind fun r104 => (writer_list_i3 k r104.1 ((r104.2.Compute).length : Int) r104.2 [w_compute]).bind fun r124 => (writer_list_i4 k r124.1 ((r124.2.Order).length : Int) r124.2 [w_order, w_by]).bind fun r144 => (if (r144.2.Limit != 0) = true then (writer_words k r144.1 [w_limit]).bind fun r164 => (writer_number k r164 r144.2.Limit).bind fun r174 => some r174 else some r144.1)
def writer_query (k : Nat) (a0 : SWriter) (a1 : GQuery) : Option SWriter :=
  (writer_list k a0 ((a1.Variables).length : Int) a1 [w_find]).bind fun r7 => (writer_list_i1 k r7.1 (w64 (((r7.2.Relations).length : Int) + ((r7.2.Absences).length : Int))) r7.2 [w_where]).bind fun r26 => (if (!((r26.2.Slots.From == 0) && ((r26.2.Slots.To == 0) && true))) = true then (writer_words k r26.1 [w_slots]).bind fun r190 => (writer_number k r190 r26.2.Slots.From).bind fun r200 => (writer_sign k r200 wx2e2e).bind fun r210 => (writer_number k r210 r26.2.Slots.To).bind fun r220 => (writer_query_j1 k r26 r220.out r220.last.kind r220.last.at_ r220.last.s_ r220.last.n_) else (writer_query_j1 k r26 r26.1.out r26.1.last.kind r26.1.last.at_ r26.1.last.s_ r26.1.last.n_))
def syntax_Check (k : Nat) (a0 : GQuery) : Option Int :=
  (syntax_checkPattern k a0).bind fun r6 => (if (r6 != 0) = true then some r6 else (syntax_checkResults k a0).bind fun r14 => (if (r14 != 0) = true then some r14 else (writer_query k (SWriter.mk [] (SToken.mk 0 0 w_0 0)) a0).bind fun r23 => (if (decide (((r23.out).length : Int) > 4096)) = true then some 5 else some 0)))
def syntax_Parse (k : Nat) (a0 : Str) : Option (GQuery × Int × Int) :=
  (syntax_parse k a0 (GQuery.mk [] [] [] (GInterval.mk 0 0) [] [] [] 0)).bind fun r25 => (if (r25.2.e_ != 0) = true then some ((GQuery.mk [] [] [] (GInterval.mk 0 0) [] [] [] 0), r25.2.at_, r25.2.e_) else (syntax_Check k r25.1).bind fun r36 => (if (r36 != 0) = true then some ((GQuery.mk [] [] [] (GInterval.mk 0 0) [] [] [] 0), 0, r36) else some (r25.1, 0, 0)))
def syntax_Print (k : Nat) (a0 : GQuery) : Option (Str × Int) :=
  (syntax_Check k a0).bind fun r2 => (if (r2 != 0) = true then some (w_0, r2) else (writer_query k (SWriter.mk [] (SToken.mk 0 0 w_0 0)) a0).bind fun r9 => some ((List.map (fun q : Int => UInt8.ofNat q.toNat) r9.out), 0))
def syntax_ParsePred_c1 (k : Nat) (a0 : SParser) (a1 : GPred) : Option (Except Pan (SParser × GPred)) :=
  xbind (parser_predicate k a0) fun r1 => some (.ok (r1.1, r1.2))
def syntax_parse_i1 (k : Nat) (a0 : Str) (a1 : GPred) : Option (GPred × SFailure) :=
  (if (decide (((a0).length : Int) > 4096)) = true then some (a1, (SFailure.mk 0 5)) else xcatch (parser_advance k (SParser.mk (SLexer.mk a0 0) (SToken.mk 0 0 w_0 0))) (fun p10 => some (a1, (SFailure.mk p10.1 p10.2))) (fun r6 => xcatch (syntax_ParsePred_c1 k r6 a1) (fun p19 => some (a1, (SFailure.mk p19.1 p19.2))) (fun r15 => (if (r15.1.t_.kind != 0) = true then xcatch (parser_wrong r15.1) (fun p30 => some (r15.2, (SFailure.mk p30.1 p30.2))) (fun _ => none) else some (r15.2, (SFailure.mk 0 0))))))
def syntax_ParsePred (k : Nat) (a0 : Str) : Option (GPred × Int × Int) :=
  (syntax_parse_i1 k a0 (GPred.mk 0 w_0 w_0 (GValue.mk 0 w_0 0) [])).bind fun r10 => (if (r10.2.e_ != 0) = true then some ((GPred.mk 0 w_0 w_0 (GValue.mk 0 w_0 0) []), r10.2.at_, r10.2.e_) else (syntax_CheckPred k r10.1).bind fun r16 => (if (r16 != 0) = true then some ((GPred.mk 0 w_0 w_0 (GValue.mk 0 w_0 0) []), 0, r16) else some (r10.1, 0, 0)))
def syntax_PrintPred (k : Nat) (a0 : GPred) : Option (Str × Int) :=
  (syntax_CheckPred k a0).bind fun r2 => (if (r2 != 0) = true then some (w_0, r2) else (writer_pred k (SWriter.mk [] (SToken.mk 0 0 w_0 0)) a0).bind fun r9 => some ((List.map (fun q : Int => UInt8.ofNat q.toNat) r9.out), 0))
def l36_known (k : Nat) : Option Bool :=
  (syntax_Parse k wt31).bind fun r1 => (syntax_Print k r1.1).bind fun r24 => (syntax_ParsePred k wt46).bind fun r28 => (syntax_Parse k wx66696e642066696e64).bind fun r36 => (syntax_PrintPred k r28.1).bind fun r60 => (if (r1.2.2 == 0) = true then (if (r1.2.1 == 0) = true then (if (r24.2 == 0) = true then (if (r24.1 == wt48) = true then (if (r28.2.2 == 0) = true then (if (r60.2 == 0) = true then (if (r60.1 == wt49) = true then (if (r36.2.1 == 5) = true then some (r36.2.2 == 14) else some false) else some false) else some false) else some false) else some false) else some false) else some false) else some false)
end Go.Proofs.YtfnaahkgegfbnaaGreatDoor
set_option maxRecDepth 10000
namespace Go.Proofs.YtfnaahkgegfbnaaGreatDoor
mutual
def l36_samePred_j1 : Nat → GPred → GPred → Bool → Option Bool
  | 0, _, _, _ => none
  | k + 1, a0, a1, x11 =>
    (if x11 = true then some false else (l36_samePred_l2 k a0 a1 0))
def l36_samePred : Nat → GPred → GPred → Option Bool
  | 0, _, _ => none
  | k + 1, a0, a1 =>
    (if (a0.Op != a1.Op) = true then (l36_samePred_j1 k a0 a1 true) else (if (!(a0.Field == a1.Field)) = true then (l36_samePred_j1 k a0 a1 true) else (if (!(a0.Key == a1.Key)) = true then (l36_samePred_j1 k a0 a1 true) else (if (!((a0.Value.Kind == a1.Value.Kind) && ((a0.Value.Text == a1.Value.Text) && ((a0.Value.Int == a1.Value.Int) && true)))) = true then (l36_samePred_j1 k a0 a1 true) else (l36_samePred_j1 k a0 a1 (((a0.Args).length : Int) != ((a1.Args).length : Int)))))))
def l36_samePred_l2 : Nat → GPred → GPred → Int → Option Bool
  | 0, _, _, _ => none
  | k + 1, a0, a1, x66 =>
    (if (decide (x66 < ((a0.Args).length : Int))) = true then chk (decide ((0 : Int) ≤ x66)) ((a0.Args[Int.toNat (x66)]?).bind fun x149 => chk (decide ((0 : Int) ≤ x66)) ((a1.Args[Int.toNat (x66)]?).bind fun x160 => (l36_samePred k x149 x160).bind fun r169 => (if (!r169) = true then some false else (l36_samePred_l2 k a0 a1 (w64 (x66 + 1)))))) else some true)
end
end Go.Proofs.YtfnaahkgegfbnaaGreatDoor
set_option maxRecDepth 10000
namespace Go.Proofs.YtfnaahkgegfbnaaGreatDoor
def l36_same_l7 : Nat → GQuery → GQuery → Int → Option Bool
  | 0, _, _, _ => none
  | k + 1, a0, a1, x1683 =>
    (if (decide (x1683 < ((a0.Order).length : Int))) = true then chk (decide ((0 : Int) ≤ x1683)) ((a0.Order[Int.toNat (x1683)]?).bind fun x1750 => chk (decide ((0 : Int) ≤ x1683)) ((a1.Order[Int.toNat (x1683)]?).bind fun x1760 => (if (!((x1750.Index == x1760.Index) && ((x1750.Descending == x1760.Descending) && true))) = true then some false else (l36_same_l7 k a0 a1 (w64 (x1683 + 1)))))) else some true)
def l36_same_l6 : Nat → GQuery → GQuery → Int → Option Bool
  | 0, _, _, _ => none
  | k + 1, a0, a1, x1559 =>
    (if (decide (x1559 < ((a0.Compute).length : Int))) = true then chk (decide ((0 : Int) ≤ x1559)) ((a0.Compute[Int.toNat (x1559)]?).bind fun x1626 => chk (decide ((0 : Int) ≤ x1559)) ((a1.Compute[Int.toNat (x1559)]?).bind fun x1636 => (if (!((x1626.Kind == x1636.Kind) && (((x1626.Column.Var == x1636.Column.Var) && ((x1626.Column.Field == x1636.Column.Field) && ((x1626.Column.Key == x1636.Column.Key) && true))) && (((x1626.Q.Num == x1636.Q.Num) && ((x1626.Q.Den == x1636.Q.Den) && true)) && true)))) = true then some false else (l36_same_l6 k a0 a1 (w64 (x1559 + 1)))))) else (l36_same_l7 k a0 a1 0))
def l36_same_l5 : Nat → GQuery → GQuery → Int → Option Bool
  | 0, _, _, _ => none
  | k + 1, a0, a1, x1318 =>
    (if (decide (x1318 < ((a0.Group).length : Int))) = true then chk (decide ((0 : Int) ≤ x1318)) ((a0.Group[Int.toNat (x1318)]?).bind fun x1385 => chk (decide ((0 : Int) ≤ x1318)) ((a1.Group[Int.toNat (x1318)]?).bind fun x1395 => (if (!((x1385.Var == x1395.Var) && ((x1385.Field == x1395.Field) && ((x1385.Key == x1395.Key) && true)))) = true then some false else (l36_same_l5 k a0 a1 (w64 (x1318 + 1)))))) else (l36_same_l6 k a0 a1 0))
def l36_same_l4 : Nat → GQuery → GQuery → Int → Option Bool
  | 0, _, _, _ => none
  | k + 1, a0, a1, x1040 =>
    (if (decide (x1040 < ((a0.Absences).length : Int))) = true then chk (decide ((0 : Int) ≤ x1040)) ((a0.Absences[Int.toNat (x1040)]?).bind fun x1127 => chk (decide ((0 : Int) ≤ x1040)) ((a1.Absences[Int.toNat (x1040)]?).bind fun x1138 => (if (!(x1127.Variable.Name == x1138.Variable.Name)) = true then some false else (l36_samePred k x1127.Variable.Where x1138.Variable.Where).bind fun r1150 => (if (!r1150) = true then some false else (if (x1127.Kind != x1138.Kind) = true then some false else (if (!(x1127.Other == x1138.Other)) = true then some false else (if (!(x1127.First == x1138.First)) = true then some false else (l36_same_l4 k a0 a1 (w64 (x1040 + 1)))))))))) else (l36_same_l5 k a0 a1 0))
def l36_same_l3 : Nat → GQuery → GQuery → Int → Option Bool
  | 0, _, _, _ => none
  | k + 1, a0, a1, x735 =>
    (if (decide (x735 < ((a0.Relations).length : Int))) = true then chk (decide ((0 : Int) ≤ x735)) ((a0.Relations[Int.toNat (x735)]?).bind fun x802 => chk (decide ((0 : Int) ≤ x735)) ((a1.Relations[Int.toNat (x735)]?).bind fun x812 => (if (!((x802.Kind == x812.Kind) && ((x802.A == x812.A) && ((x802.B == x812.B) && true)))) = true then some false else (l36_same_l3 k a0 a1 (w64 (x735 + 1)))))) else (l36_same_l4 k a0 a1 0))
def l36_same_l2 : Nat → GQuery → GQuery → Int → Option Bool
  | 0, _, _, _ => none
  | k + 1, a0, a1, x386 =>
    (if (decide (x386 < ((a0.Variables).length : Int))) = true then chk (decide ((0 : Int) ≤ x386)) ((a0.Variables[Int.toNat (x386)]?).bind fun x532 => chk (decide ((0 : Int) ≤ x386)) ((a1.Variables[Int.toNat (x386)]?).bind fun x543 => (if (!(x532.Name == x543.Name)) = true then some false else chk (decide ((0 : Int) ≤ x386)) ((a0.Variables[Int.toNat (x386)]?).bind fun x554 => chk (decide ((0 : Int) ≤ x386)) ((a1.Variables[Int.toNat (x386)]?).bind fun x564 => (l36_samePred k x554.Where x564.Where).bind fun r573 => (if (!r573) = true then some false else (l36_same_l2 k a0 a1 (w64 (x386 + 1))))))))) else (l36_same_l3 k a0 a1 0))
def l36_same_j1 (k : Nat) (a0 : GQuery) (a1 : GQuery) (x17 : Bool) : Option Bool :=
  (if x17 = true then some false else (l36_same_l2 k a0 a1 0))
def l36_same (k : Nat) (a0 : GQuery) (a1 : GQuery) : Option Bool :=
  (if (((a0.Variables).length : Int) != ((a1.Variables).length : Int)) = true then (l36_same_j1 k a0 a1 true) else (if (((a0.Relations).length : Int) != ((a1.Relations).length : Int)) = true then (l36_same_j1 k a0 a1 true) else (if (((a0.Absences).length : Int) != ((a1.Absences).length : Int)) = true then (l36_same_j1 k a0 a1 true) else (if (!((a0.Slots.From == a1.Slots.From) && ((a0.Slots.To == a1.Slots.To) && true))) = true then (l36_same_j1 k a0 a1 true) else (if (((a0.Group).length : Int) != ((a1.Group).length : Int)) = true then (l36_same_j1 k a0 a1 true) else (if (((a0.Compute).length : Int) != ((a1.Compute).length : Int)) = true then (l36_same_j1 k a0 a1 true) else (if (((a0.Order).length : Int) != ((a1.Order).length : Int)) = true then (l36_same_j1 k a0 a1 true) else (l36_same_j1 k a0 a1 (a0.Limit != a1.Limit)))))))))
end Go.Proofs.YtfnaahkgegfbnaaGreatDoor
set_option maxRecDepth 10000
namespace Go.Proofs.YtfnaahkgegfbnaaGreatDoor
def l36_begins (a0 : Int) : Option Bool :=
  (if (decide (a0 ≥ 65)) = true then (if (decide (a0 ≤ 90)) = true then some true else (if (decide (a0 ≥ 97)) = true then (if (decide (a0 ≤ 122)) = true then some true else some (a0 == 95)) else some (a0 == 95))) else (if (decide (a0 ≥ 97)) = true then (if (decide (a0 ≤ 122)) = true then some true else some (a0 == 95)) else some (a0 == 95)))
def l36_digit (a0 : Int) : Option Bool :=
  (if (decide (a0 ≥ 48)) = true then some (decide (a0 ≤ 57)) else some false)
end Go.Proofs.YtfnaahkgegfbnaaGreatDoor
set_option maxRecDepth 10000
namespace Go.Proofs.YtfnaahkgegfbnaaGreatDoor
def l36_reserved : Option (List Str) :=
  some [w_and, w_attr, w_false, w_has, w_not, w_or, w_prefix, w_true, w_ancestor, w_before, w_by, w_compute, w_desc, w_distinct, w_estimate, w_find, w_greatest, w_group, w_least, w_limit, w_link, w_matches, w_order, w_parent, w_quantile, w_sibling, w_slots, w_sum, w_traces, w_where]
def l36_word_l1 : Nat → Str → Int → Option Bool
  | 0, _, _ => none
  | k + 1, a0, x22 =>
    (if (decide (x22 < ((a0).length : Int))) = true then chk (decide ((0 : Int) ≤ x22)) ((a0[Int.toNat (x22)]?).bind fun c52 => (l36_begins (c52.toNat : Int)).bind fun r54 => (if (!r54) = true then (if (x22 == 0) = true then some false else chk (decide ((0 : Int) ≤ x22)) ((a0[Int.toNat (x22)]?).bind fun c62 => (l36_digit (c62.toNat : Int)).bind fun r64 => (if (!r64) = true then chk (decide ((0 : Int) ≤ x22)) ((a0[Int.toNat (x22)]?).bind fun c70 => (if ((c70.toNat : Int) != 45) = true then some false else (l36_word_l1 k a0 (w64 (x22 + 1))))) else (l36_word_l1 k a0 (w64 (x22 + 1)))))) else (l36_word_l1 k a0 (w64 (x22 + 1))))) else some (!(a0 == w_0)))
def l36_word (k : Nat) (a0 : Str) : Option Bool :=
  (l36_word_l1 k a0 0)
def l36_among_l1 : Nat → Str → Int → Int → Option Bool
  | 0, _, _, _ => none
  | k + 1, a0, a1, x16 =>
    (if (decide (x16 < a1)) = true then (l36_reserved).bind fun r39 => chk (decide ((0 : Int) ≤ x16)) ((r39[Int.toNat (x16)]?).bind fun x45 => (if (x45 == a0) = true then some true else (l36_among_l1 k a0 a1 (w64 (x16 + 1))))) else some false)
def l36_among (k : Nat) (a0 : Str) (a1 : Int) : Option Bool :=
  (l36_among_l1 k a0 a1 0)
def l36_field (k : Nat) (a0 : Str) : Option Bool :=
  (l36_word k a0).bind fun r1 => (if r1 = true then (if (decide (((a0).length : Int) ≤ 64)) = true then (l36_among k a0 8).bind fun r7 => some (!r7) else some false) else some false)
end Go.Proofs.YtfnaahkgegfbnaaGreatDoor
set_option maxRecDepth 10000
namespace Go.Proofs.YtfnaahkgegfbnaaGreatDoor
mutual
def l36_fits_j1 : Nat → GPred → Bool → Option Bool
  | 0, _, _ => none
  | k + 1, a0, x12 =>
    (l36_fits_l2 k a0 x12 0)
def l36_fits : Nat → GPred → Bool → Option Bool
  | 0, _, _ => none
  | k + 1, a0, a1 =>
    (if a1 = true then (if (decide (a0.Op ≥ 5)) = true then (l36_field k a0.Field).bind fun r76 => (if (!r76) = true then (if (!(a0.Field == w_attr)) = true then some false else (l36_fits_j1 k a0 true)) else (l36_fits_j1 k a0 true)) else (l36_fits_j1 k a0 true)) else (if (a0.Op == 1) = true then (if (decide (((a0.Args).length : Int) < 2)) = true then some false else (l36_fits_j1 k a0 false)) else (if (a0.Op == 2) = true then (if (decide (((a0.Args).length : Int) < 2)) = true then some false else (l36_fits_j1 k a0 false)) else (l36_fits_j1 k a0 false))))
def l36_fits_l2 : Nat → GPred → Bool → Int → Option Bool
  | 0, _, _, _ => none
  | k + 1, a0, x12, x33 =>
    (if (decide (x33 < ((a0.Args).length : Int))) = true then chk (decide ((0 : Int) ≤ x33)) ((a0.Args[Int.toNat (x33)]?).bind fun x57 => (l36_fits k x57 x12).bind fun r67 => (if (!r67) = true then some false else (l36_fits_l2 k a0 x12 (w64 (x33 + 1))))) else some true)
end
def l36_checkPred (k : Nat) (a0 : GPred) : Option Int :=
  (attribute_Check k a0).bind fun r6 => (if (r6 != 0) = true then some r6 else (l36_fits k a0 false).bind fun r10 => (if (!r10) = true then some 3 else (l36_fits k a0 true).bind fun r16 => (if (!r16) = true then some 11 else some 0)))
mutual
def l36_quoted_l3 : Nat → Str → (List Int) → Int → Option Str
  | 0, _, _, _ => none
  | k + 1, a0, x70, x75 =>
    (if (decide (x75 < ((a0).length : Int))) = true then chk (decide ((0 : Int) ≤ x75)) ((a0[Int.toNat (x75)]?).bind fun c193 => (if ((c193.toNat : Int) == 34) = true then chk (decide ((x70 ++ [92]).length * 1 ≤ 140737488355328)) ((l36_quoted_j4 k a0 x75 (x70 ++ [92]))) else chk (decide ((0 : Int) ≤ x75)) ((a0[Int.toNat (x75)]?).bind fun c203 => (if ((c203.toNat : Int) == 92) = true then chk (decide ((x70 ++ [92]).length * 1 ≤ 140737488355328)) ((l36_quoted_j4 k a0 x75 (x70 ++ [92]))) else (l36_quoted_j4 k a0 x75 x70))))) else chk (decide ((x70 ++ [34]).length * 1 ≤ 140737488355328)) (some (List.map (fun q : Int => UInt8.ofNat q.toNat) (x70 ++ [34]))))
def l36_quoted_j4 : Nat → Str → Int → (List Int) → Option Str
  | 0, _, _, _ => none
  | k + 1, a0, x75, x168 =>
    chk (decide ((0 : Int) ≤ x75)) ((a0[Int.toNat (x75)]?).bind fun c183 => chk (decide ((x168 ++ [(c183.toNat : Int)]).length * 1 ≤ 140737488355328)) ((l36_quoted_l3 k a0 (x168 ++ [(c183.toNat : Int)]) (w64 (x75 + 1)))))
end
def l36_quoted (k : Nat) (a0 : Str) : Option Str :=
  (l36_quoted_l3 k a0 [34] 0)
def l36_label (k : Nat) (a0 : Str) : Option Str :=
  (l36_word k a0).bind fun r1 => (if r1 = true then some a0 else (l36_quoted k a0).bind fun r5 => some r5)
def l36_decimal : Nat → Int → Option Str
  | 0, _ => none
  | k + 1, a0 =>
    (if (decide (a0 < 0)) = true then (l36_decimal k (w64 (0 - a0))).bind fun r6 => chk (decide ((wx2d ++ r6).length ≤ 9223372036854775807)) (some (wx2d ++ r6)) else (if (decide (a0 < 10)) = true then some (List.map (fun q : Int => UInt8.ofNat q.toNat) [IntKind.u8.wrap (w64 (48 + a0))]) else (l36_decimal k (w64 (a0.tdiv 10))).bind fun r14 => (l36_decimal k (a0.tmod 10)).bind fun r18 => chk (decide ((r14 ++ r18).length ≤ 9223372036854775807)) (some (r14 ++ r18))))
def l36_value (k : Nat) (a0 : GValue) : Option Str :=
  (if (a0.Kind == 1) = true then (l36_quoted k a0.Text).bind fun r2 => some r2 else (if (a0.Kind == 2) = true then (l36_decimal k a0.Int).bind fun r6 => some r6 else (if (a0.Int == 1) = true then some w_true else some w_false)))
mutual
def l36_pred_j3 : Nat → GPred → Str → Option Str
  | 0, _, _ => none
  | k + 1, a0, x19 =>
    chk (decide ((0 : Int) ≤ 0)) ((a0.Args[Int.toNat (0)]?).bind fun x26 => (l36_part k x26).bind fun r36 => (l36_pred_l4 k a0 x19 r36 1))
def l36_pred_j2 : Nat → GPred → Str → Bool → Option Str
  | 0, _, _, _ => none
  | k + 1, a0, x7, x13 =>
    (if x13 = true then (if (a0.Op == 2) = true then (l36_pred_j3 k a0 wx206f7220) else (l36_pred_j3 k a0 wx20616e6420)) else (if (a0.Op == 3) = true then chk (decide ((0 : Int) ≤ 0)) ((a0.Args[Int.toNat (0)]?).bind fun x107 => (l36_part k x107).bind fun r117 => chk (decide ((wx6e6f7420 ++ r117).length ≤ 9223372036854775807)) (some (wx6e6f7420 ++ r117))) else (if (a0.Op == 4) = true then (l36_label k a0.Key).bind fun r123 => chk (decide ((wx68617320 ++ r123).length ≤ 9223372036854775807)) (some (wx68617320 ++ r123)) else (if (a0.Op == 5) = true then chk (decide ((x7 ++ wx203d20).length ≤ 9223372036854775807)) ((l36_value k a0.Value).bind fun r130 => chk (decide (((x7 ++ wx203d20) ++ r130).length ≤ 9223372036854775807)) (some ((x7 ++ wx203d20) ++ r130))) else (if (a0.Op == 6) = true then chk (decide ((x7 ++ wx203c20).length ≤ 9223372036854775807)) ((l36_value k a0.Value).bind fun r137 => chk (decide (((x7 ++ wx203c20) ++ r137).length ≤ 9223372036854775807)) (some ((x7 ++ wx203c20) ++ r137))) else (if (a0.Op == 7) = true then chk (decide ((x7 ++ wx2070726566697820).length ≤ 9223372036854775807)) ((l36_value k a0.Value).bind fun r144 => chk (decide (((x7 ++ wx2070726566697820) ++ r144).length ≤ 9223372036854775807)) (some ((x7 ++ wx2070726566697820) ++ r144))) else some w_true))))))
def l36_pred_j1 : Nat → GPred → Str → Option Str
  | 0, _, _ => none
  | k + 1, a0, x7 =>
    (if (a0.Op == 1) = true then (l36_pred_j2 k a0 x7 (a0.Op == 1)) else (l36_pred_j2 k a0 x7 (a0.Op == 2)))
def l36_pred : Nat → GPred → Option Str
  | 0, _ => none
  | k + 1, a0 =>
    (if (a0.Field == w_attr) = true then (l36_label k a0.Key).bind fun r151 => chk (decide ((wx617474722e ++ r151).length ≤ 9223372036854775807)) ((l36_pred_j1 k a0 (wx617474722e ++ r151))) else (l36_pred_j1 k a0 a0.Field))
def l36_part : Nat → GPred → Option Str
  | 0, _ => none
  | k + 1, a0 =>
    (if (a0.Op == 1) = true then (l36_pred k a0).bind fun r3 => chk (decide ((wx28 ++ r3).length ≤ 9223372036854775807)) (chk (decide (((wx28 ++ r3) ++ wx29).length ≤ 9223372036854775807)) (some ((wx28 ++ r3) ++ wx29))) else (if (a0.Op == 2) = true then (l36_pred k a0).bind fun r9 => chk (decide ((wx28 ++ r9).length ≤ 9223372036854775807)) (chk (decide (((wx28 ++ r9) ++ wx29).length ≤ 9223372036854775807)) (some ((wx28 ++ r9) ++ wx29))) else (l36_pred k a0).bind fun r15 => some r15))
def l36_pred_l4 : Nat → GPred → Str → Str → Int → Option Str
  | 0, _, _, _, _ => none
  | k + 1, a0, x19, x59, x60 =>
    (if (decide (x60 < ((a0.Args).length : Int))) = true then chk (decide ((x59 ++ x19).length ≤ 9223372036854775807)) (chk (decide ((0 : Int) ≤ x60)) ((a0.Args[Int.toNat (x60)]?).bind fun x89 => (l36_part k x89).bind fun r99 => chk (decide (((x59 ++ x19) ++ r99).length ≤ 9223372036854775807)) ((l36_pred_l4 k a0 x19 ((x59 ++ x19) ++ r99) (w64 (x60 + 1)))))) else some x59)
end
end Go.Proofs.YtfnaahkgegfbnaaGreatDoor
set_option maxRecDepth 10000
namespace Go.Proofs.YtfnaahkgegfbnaaGreatDoor
def l36_variable (k : Nat) (a0 : Str) : Option Bool :=
  (l36_word k a0).bind fun r1 => (if r1 = true then (if (decide (((a0).length : Int) ≤ 64)) = true then (l36_reserved).bind fun r7 => (l36_among k a0 ((r7).length : Int)).bind fun r12 => some (!r12) else some false) else some false)
end Go.Proofs.YtfnaahkgegfbnaaGreatDoor
set_option maxRecDepth 10000
namespace Go.Proofs.YtfnaahkgegfbnaaGreatDoor
def l36_relations : Option (List Str) :=
  some [w_0, w_parent, w_ancestor, w_sibling, w_before, w_link]
def l36_aggregates : Option (List Str) :=
  some [w_0, w_matches, w_traces, w_estimate, w_sum, w_least, w_greatest, w_quantile, w_distinct]
mutual
def l36_checkFirst_j12 : Nat → GQuery → Int → GAbsence → Bool → Option Int
  | 0, _, _, _, _ => none
  | k + 1, a0, x512, x564, x596 =>
    (if x596 = true then some 12 else (l36_variable k x564.Other).bind fun r603 => (if (!r603) = true then some 11 else (l36_checkFirst_l11 k a0 (w64 (x512 + 1)))))
def l36_checkFirst_l11 : Nat → GQuery → Int → Option Int
  | 0, _, _ => none
  | k + 1, a0, x512 =>
    (if (decide (x512 < ((a0.Absences).length : Int))) = true then chk (decide ((0 : Int) ≤ x512)) ((a0.Absences[Int.toNat (x512)]?).bind fun x564 => (l36_variable k x564.Variable.Name).bind fun r579 => (if (!r579) = true then some 11 else (l36_checkPred k x564.Variable.Where).bind fun r588 => (if (r588 != 0) = true then some r588 else (if (decide (x564.Kind < 1)) = true then (l36_checkFirst_j12 k a0 x512 x564 true) else (l36_checkFirst_j12 k a0 x512 x564 (decide (x564.Kind > 5))))))) else some 0)
end
mutual
def l36_checkFirst_l7 : Nat → GQuery → Int → Option Int
  | 0, _, _ => none
  | k + 1, a0, x395 =>
    (if (decide (x395 < ((a0.Relations).length : Int))) = true then chk (decide ((0 : Int) ≤ x395)) ((a0.Relations[Int.toNat (x395)]?).bind fun x435 => (if (decide (x435.Kind < 1)) = true then (l36_checkFirst_j8 k a0 x395 x435 true) else (l36_checkFirst_j8 k a0 x395 x435 (decide (x435.Kind > 5))))) else (l36_checkFirst_l11 k a0 0))
def l36_checkFirst_j8 : Nat → GQuery → Int → GRelation → Bool → Option Int
  | 0, _, _, _, _ => none
  | k + 1, a0, x395, x435, x449 =>
    (if x449 = true then some 12 else (l36_variable k x435.A).bind fun r456 => (if (!r456) = true then some 11 else (l36_variable k x435.B).bind fun r462 => (if (!r462) = true then some 11 else (l36_checkFirst_l7 k a0 (w64 (x395 + 1))))))
end
def l36_checkFirst_l1 : Nat → GQuery → Int → Option Int
  | 0, _, _ => none
  | k + 1, a0, x174 =>
    (if (decide (x174 < ((a0.Variables).length : Int))) = true then chk (decide ((0 : Int) ≤ x174)) ((a0.Variables[Int.toNat (x174)]?).bind fun x240 => (l36_variable k x240.Name).bind fun r249 => (if (!r249) = true then some 11 else chk (decide ((0 : Int) ≤ x174)) ((a0.Variables[Int.toNat (x174)]?).bind fun x255 => (l36_checkPred k x255.Where).bind fun r265 => (if (r265 != 0) = true then some r265 else (l36_checkFirst_l1 k a0 (w64 (x174 + 1))))))) else (l36_checkFirst_l7 k a0 0))
def l36_checkFirst (k : Nat) (a0 : GQuery) : Option Int :=
  (if (((a0.Variables).length : Int) == 0) = true then some 7 else (l36_checkFirst_l1 k a0 0))
def l36_checkColumn (k : Nat) (a0 : GColumn) : Option Int :=
  (l36_variable k a0.Var).bind fun r2 => (if (!r2) = true then some 11 else (l36_field k a0.Field).bind fun r7 => (if r7 = true then (if (a0.Key == w_0) = true then some 0 else (if (a0.Field == w_attr) = true then (attribute_IsName k a0.Key).bind fun r15 => (if (!r15) = true then some 11 else some 0) else some 11)) else (if (a0.Field == w_attr) = true then (attribute_IsName k a0.Key).bind fun r23 => (if (!r23) = true then some 11 else some 0) else some 11)))
def l36_checkAggregate_j3 (a0 : GAggregate) : Option Int :=
  (if (a0.Kind == 7) = true then (if (decide (a0.Q.Num < 0)) = true then some 2 else (if (decide (a0.Q.Num > 1048576)) = true then some 2 else (if (decide (a0.Q.Den < 1)) = true then some 2 else (if (decide (a0.Q.Den > 1048576)) = true then some 2 else some 0)))) else some 0)
def l36_checkAggregate_j2 (k : Nat) (a0 : GAggregate) : Option Int :=
  (if (decide (a0.Kind > 3)) = true then (l36_checkColumn k a0.Column).bind fun r38 => (if (r38 != 0) = true then some 11 else (l36_checkAggregate_j3 a0)) else (l36_checkAggregate_j3 a0))
def l36_checkAggregate_j1 (k : Nat) (a0 : GAggregate) (x4 : Bool) : Option Int :=
  (if x4 = true then some 12 else (if (decide (a0.Kind ≤ 3)) = true then (if (!((a0.Column.Var == w_0) && ((a0.Column.Field == w_0) && ((a0.Column.Key == w_0) && true)))) = true then some 3 else (if (a0.Kind != 7) = true then (if ((orI .i64 a0.Q.Num a0.Q.Den) != 0) = true then some 3 else (l36_checkAggregate_j2 k a0)) else (l36_checkAggregate_j2 k a0))) else (if (a0.Kind != 7) = true then (if ((orI .i64 a0.Q.Num a0.Q.Den) != 0) = true then some 3 else (l36_checkAggregate_j2 k a0)) else (l36_checkAggregate_j2 k a0))))
def l36_checkAggregate (k : Nat) (a0 : GAggregate) : Option Int :=
  (if (decide (a0.Kind < 1)) = true then (l36_checkAggregate_j1 k a0 true) else (l36_checkAggregate_j1 k a0 (decide (a0.Kind > 8))))
def l36_columnText (k : Nat) (a0 : GColumn) : Option Str :=
  (if (a0.Field == w_attr) = true then chk (decide ((a0.Var ++ wx2e617474722e).length ≤ 9223372036854775807)) ((l36_label k a0.Key).bind fun r9 => chk (decide (((a0.Var ++ wx2e617474722e) ++ r9).length ≤ 9223372036854775807)) (some ((a0.Var ++ wx2e617474722e) ++ r9))) else chk (decide ((a0.Var ++ wx2e).length ≤ 9223372036854775807)) (chk (decide (((a0.Var ++ wx2e) ++ a0.Field).length ≤ 9223372036854775807)) (some ((a0.Var ++ wx2e) ++ a0.Field))))
mutual
def l36_list_l3 : Nat → Str → (List Str) → Str → Int → Option Str
  | 0, _, _, _, _ => none
  | k + 1, a0, a1, x20, x21 =>
    (if (decide (x21 < ((a1).length : Int))) = true then (if (x21 == 0) = true then (l36_list_j4 k a0 a1 x21 a0) else chk (decide ((x20 ++ wx2c20).length ≤ 9223372036854775807)) ((l36_list_j4 k a0 a1 x21 (x20 ++ wx2c20)))) else some x20)
def l36_list_j4 : Nat → Str → (List Str) → Int → Str → Option Str
  | 0, _, _, _, _ => none
  | k + 1, a0, a1, x21, x49 =>
    chk (decide ((0 : Int) ≤ x21)) ((a1[Int.toNat (x21)]?).bind fun x56 => chk (decide ((x49 ++ x56).length ≤ 9223372036854775807)) ((l36_list_l3 k a0 a1 (x49 ++ x56) (w64 (x21 + 1)))))
end
def l36_list (k : Nat) (a0 : Str) (a1 : List Str) : Option Str :=
  (l36_list_l3 k a0 a1 w_0 0)
def l36_query_j7 : Nat → GQuery → (List Str) → (List Str) → (List Str) → Str → Option Str
  | 0, _, _, _, _, _ => none
  | k + 1, a0, x1476, x1981, x2384, x2520 =>
    (l36_list k wx2067726f757020627920 x1476).bind fun r2530 => chk (decide ((x2520 ++ r2530).length ≤ 9223372036854775807)) ((l36_list k wx20636f6d7075746520 x1981).bind fun r2539 => chk (decide (((x2520 ++ r2530) ++ r2539).length ≤ 9223372036854775807)) ((l36_list k wx206f7264657220627920 x2384).bind fun r2548 => chk (decide ((((x2520 ++ r2530) ++ r2539) ++ r2548).length ≤ 9223372036854775807)) ((if (a0.Limit != 0) = true then chk (decide (((((x2520 ++ r2530) ++ r2539) ++ r2548) ++ wx206c696d697420).length ≤ 9223372036854775807)) ((l36_decimal k a0.Limit).bind fun r2554 => chk (decide ((((((x2520 ++ r2530) ++ r2539) ++ r2548) ++ wx206c696d697420) ++ r2554).length ≤ 9223372036854775807)) (some (((((x2520 ++ r2530) ++ r2539) ++ r2548) ++ wx206c696d697420) ++ r2554))) else some (((x2520 ++ r2530) ++ r2539) ++ r2548)))))
def l36_query_l6 : Nat → GQuery → (List Str) → (List Str) → (List Str) → (List Str) → (List Str) → Int → Option Str
  | 0, _, _, _, _, _, _, _ => none
  | k + 1, a0, x300, x1191, x1476, x1981, x2384, x2389 =>
    (if (decide (x2389 < ((a0.Order).length : Int))) = true then chk (decide ((0 : Int) ≤ x2389)) ((a0.Order[Int.toNat (x2389)]?).bind fun x2441 => (l36_decimal k x2441.Index).bind fun r2450 => chk (decide ((0 : Int) ≤ x2389)) ((a0.Order[Int.toNat (x2389)]?).bind fun x2455 => (if x2455.Descending = true then chk (decide ((r2450 ++ wx2064657363).length ≤ 9223372036854775807)) (chk (decide ((x2384 ++ [(r2450 ++ wx2064657363)]).length * 16 ≤ 140737488355328)) ((l36_query_l6 k a0 x300 x1191 x1476 x1981 (x2384 ++ [(r2450 ++ wx2064657363)]) (w64 (x2389 + 1))))) else chk (decide ((x2384 ++ [r2450]).length * 16 ≤ 140737488355328)) ((l36_query_l6 k a0 x300 x1191 x1476 x1981 (x2384 ++ [r2450]) (w64 (x2389 + 1))))))) else (l36_list k wx66696e6420 x300).bind fun r2483 => (l36_list k wx20776865726520 x1191).bind fun r2491 => chk (decide ((r2483 ++ r2491).length ≤ 9223372036854775807)) ((if ((orI .i64 a0.Slots.From a0.Slots.To) != 0) = true then chk (decide (((r2483 ++ r2491) ++ wx20736c6f747320).length ≤ 9223372036854775807)) ((l36_decimal k a0.Slots.From).bind fun r2574 => chk (decide ((((r2483 ++ r2491) ++ wx20736c6f747320) ++ r2574).length ≤ 9223372036854775807)) (chk (decide (((((r2483 ++ r2491) ++ wx20736c6f747320) ++ r2574) ++ wx2e2e).length ≤ 9223372036854775807)) ((l36_decimal k a0.Slots.To).bind fun r2580 => chk (decide ((((((r2483 ++ r2491) ++ wx20736c6f747320) ++ r2574) ++ wx2e2e) ++ r2580).length ≤ 9223372036854775807)) ((l36_query_j7 k a0 x1476 x1981 x2384 (((((r2483 ++ r2491) ++ wx20736c6f747320) ++ r2574) ++ wx2e2e) ++ r2580)))))) else (l36_query_j7 k a0 x1476 x1981 x2384 (r2483 ++ r2491)))))
def l36_query_l5 : Nat → GQuery → (List Str) → (List Str) → (List Str) → (List Str) → Int → Option Str
  | 0, _, _, _, _, _, _ => none
  | k + 1, a0, x300, x1191, x1476, x1981, x1986 =>
    (if (decide (x1986 < ((a0.Compute).length : Int))) = true then chk (decide ((0 : Int) ≤ x1986)) ((a0.Compute[Int.toNat (x1986)]?).bind fun x2106 => (l36_aggregates).bind fun r2130 => chk (decide ((0 : Int) ≤ x2106.Kind)) ((r2130[Int.toNat (x2106.Kind)]?).bind fun x2136 => (if (x2106.Kind == 7) = true then chk (decide ((x2136 ++ wx28).length ≤ 9223372036854775807)) ((l36_decimal k x2106.Q.Num).bind fun r2164 => chk (decide (((x2136 ++ wx28) ++ r2164).length ≤ 9223372036854775807)) (chk (decide ((((x2136 ++ wx28) ++ r2164) ++ wx2f).length ≤ 9223372036854775807)) ((l36_decimal k x2106.Q.Den).bind fun r2170 => chk (decide (((((x2136 ++ wx28) ++ r2164) ++ wx2f) ++ r2170).length ≤ 9223372036854775807)) (chk (decide ((((((x2136 ++ wx28) ++ r2164) ++ wx2f) ++ r2170) ++ wx2c20).length ≤ 9223372036854775807)) ((l36_columnText k x2106.Column).bind fun r2176 => chk (decide (((((((x2136 ++ wx28) ++ r2164) ++ wx2f) ++ r2170) ++ wx2c20) ++ r2176).length ≤ 9223372036854775807)) (chk (decide ((((((((x2136 ++ wx28) ++ r2164) ++ wx2f) ++ r2170) ++ wx2c20) ++ r2176) ++ wx29).length ≤ 9223372036854775807)) (chk (decide ((x1981 ++ [(((((((x2136 ++ wx28) ++ r2164) ++ wx2f) ++ r2170) ++ wx2c20) ++ r2176) ++ wx29)]).length * 16 ≤ 140737488355328)) ((l36_query_l5 k a0 x300 x1191 x1476 (x1981 ++ [(((((((x2136 ++ wx28) ++ r2164) ++ wx2f) ++ r2170) ++ wx2c20) ++ r2176) ++ wx29)]) (w64 (x1986 + 1))))))))))) else (if (decide (x2106.Kind > 3)) = true then chk (decide ((x2136 ++ wx28).length ≤ 9223372036854775807)) ((l36_columnText k x2106.Column).bind fun r2191 => chk (decide (((x2136 ++ wx28) ++ r2191).length ≤ 9223372036854775807)) (chk (decide ((((x2136 ++ wx28) ++ r2191) ++ wx29).length ≤ 9223372036854775807)) (chk (decide ((x1981 ++ [(((x2136 ++ wx28) ++ r2191) ++ wx29)]).length * 16 ≤ 140737488355328)) ((l36_query_l5 k a0 x300 x1191 x1476 (x1981 ++ [(((x2136 ++ wx28) ++ r2191) ++ wx29)]) (w64 (x1986 + 1))))))) else chk (decide ((x1981 ++ [x2136]).length * 16 ≤ 140737488355328)) ((l36_query_l5 k a0 x300 x1191 x1476 (x1981 ++ [x2136]) (w64 (x1986 + 1)))))))) else (l36_query_l6 k a0 x300 x1191 x1476 x1981 [] 0))
def l36_query_l4 : Nat → GQuery → (List Str) → (List Str) → (List Str) → Int → Option Str
  | 0, _, _, _, _, _ => none
  | k + 1, a0, x300, x1191, x1476, x1481 =>
    (if (decide (x1481 < ((a0.Group).length : Int))) = true then chk (decide ((0 : Int) ≤ x1481)) ((a0.Group[Int.toNat (x1481)]?).bind fun x1517 => (l36_columnText k x1517).bind fun r1526 => chk (decide ((x1476 ++ [r1526]).length * 16 ≤ 140737488355328)) ((l36_query_l4 k a0 x300 x1191 (x1476 ++ [r1526]) (w64 (x1481 + 1))))) else (l36_query_l5 k a0 x300 x1191 x1476 [] 0))
def l36_query_l3 : Nat → GQuery → (List Str) → (List Str) → Int → Option Str
  | 0, _, _, _, _ => none
  | k + 1, a0, x300, x1191, x1196 =>
    (if (decide (x1196 < ((a0.Absences).length : Int))) = true then chk (decide ((0 : Int) ≤ x1196)) ((a0.Absences[Int.toNat (x1196)]?).bind fun x1289 => chk (decide ((wx6e6f7420 ++ x1289.Variable.Name).length ≤ 9223372036854775807)) (chk (decide (((wx6e6f7420 ++ x1289.Variable.Name) ++ wx7b).length ≤ 9223372036854775807)) ((l36_pred k x1289.Variable.Where).bind fun r1326 => chk (decide ((((wx6e6f7420 ++ x1289.Variable.Name) ++ wx7b) ++ r1326).length ≤ 9223372036854775807)) (chk (decide (((((wx6e6f7420 ++ x1289.Variable.Name) ++ wx7b) ++ r1326) ++ wx7d).length ≤ 9223372036854775807)) ((l36_relations).bind fun r1332 => chk (decide ((0 : Int) ≤ x1289.Kind)) ((r1332[Int.toNat (x1289.Kind)]?).bind fun x1338 => chk (decide ((wx20 ++ x1338).length ≤ 9223372036854775807)) (chk (decide (((wx20 ++ x1338) ++ wx20).length ≤ 9223372036854775807)) ((if x1289.First = true then chk (decide ((((((wx6e6f7420 ++ x1289.Variable.Name) ++ wx7b) ++ r1326) ++ wx7d) ++ ((wx20 ++ x1338) ++ wx20)).length ≤ 9223372036854775807)) (chk (decide (((((((wx6e6f7420 ++ x1289.Variable.Name) ++ wx7b) ++ r1326) ++ wx7d) ++ ((wx20 ++ x1338) ++ wx20)) ++ x1289.Other).length ≤ 9223372036854775807)) (chk (decide ((x1191 ++ [((((((wx6e6f7420 ++ x1289.Variable.Name) ++ wx7b) ++ r1326) ++ wx7d) ++ ((wx20 ++ x1338) ++ wx20)) ++ x1289.Other)]).length * 16 ≤ 140737488355328)) ((l36_query_l3 k a0 x300 (x1191 ++ [((((((wx6e6f7420 ++ x1289.Variable.Name) ++ wx7b) ++ r1326) ++ wx7d) ++ ((wx20 ++ x1338) ++ wx20)) ++ x1289.Other)]) (w64 (x1196 + 1)))))) else chk (decide ((x1289.Other ++ ((wx20 ++ x1338) ++ wx20)).length ≤ 9223372036854775807)) (chk (decide (((x1289.Other ++ ((wx20 ++ x1338) ++ wx20)) ++ ((((wx6e6f7420 ++ x1289.Variable.Name) ++ wx7b) ++ r1326) ++ wx7d)).length ≤ 9223372036854775807)) (chk (decide ((x1191 ++ [((x1289.Other ++ ((wx20 ++ x1338) ++ wx20)) ++ ((((wx6e6f7420 ++ x1289.Variable.Name) ++ wx7b) ++ r1326) ++ wx7d))]).length * 16 ≤ 140737488355328)) ((l36_query_l3 k a0 x300 (x1191 ++ [((x1289.Other ++ ((wx20 ++ x1338) ++ wx20)) ++ ((((wx6e6f7420 ++ x1289.Variable.Name) ++ wx7b) ++ r1326) ++ wx7d))]) (w64 (x1196 + 1))))))))))))))) else (l36_query_l4 k a0 x300 x1191 [] 0))
def l36_query_l2 : Nat → GQuery → (List Str) → (List Str) → Int → Option Str
  | 0, _, _, _, _ => none
  | k + 1, a0, x300, x716, x721 =>
    (if (decide (x721 < ((a0.Relations).length : Int))) = true then chk (decide ((0 : Int) ≤ x721)) ((a0.Relations[Int.toNat (x721)]?).bind fun x796 => chk (decide ((x796.A ++ wx20).length ≤ 9223372036854775807)) ((l36_relations).bind fun r831 => chk (decide ((0 : Int) ≤ x796.Kind)) ((r831[Int.toNat (x796.Kind)]?).bind fun x837 => chk (decide (((x796.A ++ wx20) ++ x837).length ≤ 9223372036854775807)) (chk (decide ((((x796.A ++ wx20) ++ x837) ++ wx20).length ≤ 9223372036854775807)) (chk (decide (((((x796.A ++ wx20) ++ x837) ++ wx20) ++ x796.B).length ≤ 9223372036854775807)) (chk (decide ((x716 ++ [((((x796.A ++ wx20) ++ x837) ++ wx20) ++ x796.B)]).length * 16 ≤ 140737488355328)) ((l36_query_l2 k a0 x300 (x716 ++ [((((x796.A ++ wx20) ++ x837) ++ wx20) ++ x796.B)]) (w64 (x721 + 1)))))))))) else (l36_query_l3 k a0 x300 x716 0))
def l36_query_l1 : Nat → GQuery → (List Str) → Int → Option Str
  | 0, _, _, _ => none
  | k + 1, a0, x300, x305 =>
    (if (decide (x305 < ((a0.Variables).length : Int))) = true then chk (decide ((0 : Int) ≤ x305)) ((a0.Variables[Int.toNat (x305)]?).bind fun x419 => chk (decide ((0 : Int) ≤ x305)) ((a0.Variables[Int.toNat (x305)]?).bind fun x429 => chk (decide ((x419.Name ++ wx7b).length ≤ 9223372036854775807)) ((l36_pred k x429.Where).bind fun r439 => chk (decide (((x419.Name ++ wx7b) ++ r439).length ≤ 9223372036854775807)) (chk (decide ((((x419.Name ++ wx7b) ++ r439) ++ wx7d).length ≤ 9223372036854775807)) (chk (decide ((x300 ++ [(((x419.Name ++ wx7b) ++ r439) ++ wx7d)]).length * 16 ≤ 140737488355328)) ((l36_query_l1 k a0 (x300 ++ [(((x419.Name ++ wx7b) ++ r439) ++ wx7d)]) (w64 (x305 + 1))))))))) else (l36_query_l2 k a0 x300 [] 0))
def l36_query (k : Nat) (a0 : GQuery) : Option Str :=
  (l36_query_l1 k a0 [] 0)
def l36_check_l4 : Nat → GQuery → Int → Option Int
  | 0, _, _ => none
  | k + 1, a0, x304 =>
    (if (decide (x304 < ((a0.Order).length : Int))) = true then chk (decide ((0 : Int) ≤ x304)) ((a0.Order[Int.toNat (x304)]?).bind fun x334 => (if (decide (x334.Index < 0)) = true then some 2 else chk (decide ((0 : Int) ≤ x304)) ((a0.Order[Int.toNat (x304)]?).bind fun x345 => (if (decide (x345.Index > 1048576)) = true then some 2 else (l36_check_l4 k a0 (w64 (x304 + 1))))))) else (if (decide (a0.Limit < 0)) = true then some 2 else (if (decide (a0.Limit > 1048576)) = true then some 2 else (l36_query k a0).bind fun r357 => (if (decide (((r357).length : Int) > 4096)) = true then some 5 else some 0))))
def l36_check_l3 : Nat → GQuery → Int → Option Int
  | 0, _, _ => none
  | k + 1, a0, x181 =>
    (if (decide (x181 < ((a0.Compute).length : Int))) = true then chk (decide ((0 : Int) ≤ x181)) ((a0.Compute[Int.toNat (x181)]?).bind fun x205 => (l36_checkAggregate k x205).bind fun r214 => (if (r214 != 0) = true then some r214 else (l36_check_l3 k a0 (w64 (x181 + 1))))) else (l36_check_l4 k a0 0))
def l36_check_l2 : Nat → GQuery → Int → Option Int
  | 0, _, _ => none
  | k + 1, a0, x82 =>
    (if (decide (x82 < ((a0.Group).length : Int))) = true then chk (decide ((0 : Int) ≤ x82)) ((a0.Group[Int.toNat (x82)]?).bind fun x106 => (l36_checkColumn k x106).bind fun r115 => (if (r115 != 0) = true then some r115 else (l36_check_l2 k a0 (w64 (x82 + 1))))) else (l36_check_l3 k a0 0))
def l36_check_j1 (k : Nat) (a0 : GQuery) (x16 : Bool) : Option Int :=
  (if x16 = true then some 2 else (l36_check_l2 k a0 0))
def l36_check (k : Nat) (a0 : GQuery) : Option Int :=
  (l36_checkFirst k a0).bind fun r6 => (if (r6 != 0) = true then some r6 else (if (decide (a0.Slots.From < 0)) = true then (l36_check_j1 k a0 true) else (if (decide (a0.Slots.From > 1048576)) = true then (l36_check_j1 k a0 true) else (if (decide (a0.Slots.To < 0)) = true then (l36_check_j1 k a0 true) else (l36_check_j1 k a0 (decide (a0.Slots.To > 1048576)))))))
end Go.Proofs.YtfnaahkgegfbnaaGreatDoor
set_option maxRecDepth 10000
namespace Go.Proofs.YtfnaahkgegfbnaaGreatDoor
mutual
def l36_smallPred_j1 : Nat → GPred → Int → Bool → Option Bool
  | 0, _, _, _ => none
  | k + 1, a0, a1, x6 =>
    (if x6 = true then some false else (l36_smallPred_l2 k a0 a1 0))
def l36_smallPred : Nat → GPred → Int → Option Bool
  | 0, _, _ => none
  | k + 1, a0, a1 =>
    (if (a1 == 0) = true then (l36_smallPred_j1 k a0 a1 true) else (if (decide (((a0.Args).length : Int) > 4)) = true then (l36_smallPred_j1 k a0 a1 true) else (l36_smallPred_j1 k a0 a1 (decide ((w64 ((w64 (((a0.Field).length : Int) + ((a0.Key).length : Int))) + ((a0.Value.Text).length : Int))) > 80)))))
def l36_smallPred_l2 : Nat → GPred → Int → Int → Option Bool
  | 0, _, _, _ => none
  | k + 1, a0, a1, x27 =>
    (if (decide (x27 < ((a0.Args).length : Int))) = true then chk (decide ((0 : Int) ≤ x27)) ((a0.Args[Int.toNat (x27)]?).bind fun x51 => (l36_smallPred k x51 (w64 (a1 - 1))).bind fun r61 => (if (!r61) = true then some false else (l36_smallPred_l2 k a0 a1 (w64 (x27 + 1))))) else some true)
end
end Go.Proofs.YtfnaahkgegfbnaaGreatDoor
set_option maxRecDepth 10000
namespace Go.Proofs.YtfnaahkgegfbnaaGreatDoor
mutual
def slices_EqualFunc_api_Pred_l1 : Nat → (List GPred) → (List GPred) → Int → Option Bool
  | 0, _, _, _ => none
  | k + 1, a0, a1, x32 =>
    (if (decide (x32 < ((a0).length : Int))) = true then chk (decide ((0 : Int) ≤ x32)) ((a0[Int.toNat (x32)]?).bind fun x72 => chk (decide ((0 : Int) ≤ x32)) ((a1[Int.toNat (x32)]?).bind fun x85 => (syntax_EqualPred k x72 x85).bind fun r97 => (if (!r97) = true then some false else (slices_EqualFunc_api_Pred_l1 k a0 a1 (w64 (x32 + 1)))))) else some true)
def slices_EqualFunc_api_Pred : Nat → (List GPred) → (List GPred) → Option Bool
  | 0, _, _ => none
  | k + 1, a0, a1 =>
    (if (((a0).length : Int) != ((a1).length : Int)) = true then some false else (slices_EqualFunc_api_Pred_l1 k a0 a1 0))
def syntax_EqualPred : Nat → GPred → GPred → Option Bool
  | 0, _, _ => none
  | k + 1, a0, a1 =>
    (if (a0.Op == a1.Op) = true then (if (a0.Field == a1.Field) = true then (if (a0.Key == a1.Key) = true then (if ((a0.Value.Kind == a1.Value.Kind) && ((a0.Value.Text == a1.Value.Text) && ((a0.Value.Int == a1.Value.Int) && true))) = true then (slices_EqualFunc_api_Pred k a0.Args a1.Args).bind fun r7 => some r7 else some false) else some false) else some false) else some false)
end
end Go.Proofs.YtfnaahkgegfbnaaGreatDoor
set_option maxRecDepth 10000
namespace Go.Proofs.YtfnaahkgegfbnaaGreatDoor
def syntax_equalVariables (k : Nat) (a0 : GVariable) (a1 : GVariable) : Option Bool :=
  (if (a0.Name == a1.Name) = true then (syntax_EqualPred k a0.Where a1.Where).bind fun r4 => some r4 else some false)
def slices_EqualFunc_api_Variable_l1 : Nat → (List GVariable) → (List GVariable) → Int → Option Bool
  | 0, _, _, _ => none
  | k + 1, a0, a1, x28 =>
    (if (decide (x28 < ((a0).length : Int))) = true then chk (decide ((0 : Int) ≤ x28)) ((a0[Int.toNat (x28)]?).bind fun x64 => chk (decide ((0 : Int) ≤ x28)) ((a1[Int.toNat (x28)]?).bind fun x75 => (syntax_equalVariables k x64 x75).bind fun r85 => (if (!r85) = true then some false else (slices_EqualFunc_api_Variable_l1 k a0 a1 (w64 (x28 + 1)))))) else some true)
def slices_EqualFunc_api_Variable (k : Nat) (a0 : List GVariable) (a1 : List GVariable) : Option Bool :=
  (if (((a0).length : Int) != ((a1).length : Int)) = true then some false else (slices_EqualFunc_api_Variable_l1 k a0 a1 0))
def slices_Equal_api_Relation_l1 : Nat → (List GRelation) → (List GRelation) → Int → Option Bool
  | 0, _, _, _ => none
  | k + 1, a0, a1, x38 =>
    (if (decide (x38 < ((a0).length : Int))) = true then chk (decide ((0 : Int) ≤ x38)) ((a0[Int.toNat (x38)]?).bind fun x102 => chk (decide ((0 : Int) ≤ x38)) ((a1[Int.toNat (x38)]?).bind fun x111 => (if (!((x102.Kind == x111.Kind) && ((x102.A == x111.A) && ((x102.B == x111.B) && true)))) = true then some false else (slices_Equal_api_Relation_l1 k a0 a1 (w64 (x38 + 1)))))) else some true)
def slices_Equal_api_Relation (k : Nat) (a0 : List GRelation) (a1 : List GRelation) : Option Bool :=
  (if (((a0).length : Int) != ((a1).length : Int)) = true then some false else (slices_Equal_api_Relation_l1 k a0 a1 0))
def syntax_Equal_c1 (k : Nat) (a0 : GAbsence) (a1 : GAbsence) : Option Bool :=
  (syntax_equalVariables k a0.Variable a1.Variable).bind fun r3 => (if r3 = true then (if (a0.Kind == a1.Kind) = true then (if (a0.Other == a1.Other) = true then some (a0.First == a1.First) else some false) else some false) else some false)
def slices_EqualFunc_api_Absence_l1 : Nat → (List GAbsence) → (List GAbsence) → Int → Option Bool
  | 0, _, _, _ => none
  | k + 1, a0, a1, x28 =>
    (if (decide (x28 < ((a0).length : Int))) = true then chk (decide ((0 : Int) ≤ x28)) ((a0[Int.toNat (x28)]?).bind fun x64 => chk (decide ((0 : Int) ≤ x28)) ((a1[Int.toNat (x28)]?).bind fun x75 => (syntax_Equal_c1 k x64 x75).bind fun r85 => (if (!r85) = true then some false else (slices_EqualFunc_api_Absence_l1 k a0 a1 (w64 (x28 + 1)))))) else some true)
def slices_EqualFunc_api_Absence (k : Nat) (a0 : List GAbsence) (a1 : List GAbsence) : Option Bool :=
  (if (((a0).length : Int) != ((a1).length : Int)) = true then some false else (slices_EqualFunc_api_Absence_l1 k a0 a1 0))
def slices_Equal_api_Column_l1 : Nat → (List GColumn) → (List GColumn) → Int → Option Bool
  | 0, _, _, _ => none
  | k + 1, a0, a1, x38 =>
    (if (decide (x38 < ((a0).length : Int))) = true then chk (decide ((0 : Int) ≤ x38)) ((a0[Int.toNat (x38)]?).bind fun x102 => chk (decide ((0 : Int) ≤ x38)) ((a1[Int.toNat (x38)]?).bind fun x111 => (if (!((x102.Var == x111.Var) && ((x102.Field == x111.Field) && ((x102.Key == x111.Key) && true)))) = true then some false else (slices_Equal_api_Column_l1 k a0 a1 (w64 (x38 + 1)))))) else some true)
def slices_Equal_api_Column (k : Nat) (a0 : List GColumn) (a1 : List GColumn) : Option Bool :=
  (if (((a0).length : Int) != ((a1).length : Int)) = true then some false else (slices_Equal_api_Column_l1 k a0 a1 0))
def slices_Equal_api_Aggregate_l1 : Nat → (List GAggregate) → (List GAggregate) → Int → Option Bool
  | 0, _, _, _ => none
  | k + 1, a0, a1, x38 =>
    (if (decide (x38 < ((a0).length : Int))) = true then chk (decide ((0 : Int) ≤ x38)) ((a0[Int.toNat (x38)]?).bind fun x102 => chk (decide ((0 : Int) ≤ x38)) ((a1[Int.toNat (x38)]?).bind fun x111 => (if (!((x102.Kind == x111.Kind) && (((x102.Column.Var == x111.Column.Var) && ((x102.Column.Field == x111.Column.Field) && ((x102.Column.Key == x111.Column.Key) && true))) && (((x102.Q.Num == x111.Q.Num) && ((x102.Q.Den == x111.Q.Den) && true)) && true)))) = true then some false else (slices_Equal_api_Aggregate_l1 k a0 a1 (w64 (x38 + 1)))))) else some true)
def slices_Equal_api_Aggregate (k : Nat) (a0 : List GAggregate) (a1 : List GAggregate) : Option Bool :=
  (if (((a0).length : Int) != ((a1).length : Int)) = true then some false else (slices_Equal_api_Aggregate_l1 k a0 a1 0))
def slices_Equal_api_OrderKey_l1 : Nat → (List GOrderKey) → (List GOrderKey) → Int → Option Bool
  | 0, _, _, _ => none
  | k + 1, a0, a1, x38 =>
    (if (decide (x38 < ((a0).length : Int))) = true then chk (decide ((0 : Int) ≤ x38)) ((a0[Int.toNat (x38)]?).bind fun x102 => chk (decide ((0 : Int) ≤ x38)) ((a1[Int.toNat (x38)]?).bind fun x111 => (if (!((x102.Index == x111.Index) && ((x102.Descending == x111.Descending) && true))) = true then some false else (slices_Equal_api_OrderKey_l1 k a0 a1 (w64 (x38 + 1)))))) else some true)
def slices_Equal_api_OrderKey (k : Nat) (a0 : List GOrderKey) (a1 : List GOrderKey) : Option Bool :=
  (if (((a0).length : Int) != ((a1).length : Int)) = true then some false else (slices_Equal_api_OrderKey_l1 k a0 a1 0))
def syntax_Equal (k : Nat) (a0 : GQuery) (a1 : GQuery) : Option Bool :=
  (slices_EqualFunc_api_Variable k a0.Variables a1.Variables).bind fun r3 => (if r3 = true then (slices_Equal_api_Relation k a0.Relations a1.Relations).bind fun r8 => (if r8 = true then (slices_EqualFunc_api_Absence k a0.Absences a1.Absences).bind fun r14 => (if r14 = true then (if ((a0.Slots.From == a1.Slots.From) && ((a0.Slots.To == a1.Slots.To) && true)) = true then (slices_Equal_api_Column k a0.Group a1.Group).bind fun r21 => (if r21 = true then (slices_Equal_api_Aggregate k a0.Compute a1.Compute).bind fun r27 => (if r27 = true then (slices_Equal_api_OrderKey k a0.Order a1.Order).bind fun r33 => (if r33 = true then some (a0.Limit == a1.Limit) else some false) else some false) else some false) else some false) else some false) else some false) else some false)
end Go.Proofs.YtfnaahkgegfbnaaGreatDoor
set_option maxRecDepth 10000
namespace Go.Proofs.YtfnaahkgegfbnaaGreatDoor
def l36_small_l6 : Nat → GQuery → Int → Int → Option Bool
  | 0, _, _, _ => none
  | k + 1, a0, x1155, x1156 =>
    (if (decide (x1156 < ((a0.Compute).length : Int))) = true then chk (decide ((0 : Int) ≤ x1156)) ((a0.Compute[Int.toNat (x1156)]?).bind fun x1178 => (l36_small_l6 k a0 (mx (mx (mx x1155 ((x1178.Column.Var).length : Int)) ((x1178.Column.Field).length : Int)) ((x1178.Column.Key).length : Int)) (w64 (x1156 + 1)))) else some (decide (x1155 ≤ 80)))
def l36_small_l5 : Nat → GQuery → Int → Int → Option Bool
  | 0, _, _, _ => none
  | k + 1, a0, x1019, x1020 =>
    (if (decide (x1020 < ((a0.Group).length : Int))) = true then chk (decide ((0 : Int) ≤ x1020)) ((a0.Group[Int.toNat (x1020)]?).bind fun x1115 => chk (decide ((0 : Int) ≤ x1020)) ((a0.Group[Int.toNat (x1020)]?).bind fun x1125 => chk (decide ((0 : Int) ≤ x1020)) ((a0.Group[Int.toNat (x1020)]?).bind fun x1134 => (l36_small_l5 k a0 (mx (mx (mx x1019 ((x1115.Var).length : Int)) ((x1125.Field).length : Int)) ((x1134.Key).length : Int)) (w64 (x1020 + 1)))))) else (l36_small_l6 k a0 x1019 0))
def l36_small_l4 : Nat → GQuery → Int → Int → Option Bool
  | 0, _, _, _ => none
  | k + 1, a0, x662, x663 =>
    (if (decide (x663 < ((a0.Absences).length : Int))) = true then chk (decide ((0 : Int) ≤ x663)) ((a0.Absences[Int.toNat (x663)]?).bind fun x751 => chk (decide ((0 : Int) ≤ x663)) ((a0.Absences[Int.toNat (x663)]?).bind fun x762 => chk (decide ((0 : Int) ≤ x663)) ((a0.Absences[Int.toNat (x663)]?).bind fun x772 => (l36_smallPred k x772.Variable.Where 1).bind fun r781 => (if (!r781) = true then some false else (l36_small_l4 k a0 (mx (mx x662 ((x751.Variable.Name).length : Int)) ((x762.Other).length : Int)) (w64 (x663 + 1))))))) else (l36_small_l5 k a0 x662 0))
def l36_small_l3 : Nat → GQuery → Int → Int → Option Bool
  | 0, _, _, _ => none
  | k + 1, a0, x343, x344 =>
    (if (decide (x344 < ((a0.Relations).length : Int))) = true then chk (decide ((0 : Int) ≤ x344)) ((a0.Relations[Int.toNat (x344)]?).bind fun x412 => chk (decide ((0 : Int) ≤ x344)) ((a0.Relations[Int.toNat (x344)]?).bind fun x422 => (l36_small_l3 k a0 (mx (mx x343 ((x412.A).length : Int)) ((x422.B).length : Int)) (w64 (x344 + 1))))) else (l36_small_l4 k a0 x343 0))
def l36_small_l2 : Nat → GQuery → Int → Int → Option Bool
  | 0, _, _, _ => none
  | k + 1, a0, x121, x122 =>
    (if (decide (x122 < ((a0.Variables).length : Int))) = true then chk (decide ((0 : Int) ≤ x122)) ((a0.Variables[Int.toNat (x122)]?).bind fun x157 => chk (decide ((0 : Int) ≤ x122)) ((a0.Variables[Int.toNat (x122)]?).bind fun x168 => (l36_smallPred k x168.Where 1).bind fun r177 => (if (!r177) = true then some false else (l36_small_l2 k a0 (mx x121 ((x157.Name).length : Int)) (w64 (x122 + 1)))))) else (l36_small_l3 k a0 x121 0))
def l36_small_j1 (k : Nat) (a0 : GQuery) (x12 : Bool) : Option Bool :=
  (if x12 = true then some false else (l36_small_l2 k a0 0 0))
def l36_small (k : Nat) (a0 : GQuery) : Option Bool :=
  (if (decide (((a0.Variables).length : Int) > 4)) = true then (l36_small_j1 k a0 true) else (if (decide (((a0.Relations).length : Int) > 4)) = true then (l36_small_j1 k a0 true) else (if (decide (((a0.Absences).length : Int) > 4)) = true then (l36_small_j1 k a0 true) else (if (decide (((a0.Group).length : Int) > 4)) = true then (l36_small_j1 k a0 true) else (if (decide (((a0.Compute).length : Int) > 4)) = true then (l36_small_j1 k a0 true) else (l36_small_j1 k a0 (decide (((a0.Order).length : Int) > 4))))))))
def l36_SyntaxChecks_j2 (k : Nat) (a0 : GQuery) (r57 : Str × Int) (x177 : Bool) : Option Bool :=
  (if x177 = true then some false else (if (r57.2 != 0) = true then (if (r57.1 == w_0) = true then some true else (if (r57.2 == 0) = true then (l36_query k a0).bind fun r188 => some (r57.1 == r188) else some false)) else (if (r57.2 == 0) = true then (l36_query k a0).bind fun r196 => some (r57.1 == r196) else some false)))
def l36_SyntaxChecks_j1 (k : Nat) (a0 : GQuery) (a1 : GQuery) (x47 : Bool) : Option Bool :=
  (if x47 = true then (l36_known k).bind fun r52 => some r52 else (syntax_Print k a0).bind fun r57 => (l36_check k a0).bind fun r232 => (if (r57.2 != r232) = true then (l36_SyntaxChecks_j2 k a0 r57 true) else (syntax_Check k a0).bind fun r238 => (if (r238 != r57.2) = true then (l36_SyntaxChecks_j2 k a0 r57 true) else (syntax_Equal k a0 a1).bind fun r245 => (l36_same k a0 a1).bind fun r250 => (if (!(r245 == r250)) = true then (l36_SyntaxChecks_j2 k a0 r57 true) else (syntax_Equal k a0 a0).bind fun r258 => (l36_SyntaxChecks_j2 k a0 r57 (!r258))))))
def l36_SyntaxChecks (k : Nat) (a0 : GQuery) (a1 : GQuery) : Option Bool :=
  (l36_known k).bind fun r263 => (if (!r263) = true then (l36_SyntaxChecks_j1 k a0 a1 true) else (l36_small k a0).bind fun r268 => (if (!r268) = true then (l36_SyntaxChecks_j1 k a0 a1 true) else (l36_small k a1).bind fun r275 => (l36_SyntaxChecks_j1 k a0 a1 (!r275))))
end Go.Proofs.YtfnaahkgegfbnaaGreatDoor
