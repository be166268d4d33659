/- Lean functions with the answers of Go functions. Written by a program of this session. -/
import Derived.Test.YtfnaahkgegfbnaaGreatDoorSC
set_option linter.unusedVariables false
set_option linter.unusedSimpArgs false
set_option maxRecDepth 10000
namespace Go.Proofs.YtfnaahkgegfbnaaGreatDoor

def syntax_letter (a0 : Int) : Option Bool :=
  (if (decide (a0 ≥ 97)) = true then (if (decide (a0 ≤ 122)) = true then some true else (if (decide (a0 ≥ 65)) = true then (if (decide (a0 ≤ 90)) = true then some true else some (a0 == 95)) else some (a0 == 95))) else (if (decide (a0 ≥ 65)) = true then (if (decide (a0 ≤ 90)) = true then some true else some (a0 == 95)) else some (a0 == 95)))

def syntax_digit (a0 : Int) : Option Bool :=
  (if (decide (a0 ≥ 48)) = true then some (decide (a0 ≤ 57)) else some false)

def syntax_inner (a0 : Int) : Option Bool :=
  (syntax_letter a0).bind fun r1 => (if r1 = true then some true else (syntax_digit a0).bind fun r6 => (if r6 = true then some true else some (a0 == 45)))

def lexer_skip_l1 : Nat → SParser → Int → Option SParser
  | 0, _, _ => none
  | k + 1, a0, x18 =>
    (if (decide (x18 < ((a0.x_.s_).length : Int))) = true then chk (decide ((0 : Int) ≤ x18)) ((a0.x_.s_[Int.toNat (x18)]?).bind fun c53 => (syntax_inner (c53.toNat : Int)).bind fun r55 => (if r55 = true then (lexer_skip_l1 k a0 (w64 (x18 + 1))) else some (SParser.mk (SLexer.mk a0.x_.s_ x18) a0.t_))) else some (SParser.mk (SLexer.mk a0.x_.s_ x18) a0.t_))
def lexer_skip (k : Nat) (a0 : SParser) : Option SParser :=
  (lexer_skip_l1 k a0 a0.x_.at_)

def lexer_skip_i1_l1 : Nat → SParser → Int → Option SParser
  | 0, _, _ => none
  | k + 1, a0, x18 =>
    (if (decide (x18 < ((a0.x_.s_).length : Int))) = true then chk (decide ((0 : Int) ≤ x18)) ((a0.x_.s_[Int.toNat (x18)]?).bind fun c53 => (syntax_digit (c53.toNat : Int)).bind fun r55 => (if r55 = true then (lexer_skip_i1_l1 k a0 (w64 (x18 + 1))) else some (SParser.mk (SLexer.mk a0.x_.s_ x18) a0.t_))) else some (SParser.mk (SLexer.mk a0.x_.s_ x18) a0.t_))
def lexer_skip_i1 (k : Nat) (a0 : SParser) : Option SParser :=
  (lexer_skip_i1_l1 k a0 a0.x_.at_)

def strconv_Atoi (a0 : Str) : Option (Int × Bool) := chk (decide (a0.length ≤ 18)) ((Lib.atoi a0).bind fun n => some (n, false))

mutual
def lexer_quoted_j9 : Nat → SParser → (List Int) → Int → UInt8 → Bool → Option (Except Pan (SParser × SToken))
  | 0, _, _, _, _, _ => none
  | k + 1, a0, x70, x75, c150, x164 =>
    (if x164 = true then chk (decide ((0 : Int) ≤ (w64 (x75 + 1)))) ((a0.x_.s_[Int.toNat (w64 (x75 + 1))]?).bind fun c201 => (if ((c201.toNat : Int) != 34) = true then (if ((c201.toNat : Int) != 92) = true then some (.error (x75, 14)) else (lexer_quoted_j10 k a0 x70 x75)) else (lexer_quoted_j10 k a0 x70 x75))) else chk (decide ((x70 ++ [(c150.toNat : Int)]).length * 1 ≤ 140737488355328)) ((lexer_quoted_l7 k a0 (x70 ++ [(c150.toNat : Int)]) (w64 (x75 + 1)))))
def lexer_quoted_j8 : Nat → SParser → (List Int) → Int → UInt8 → Bool → Option (Except Pan (SParser × SToken))
  | 0, _, _, _, _, _ => none
  | k + 1, a0, x70, x75, c150, x153 =>
    (if x153 = true then some (.error (x75, 14)) else (if ((c150.toNat : Int) == 92) = true then (lexer_quoted_j9 k a0 x70 x75 c150 (decide ((w64 (x75 + 1)) < ((a0.x_.s_).length : Int)))) else (lexer_quoted_j9 k a0 x70 x75 c150 false)))
def lexer_quoted_l7 : Nat → SParser → (List Int) → Int → Option (Except Pan (SParser × SToken))
  | 0, _, _, _ => none
  | k + 1, a0, x70, x75 =>
    (if (decide (x75 < ((a0.x_.s_).length : Int))) = true then chk (decide ((0 : Int) ≤ x75)) ((a0.x_.s_[Int.toNat (x75)]?).bind fun c150 => (if ((c150.toNat : Int) == 34) = true then some (.ok ((SParser.mk (SLexer.mk a0.x_.s_ (w64 (x75 + 1))) a0.t_), (SToken.mk 3 a0.x_.at_ (List.map (fun q : Int => UInt8.ofNat q.toNat) x70) 0))) else (if (decide ((c150.toNat : Int) < 32)) = true then (lexer_quoted_j8 k a0 x70 x75 c150 true) else (lexer_quoted_j8 k a0 x70 x75 c150 (decide ((c150.toNat : Int) > 126)))))) else some (.error (a0.x_.at_, 14)))
def lexer_quoted_j10 : Nat → SParser → (List Int) → Int → Option (Except Pan (SParser × SToken))
  | 0, _, _, _ => none
  | k + 1, a0, x70, x75 =>
    chk (decide ((0 : Int) ≤ (w64 (x75 + 1)))) ((a0.x_.s_[Int.toNat (w64 (x75 + 1))]?).bind fun c190 => chk (decide ((x70 ++ [(c190.toNat : Int)]).length * 1 ≤ 140737488355328)) ((lexer_quoted_l7 k a0 (x70 ++ [(c190.toNat : Int)]) (w64 ((w64 (x75 + 1)) + 1)))))
end
def lexer_quoted (k : Nat) (a0 : SParser) : Option (Except Pan (SParser × SToken)) :=
  (lexer_quoted_l7 k a0 [] (w64 (a0.x_.at_ + 1)))

def stringslite_HasPrefix (a0 : Str) (a1 : Str) : Option Bool :=
  (if (decide (((a0).length : Int) ≥ ((a1).length : Int))) = true then chk (decide ((0 : Int) ≤ ((a1).length : Int)) && decide ((((a1).length : Int) : Int) ≤ ((a0).length : Int))) (some ((List.take (Int.toNat ((a1).length : Int)) a0) == a1)) else some false)

def strings_HasPrefix (a0 : Str) (a1 : Str) : Option Bool :=
  (stringslite_HasPrefix a0 a1).bind fun r1 => some r1

def lexer_next_j2 (x29 : Int) (r94 : SParser) (r105 : Int × Bool) (x114 : Bool) : Option (Except Pan (SParser × SToken)) :=
  (if x114 = true then some (.error (x29, 2)) else some (.ok (r94, (SToken.mk 2 x29 w_0 r105.1))))
def lexer_next_l3 : Nat → SParser → Int → Int → Option (Except Pan (SParser × SToken))
  | 0, _, _, _ => none
  | k + 1, a0, x29, x135 =>
    (if (decide (x135 < 13)) = true then chk (decide ((0 : Int) ≤ x135)) ((([wx2e2e, wx213d, wx3e3d, wx3d, wx3c, wx7b, wx7d, wx28, wx29, wx2c, wx2e, wx2f, wx2d] : List Str)[Int.toNat (x135)]?).bind fun c153 => chk (decide ((0 : Int) ≤ x29) && decide ((x29 : Int) ≤ ((a0.x_.s_).length : Int))) ((strings_HasPrefix (List.drop (Int.toNat x29) a0.x_.s_) c153).bind fun r156 => (if r156 = true then some (.ok ((SParser.mk (SLexer.mk a0.x_.s_ (w64 (x29 + ((c153).length : Int)))) a0.t_), (SToken.mk 4 x29 c153 0))) else (lexer_next_l3 k a0 x29 (w64 (x135 + 1)))))) else some (.error (x29, 14)))
def lexer_next_j1 (k : Nat) (a0 : SParser) (x29 : Int) : Option (Except Pan (SParser × SToken)) :=
  (if (x29 == ((a0.x_.s_).length : Int)) = true then some (.ok ((SParser.mk (SLexer.mk a0.x_.s_ x29) a0.t_), (SToken.mk 0 x29 w_0 0))) else chk (decide ((0 : Int) ≤ x29)) ((a0.x_.s_[Int.toNat (x29)]?).bind fun c77 => (syntax_letter (c77.toNat : Int)).bind fun r79 => (if r79 = true then (lexer_skip k (SParser.mk (SLexer.mk a0.x_.s_ x29) a0.t_)).bind fun r83 => chk (decide ((0 : Int) ≤ x29) && decide ((x29 : Int) ≤ r83.x_.at_) && decide ((r83.x_.at_ : Int) ≤ ((r83.x_.s_).length : Int))) (some (.ok (r83, (SToken.mk 1 x29 (List.take ((Int.toNat r83.x_.at_) - (Int.toNat x29)) (List.drop (Int.toNat x29) r83.x_.s_)) 0)))) else (syntax_digit (c77.toNat : Int)).bind fun r90 => (if r90 = true then (lexer_skip_i1 k (SParser.mk (SLexer.mk a0.x_.s_ x29) a0.t_)).bind fun r94 => chk (decide ((0 : Int) ≤ x29) && decide ((x29 : Int) ≤ r94.x_.at_) && decide ((r94.x_.at_ : Int) ≤ ((r94.x_.s_).length : Int))) ((strconv_Atoi (List.take ((Int.toNat r94.x_.at_) - (Int.toNat x29)) (List.drop (Int.toNat x29) r94.x_.s_))).bind fun r105 => (if r105.2 = true then (lexer_next_j2 x29 r94 r105 true) else (lexer_next_j2 x29 r94 r105 (decide (r105.1 > 1099511627776))))) else (if ((c77.toNat : Int) == 34) = true then xbind (lexer_quoted k (SParser.mk (SLexer.mk a0.x_.s_ x29) a0.t_)) fun r122 => some (.ok (r122.1, r122.2)) else (lexer_next_l3 k a0 x29 0))))))
def lexer_next_l4 : Nat → SParser → Int → Option (Except Pan (SParser × SToken))
  | 0, _, _ => none
  | k + 1, a0, x172 =>
    (if (decide (x172 < ((a0.x_.s_).length : Int))) = true then chk (decide ((0 : Int) ≤ x172)) ((a0.x_.s_[Int.toNat (x172)]?).bind fun c195 => (if ((c195.toNat : Int) == 32) = true then (lexer_next_l4 k a0 (w64 (x172 + 1))) else (lexer_next_j1 k a0 x172))) else (lexer_next_j1 k a0 x172))
def lexer_next (k : Nat) (a0 : SParser) : Option (Except Pan (SParser × SToken)) :=
  (lexer_next_l4 k a0 a0.x_.at_)

def parser_advance (k : Nat) (a0 : SParser) : Option (Except Pan SParser) :=
  xbind (lexer_next k a0) fun r1 => some (.ok (SParser.mk r1.1.x_ r1.2))

def parser_is (a0 : SParser) (a1 : Str) : Option (SParser × Bool) :=
  (if (a0.t_.kind == 1) = true then some (a0, (a0.t_.s_ == a1)) else (if (a0.t_.kind == 4) = true then some (a0, (a0.t_.s_ == a1)) else some (a0, false)))

def parser_takes (k : Nat) (a0 : SParser) (a1 : Str) : Option (Except Pan (SParser × Bool)) :=
  (parser_is a0 a1).bind fun r1 => (if (!r1.2) = true then some (.ok (r1.1, false)) else xbind (parser_advance k r1.1) fun r5 => some (.ok (r5, true)))

def parser_wrong (a0 : SParser) : Option (Except Pan SParser) :=
  some (.error (a0.t_.at_, 14))

def parser_need (k : Nat) (a0 : SParser) (a1 : Str) : Option (Except Pan SParser) :=
  xbind (parser_takes k a0 a1) fun r1 => (if (!r1.2) = true then xbind (parser_wrong r1.1) fun _ => none else some (.ok r1.1))

def syntax_isWord_l2 : Nat → Str → Int → Option Bool
  | 0, _, _ => none
  | k + 1, a0, x30 =>
    (if (decide (x30 < ((a0).length : Int))) = true then chk (decide ((0 : Int) ≤ x30)) ((a0[Int.toNat (x30)]?).bind fun c47 => (syntax_inner (c47.toNat : Int)).bind fun r49 => (if (!r49) = true then some false else (syntax_isWord_l2 k a0 (w64 (x30 + 1))))) else some true)
def syntax_isWord_j1 (k : Nat) (a0 : Str) (x17 : Bool) : Option Bool :=
  (if x17 = true then some false else (syntax_isWord_l2 k a0 0))
def syntax_isWord (k : Nat) (a0 : Str) : Option Bool :=
  (if (a0 == w_0) = true then (syntax_isWord_j1 k a0 true) else chk (decide ((0 : Int) ≤ 0)) ((a0[Int.toNat (0)]?).bind fun c58 => (syntax_letter (c58.toNat : Int)).bind fun r60 => (syntax_isWord_j1 k a0 (!r60))))

def syntax_IsVariable (k : Nat) (a0 : Str) : Option Bool :=
  (syntax_isWord k a0).bind fun r1 => (if r1 = true then (if (decide (((a0).length : Int) ≤ 64)) = true then some (!(resWords.contains a0)) else some false) else some false)

def parser_name_j1 (k : Nat) (a0 : SParser) (x21 : Bool) : Option (Except Pan (SParser × Str)) :=
  (if x21 = true then xbind (parser_wrong a0) fun _ => none else xbind (parser_advance k a0) fun r31 => some (.ok (r31, a0.t_.s_)))
def parser_name (k : Nat) (a0 : SParser) : Option (Except Pan (SParser × Str)) :=
  (if (a0.t_.kind != 1) = true then (parser_name_j1 k a0 true) else (syntax_IsVariable k a0.t_.s_).bind fun r38 => (parser_name_j1 k a0 (!r38)))

def parser_label_j1 (k : Nat) (a0 : SParser) : Option (Except Pan (SParser × Str)) :=
  xbind (parser_advance k a0) fun r11 => some (.ok (r11, a0.t_.s_))
def parser_label (k : Nat) (a0 : SParser) : Option (Except Pan (SParser × Str)) :=
  (if (a0.t_.kind != 1) = true then (if (a0.t_.kind != 3) = true then xbind (parser_wrong a0) fun _ => none else (parser_label_j1 k a0)) else (parser_label_j1 k a0))

def syntax_IsField_j1 (a0 : Str) (x11 : Bool) : Option Bool :=
  (if x11 = true then some false else (if (a0 == w_and) = true then (if (a0 == w_and) = true then some false else some true) else (if (a0 == w_attr) = true then (if (a0 == w_attr) = true then some false else some true) else (if (a0 == w_false) = true then (if (a0 == w_false) = true then some false else some true) else (if (a0 == w_has) = true then (if (a0 == w_has) = true then some false else some true) else (if (a0 == w_not) = true then (if (a0 == w_not) = true then some false else some true) else (if (a0 == w_or) = true then (if (a0 == w_or) = true then some false else some true) else (if (a0 == w_prefix) = true then (if (a0 == w_prefix) = true then some false else some true) else (if (a0 == w_true) = true then some false else some true)))))))))
def syntax_IsField (k : Nat) (a0 : Str) : Option Bool :=
  (syntax_isWord k a0).bind fun r16 => (if (!r16) = true then (syntax_IsField_j1 a0 true) else (syntax_IsField_j1 a0 (decide (((a0).length : Int) > 64))))

def parser_name_i1_j1 (k : Nat) (a0 : SParser) (x21 : Bool) : Option (Except Pan (SParser × Str)) :=
  (if x21 = true then xbind (parser_wrong a0) fun _ => none else xbind (parser_advance k a0) fun r31 => some (.ok (r31, a0.t_.s_)))
def parser_name_i1 (k : Nat) (a0 : SParser) : Option (Except Pan (SParser × Str)) :=
  (if (a0.t_.kind != 1) = true then (parser_name_i1_j1 k a0 true) else (syntax_IsField k a0.t_.s_).bind fun r38 => (parser_name_i1_j1 k a0 (!r38)))

def parser_path (k : Nat) (a0 : SParser) : Option (Except Pan (SParser × Str × Str)) :=
  xbind (parser_takes k a0 w_attr) fun r1 => (if r1.2 = true then xbind (parser_need k r1.1 wx2e) fun r6 => xbind (parser_label k r6) fun r11 => some (.ok (r11.1, w_attr, r11.2)) else xbind (parser_name_i1 k r1.1) fun r18 => some (.ok (r18.1, r18.2, w_0)))

def parser_int (k : Nat) (a0 : SParser) : Option (Except Pan (SParser × Int)) :=
  (if (a0.t_.kind != 2) = true then xbind (parser_wrong a0) fun _ => none else xbind (parser_advance k a0) fun r11 => some (.ok (r11, a0.t_.n_)))

def parser_value (k : Nat) (a0 : SParser) : Option (Except Pan (SParser × GValue)) :=
  (if (a0.t_.kind == 3) = true then xbind (parser_label k a0) fun r2 => some (.ok (r2.1, (GValue.mk 1 r2.2 0))) else xbind (parser_takes k a0 w_true) fun r7 => (if r7.2 = true then some (.ok (r7.1, (GValue.mk 3 w_0 1))) else xbind (parser_takes k r7.1 w_false) fun r12 => (if r12.2 = true then some (.ok (r12.1, (GValue.mk 3 w_0 0))) else xbind (parser_takes k r12.1 wx2d) fun r18 => (if r18.2 = true then xbind (parser_int k r18.1) fun r24 => some (.ok (r24.1, (GValue.mk 2 w_0 (w64 (0 - r24.2))))) else xbind (parser_int k r18.1) fun r31 => some (.ok (r31.1, (GValue.mk 2 w_0 r31.2)))))))

def parser_test_j3 (k : Nat) (r7 : SParser × Str × Str) (x98 : Str) (x99 : Int) (x100 : Int) (x101 : Int) (x102 : Str) (x103 : Int) (x104 : Int) : Option (Except Pan (SParser × GPred)) :=
  xbind (parser_value k (SParser.mk (SLexer.mk x98 x99) (SToken.mk x100 x101 x102 x103))) fun r109 => (if (r7.1.t_.s_ == wx213d) = true then some (.ok (r109.1, (GPred.mk 3 w_0 w_0 (GValue.mk 0 w_0 0) [(GPred.mk x104 r7.2.1 r7.2.2 r109.2 ([] : List GPred))]))) else (if (r7.1.t_.s_ == wx3e3d) = true then some (.ok (r109.1, (GPred.mk 3 w_0 w_0 (GValue.mk 0 w_0 0) [(GPred.mk x104 r7.2.1 r7.2.2 r109.2 ([] : List GPred))]))) else some (.ok (r109.1, (GPred.mk x104 r7.2.1 r7.2.2 r109.2 ([] : List GPred))))))
def parser_test_j5 (k : Nat) (r7 : SParser × Str × Str) (x177 : Str) (x178 : Int) (x179 : Int) (x180 : Int) (x181 : Str) (x182 : Int) (x183 : Bool) : Option (Except Pan (SParser × GPred)) :=
  (if x183 = true then (parser_test_j3 k r7 x177 x178 x179 x180 x181 x182 6) else xbind (parser_takes k (SParser.mk (SLexer.mk x177 x178) (SToken.mk x179 x180 x181 x182)) w_prefix) fun r189 => (if r189.2 = true then (if (r189.1.t_.kind != 3) = true then xbind (parser_wrong r189.1) fun _ => none else (parser_test_j3 k r7 r189.1.x_.s_ r189.1.x_.at_ r189.1.t_.kind r189.1.t_.at_ r189.1.t_.s_ r189.1.t_.n_ 7)) else xbind (parser_wrong r189.1) fun _ => none))
def parser_test_j4 (k : Nat) (r7 : SParser × Str × Str) (x154 : Str) (x155 : Int) (x156 : Int) (x157 : Int) (x158 : Str) (x159 : Int) (x160 : Bool) : Option (Except Pan (SParser × GPred)) :=
  (if x160 = true then (parser_test_j3 k r7 x154 x155 x156 x157 x158 x159 5) else xbind (parser_takes k (SParser.mk (SLexer.mk x154 x155) (SToken.mk x156 x157 x158 x159)) wx3c) fun r208 => (if r208.2 = true then (parser_test_j5 k r7 r208.1.x_.s_ r208.1.x_.at_ r208.1.t_.kind r208.1.t_.at_ r208.1.t_.s_ r208.1.t_.n_ r208.2) else xbind (parser_takes k r208.1 wx3e3d) fun r214 => (parser_test_j5 k r7 r214.1.x_.s_ r214.1.x_.at_ r214.1.t_.kind r214.1.t_.at_ r214.1.t_.s_ r214.1.t_.n_ r214.2)))
def parser_test (k : Nat) (a0 : SParser) : Option (Except Pan (SParser × GPred)) :=
  xbind (parser_path k a0) fun r7 => xbind (parser_takes k r7.1 wx3d) fun r221 => (if r221.2 = true then (parser_test_j4 k r7 r221.1.x_.s_ r221.1.x_.at_ r221.1.t_.kind r221.1.t_.at_ r221.1.t_.s_ r221.1.t_.n_ r221.2) else xbind (parser_takes k r221.1 wx213d) fun r226 => (parser_test_j4 k r7 r226.1.x_.s_ r226.1.x_.at_ r226.1.t_.kind r226.1.t_.at_ r226.1.t_.s_ r226.1.t_.n_ r226.2))

mutual
def parser_factor : Nat → SParser → Option (Except Pan (SParser × GPred))
  | 0, _ => none
  | k + 1, a0 =>
    xbind (parser_takes k a0 w_not) fun r4 => (if r4.2 = true then xbind (parser_factor k r4.1) fun r9 => some (.ok (r9.1, (GPred.mk 3 w_0 w_0 (GValue.mk 0 w_0 0) [r9.2]))) else xbind (parser_takes k r4.1 wx28) fun r24 => (if r24.2 = true then xbind (parser_predicate k r24.1) fun r29 => xbind (parser_need k r29.1 wx29) fun r41 => some (.ok (r41, r29.2)) else xbind (parser_takes k r24.1 w_true) fun r48 => (if r48.2 = true then some (.ok (r48.1, (GPred.mk 0 w_0 w_0 (GValue.mk 0 w_0 0) ([] : List GPred)))) else xbind (parser_takes k r48.1 w_has) fun r60 => (if r60.2 = true then xbind (parser_label k r60.1) fun r66 => some (.ok (r66.1, (GPred.mk 4 w_0 r66.2 (GValue.mk 0 w_0 0) ([] : List GPred)))) else xbind (parser_test k r60.1) fun r78 => some (.ok (r78.1, r78.2))))))
def parser_joined_i1_l1 : Nat → Int → Str → (List GPred) → Str → Int → Int → Int → Str → Int → Option (Except Pan (SParser × GPred))
  | 0, _, _, _, _, _, _, _, _, _ => none
  | k + 1, a1, a2, x210, x215, x216, x217, x218, x219, x220 =>
    xbind (parser_takes k (SParser.mk (SLexer.mk x215 x216) (SToken.mk x217 x218 x219 x220)) a2) fun r276 => (if r276.2 = true then xbind (parser_factor k r276.1) fun r298 => chk (decide ((x210 ++ [r298.2]).length * 96 ≤ 140737488355328)) ((parser_joined_i1_l1 k a1 a2 (x210 ++ [r298.2]) r298.1.x_.s_ r298.1.x_.at_ r298.1.t_.kind r298.1.t_.at_ r298.1.t_.s_ r298.1.t_.n_)) else (if (((x210).length : Int) == 1) = true then chk (decide ((0 : Int) ≤ 0)) ((x210[Int.toNat (0)]?).bind fun x319 => some (.ok (r276.1, x319))) else some (.ok (r276.1, (GPred.mk a1 w_0 w_0 (GValue.mk 0 w_0 0) x210)))))
def parser_joined_i1 : Nat → SParser → Int → Str → Option (Except Pan (SParser × GPred))
  | 0, _, _, _ => none
  | k + 1, a0, a1, a2 =>
    xbind (parser_factor k a0) fun r4 => (parser_joined_i1_l1 k a1 a2 [r4.2] r4.1.x_.s_ r4.1.x_.at_ r4.1.t_.kind r4.1.t_.at_ r4.1.t_.s_ r4.1.t_.n_)
def parser_conjunct : Nat → SParser → Option (Except Pan (SParser × GPred))
  | 0, _ => none
  | k + 1, a0 =>
    xbind (parser_joined_i1 k a0 1 w_and) fun r4 => some (.ok (r4.1, r4.2))
def parser_joined_l1 : Nat → Int → Str → (List GPred) → Str → Int → Int → Int → Str → Int → Option (Except Pan (SParser × GPred))
  | 0, _, _, _, _, _, _, _, _, _ => none
  | k + 1, a1, a2, x210, x215, x216, x217, x218, x219, x220 =>
    xbind (parser_takes k (SParser.mk (SLexer.mk x215 x216) (SToken.mk x217 x218 x219 x220)) a2) fun r276 => (if r276.2 = true then xbind (parser_conjunct k r276.1) fun r298 => chk (decide ((x210 ++ [r298.2]).length * 96 ≤ 140737488355328)) ((parser_joined_l1 k a1 a2 (x210 ++ [r298.2]) r298.1.x_.s_ r298.1.x_.at_ r298.1.t_.kind r298.1.t_.at_ r298.1.t_.s_ r298.1.t_.n_)) else (if (((x210).length : Int) == 1) = true then chk (decide ((0 : Int) ≤ 0)) ((x210[Int.toNat (0)]?).bind fun x319 => some (.ok (r276.1, x319))) else some (.ok (r276.1, (GPred.mk a1 w_0 w_0 (GValue.mk 0 w_0 0) x210)))))
def parser_joined : Nat → SParser → Int → Str → Option (Except Pan (SParser × GPred))
  | 0, _, _, _ => none
  | k + 1, a0, a1, a2 =>
    xbind (parser_conjunct k a0) fun r4 => (parser_joined_l1 k a1 a2 [r4.2] r4.1.x_.s_ r4.1.x_.at_ r4.1.t_.kind r4.1.t_.at_ r4.1.t_.s_ r4.1.t_.n_)
def parser_predicate : Nat → SParser → Option (Except Pan (SParser × GPred))
  | 0, _ => none
  | k + 1, a0 =>
    xbind (parser_joined k a0 2 w_or) fun r4 => some (.ok (r4.1, r4.2))
end

def parser_variable (k : Nat) (a0 : SParser) : Option (Except Pan (SParser × GVariable)) :=
  xbind (parser_name k a0) fun r2 => xbind (parser_takes k r2.1 wx7b) fun r8 => (if r8.2 = true then xbind (parser_predicate k r8.1) fun r13 => xbind (parser_need k r13.1 wx7d) fun r22 => some (.ok (r22, (GVariable.mk r2.2 r13.2))) else some (.ok (r8.1, (GVariable.mk r2.2 (GPred.mk 0 w_0 w_0 (GValue.mk 0 w_0 0) [])))))

def parser_query_c1 (k : Nat) (a0 : GQuery) (a2 : SParser) : Option (Except Pan (GQuery × SParser)) :=
  xbind (parser_variable k a2) fun r15 => chk (decide ((a0.Variables ++ [r15.2]).length * 112 ≤ 140737488355328)) (some (.ok ((GQuery.mk (a0.Variables ++ [r15.2]) a0.Relations a0.Absences a0.Slots a0.Group a0.Compute a0.Order a0.Limit), r15.1)))

def parser_list_l1 : Nat → (List GVariable) → (List GRelation) → (List GAbsence) → (List GColumn) → (List GAggregate) → (List GOrderKey) → Int → Int → Int → Str → Int → Int → Int → Str → Int → Option (Except Pan (SParser × GQuery))
  | 0, _, _, _, _, _, _, _, _, _, _, _, _, _, _, _ => none
  | k + 1, x116, x121, x126, x131, x136, x141, x146, x147, x148, x149, x150, x151, x152, x153, x154 =>
    xbind (parser_takes k (SParser.mk (SLexer.mk x149 x150) (SToken.mk x151 x152 x153 x154)) wx2c) fun r242 => (if r242.2 = true then xbind (parser_query_c1 k (GQuery.mk x116 x121 x126 (GInterval.mk x146 x147) x131 x136 x141 x148) r242.1) fun r248 => (parser_list_l1 k r248.1.Variables r248.1.Relations r248.1.Absences r248.1.Group r248.1.Compute r248.1.Order r248.1.Slots.From r248.1.Slots.To r248.1.Limit r248.2.x_.s_ r248.2.x_.at_ r248.2.t_.kind r248.2.t_.at_ r248.2.t_.s_ r248.2.t_.n_) else some (.ok (r242.1, (GQuery.mk x116 x121 x126 (GInterval.mk x146 x147) x131 x136 x141 x148))))
def parser_list (k : Nat) (a0 : SParser) (a1 : GQuery) : Option (Except Pan (SParser × GQuery)) :=
  xbind (parser_query_c1 k a1 a0) fun r1 => (parser_list_l1 k r1.1.Variables r1.1.Relations r1.1.Absences r1.1.Group r1.1.Compute r1.1.Order r1.1.Slots.From r1.1.Slots.To r1.1.Limit r1.2.x_.s_ r1.2.x_.at_ r1.2.t_.kind r1.2.t_.at_ r1.2.t_.s_ r1.2.t_.n_)

def slices_Index_string_l1 : Nat → (List Str) → Str → Int → Option Int
  | 0, _, _, _ => none
  | k + 1, a0, a1, x13 =>
    (if (decide (x13 < ((a0).length : Int))) = true then chk (decide ((0 : Int) ≤ x13)) ((a0[Int.toNat (x13)]?).bind fun x32 => (if (a1 == x32) = true then some x13 else (slices_Index_string_l1 k a0 a1 (w64 (x13 + 1))))) else some (-1))
def slices_Index_string (k : Nat) (a0 : List Str) (a1 : Str) : Option Int :=
  (slices_Index_string_l1 k a0 a1 0)

def slices_Contains_string (k : Nat) (a0 : List Str) (a1 : Str) : Option Bool :=
  (slices_Index_string k a0 a1).bind fun r3 => some (decide (r3 ≥ 0))

def parser_relation_c1 (k : Nat) (a0 : Str) : Option Bool :=
  chk (decide ((0 : Int) ≤ 1) && decide ((1 : Int) ≤ ((namesR).length : Int))) ((slices_Contains_string k (List.drop (Int.toNat 1) namesR) a0).bind fun r11 => some r11)

def parser_name_i2_j1 (k : Nat) (a0 : SParser) (x21 : Bool) : Option (Except Pan (SParser × Str)) :=
  (if x21 = true then xbind (parser_wrong a0) fun _ => none else xbind (parser_advance k a0) fun r31 => some (.ok (r31, a0.t_.s_)))
def parser_name_i2 (k : Nat) (a0 : SParser) : Option (Except Pan (SParser × Str)) :=
  (if (a0.t_.kind != 1) = true then (parser_name_i2_j1 k a0 true) else (parser_relation_c1 k a0.t_.s_).bind fun r38 => (parser_name_i2_j1 k a0 (!r38)))

def parser_relation (k : Nat) (a0 : SParser) : Option (Except Pan (SParser × Int)) :=
  xbind (parser_name_i2 k a0) fun r1 => (slices_Index_string k namesR r1.2).bind fun r11 => some (.ok (r1.1, r11))

def parser_clause (k : Nat) (a0 : SParser) (a1 : GQuery) : Option (Except Pan (SParser × GQuery)) :=
  xbind (parser_takes k a0 w_not) fun r49 => (if r49.2 = true then xbind (parser_variable k r49.1) fun r54 => xbind (parser_relation k r54.1) fun r63 => xbind (parser_name k r63.1) fun r83 => chk (decide ((a1.Absences ++ [(GAbsence.mk r54.2 r63.2 r83.2 true)]).length * 144 ≤ 140737488355328)) (some (.ok (r83.1, (GQuery.mk a1.Variables a1.Relations (a1.Absences ++ [(GAbsence.mk r54.2 r63.2 r83.2 true)]) a1.Slots a1.Group a1.Compute a1.Order a1.Limit)))) else xbind (parser_name k r49.1) fun r97 => xbind (parser_relation k r97.1) fun r102 => xbind (parser_takes k r102.1 w_not) fun r146 => (if r146.2 = true then xbind (parser_variable k r146.1) fun r168 => chk (decide ((a1.Absences ++ [(GAbsence.mk r168.2 r102.2 r97.2 false)]).length * 144 ≤ 140737488355328)) (some (.ok (r168.1, (GQuery.mk a1.Variables a1.Relations (a1.Absences ++ [(GAbsence.mk r168.2 r102.2 r97.2 false)]) a1.Slots a1.Group a1.Compute a1.Order a1.Limit)))) else xbind (parser_name k r146.1) fun r197 => chk (decide ((a1.Relations ++ [(GRelation.mk r102.2 r97.2 r197.2)]).length * 40 ≤ 140737488355328)) (some (.ok (r197.1, (GQuery.mk a1.Variables (a1.Relations ++ [(GRelation.mk r102.2 r97.2 r197.2)]) a1.Absences a1.Slots a1.Group a1.Compute a1.Order a1.Limit))))))

def parser_query_c2 (k : Nat) (a1 : SParser) (a2 : GQuery) : Option (Except Pan (SParser × GQuery)) :=
  xbind (parser_clause k a1 a2) fun r1 => some (.ok (r1.1, r1.2))

def parser_list_i1_l1 : Nat → (List GVariable) → (List GRelation) → (List GAbsence) → (List GColumn) → (List GAggregate) → (List GOrderKey) → Str → Int → Int → Int → Str → Int → Int → Int → Int → Option (Except Pan (SParser × GQuery))
  | 0, _, _, _, _, _, _, _, _, _, _, _, _, _, _, _ => none
  | k + 1, x116, x121, x126, x131, x136, x141, x146, x147, x148, x149, x150, x151, x152, x153, x154 =>
    xbind (parser_takes k (SParser.mk (SLexer.mk x146 x147) (SToken.mk x148 x149 x150 x151)) wx2c) fun r242 => (if r242.2 = true then xbind (parser_query_c2 k r242.1 (GQuery.mk x116 x121 x126 (GInterval.mk x152 x153) x131 x136 x141 x154)) fun r248 => (parser_list_i1_l1 k r248.2.Variables r248.2.Relations r248.2.Absences r248.2.Group r248.2.Compute r248.2.Order r248.1.x_.s_ r248.1.x_.at_ r248.1.t_.kind r248.1.t_.at_ r248.1.t_.s_ r248.1.t_.n_ r248.2.Slots.From r248.2.Slots.To r248.2.Limit) else some (.ok (r242.1, (GQuery.mk x116 x121 x126 (GInterval.mk x152 x153) x131 x136 x141 x154))))
def parser_list_i1 (k : Nat) (a0 : SParser) (a2 : GQuery) : Option (Except Pan (SParser × GQuery)) :=
  xbind (parser_query_c2 k a0 a2) fun r1 => (parser_list_i1_l1 k r1.2.Variables r1.2.Relations r1.2.Absences r1.2.Group r1.2.Compute r1.2.Order r1.1.x_.s_ r1.1.x_.at_ r1.1.t_.kind r1.1.t_.at_ r1.1.t_.s_ r1.1.t_.n_ r1.2.Slots.From r1.2.Slots.To r1.2.Limit)

def parser_column (k : Nat) (a0 : SParser) : Option (Except Pan (SParser × GColumn)) :=
  xbind (parser_name k a0) fun r2 => xbind (parser_need k r2.1 wx2e) fun r8 => xbind (parser_path k r8) fun r13 => some (.ok (r13.1, (GColumn.mk r2.2 r13.2.1 r13.2.2)))

def parser_query_c3 (k : Nat) (a0 : GQuery) (a2 : SParser) : Option (Except Pan (GQuery × SParser)) :=
  xbind (parser_column k a2) fun r12 => chk (decide ((a0.Group ++ [r12.2]).length * 48 ≤ 140737488355328)) (some (.ok ((GQuery.mk a0.Variables a0.Relations a0.Absences a0.Slots (a0.Group ++ [r12.2]) a0.Compute a0.Order a0.Limit), r12.1)))

def parser_list_i2_l1 : Nat → (List GVariable) → (List GRelation) → (List GAbsence) → (List GColumn) → (List GAggregate) → (List GOrderKey) → Int → Int → Int → Str → Int → Int → Int → Str → Int → Option (Except Pan (SParser × GQuery))
  | 0, _, _, _, _, _, _, _, _, _, _, _, _, _, _, _ => none
  | k + 1, x116, x121, x126, x131, x136, x141, x146, x147, x148, x149, x150, x151, x152, x153, x154 =>
    xbind (parser_takes k (SParser.mk (SLexer.mk x149 x150) (SToken.mk x151 x152 x153 x154)) wx2c) fun r242 => (if r242.2 = true then xbind (parser_query_c3 k (GQuery.mk x116 x121 x126 (GInterval.mk x146 x147) x131 x136 x141 x148) r242.1) fun r248 => (parser_list_i2_l1 k r248.1.Variables r248.1.Relations r248.1.Absences r248.1.Group r248.1.Compute r248.1.Order r248.1.Slots.From r248.1.Slots.To r248.1.Limit r248.2.x_.s_ r248.2.x_.at_ r248.2.t_.kind r248.2.t_.at_ r248.2.t_.s_ r248.2.t_.n_) else some (.ok (r242.1, (GQuery.mk x116 x121 x126 (GInterval.mk x146 x147) x131 x136 x141 x148))))
def parser_list_i2 (k : Nat) (a0 : SParser) (a1 : GQuery) : Option (Except Pan (SParser × GQuery)) :=
  xbind (parser_query_c3 k a1 a0) fun r1 => (parser_list_i2_l1 k r1.1.Variables r1.1.Relations r1.1.Absences r1.1.Group r1.1.Compute r1.1.Order r1.1.Slots.From r1.1.Slots.To r1.1.Limit r1.2.x_.s_ r1.2.x_.at_ r1.2.t_.kind r1.2.t_.at_ r1.2.t_.s_ r1.2.t_.n_)

def parser_aggregate_c1 (k : Nat) (a0 : Str) : Option Bool :=
  chk (decide ((0 : Int) ≤ 1) && decide ((1 : Int) ≤ ((namesA).length : Int))) ((slices_Contains_string k (List.drop (Int.toNat 1) namesA) a0).bind fun r11 => some r11)

def parser_name_i3_j1 (k : Nat) (a0 : SParser) (x21 : Bool) : Option (Except Pan (SParser × Str)) :=
  (if x21 = true then xbind (parser_wrong a0) fun _ => none else xbind (parser_advance k a0) fun r31 => some (.ok (r31, a0.t_.s_)))
def parser_name_i3 (k : Nat) (a0 : SParser) : Option (Except Pan (SParser × Str)) :=
  (if (a0.t_.kind != 1) = true then (parser_name_i3_j1 k a0 true) else (parser_aggregate_c1 k a0.t_.s_).bind fun r38 => (parser_name_i3_j1 k a0 (!r38)))

def parser_aggregate (k : Nat) (a0 : SParser) : Option (Except Pan (SParser × GAggregate)) :=
  xbind (parser_name_i3 k a0) fun r2 => (slices_Index_string k namesA r2.2).bind fun r12 => (if (decide (r12 ≤ 3)) = true then some (.ok (r2.1, (GAggregate.mk r12 (GColumn.mk w_0 w_0 w_0) (GFraction.mk 0 0)))) else xbind (parser_need k r2.1 wx28) fun r18 => (if (r12 == 7) = true then xbind (parser_int k r18) fun r24 => xbind (parser_need k r24.1 wx2f) fun r30 => xbind (parser_int k r30) fun r36 => xbind (parser_need k r36.1 wx2c) fun r42 => xbind (parser_column k r42) fun r48 => xbind (parser_need k r48.1 wx29) fun r54 => some (.ok (r54, (GAggregate.mk r12 r48.2 (GFraction.mk r24.2 r36.2)))) else xbind (parser_column k r18) fun r61 => xbind (parser_need k r61.1 wx29) fun r67 => some (.ok (r67, (GAggregate.mk r12 r61.2 (GFraction.mk 0 0))))))

def parser_query_c4 (k : Nat) (a0 : GQuery) (a2 : SParser) : Option (Except Pan (GQuery × SParser)) :=
  xbind (parser_aggregate k a2) fun r12 => chk (decide ((a0.Compute ++ [r12.2]).length * 72 ≤ 140737488355328)) (some (.ok ((GQuery.mk a0.Variables a0.Relations a0.Absences a0.Slots a0.Group (a0.Compute ++ [r12.2]) a0.Order a0.Limit), r12.1)))

def parser_list_i3_l1 : Nat → (List GVariable) → (List GRelation) → (List GAbsence) → (List GColumn) → (List GAggregate) → (List GOrderKey) → Int → Int → Int → Str → Int → Int → Int → Str → Int → Option (Except Pan (SParser × GQuery))
  | 0, _, _, _, _, _, _, _, _, _, _, _, _, _, _, _ => none
  | k + 1, x116, x121, x126, x131, x136, x141, x146, x147, x148, x149, x150, x151, x152, x153, x154 =>
    xbind (parser_takes k (SParser.mk (SLexer.mk x149 x150) (SToken.mk x151 x152 x153 x154)) wx2c) fun r242 => (if r242.2 = true then xbind (parser_query_c4 k (GQuery.mk x116 x121 x126 (GInterval.mk x146 x147) x131 x136 x141 x148) r242.1) fun r248 => (parser_list_i3_l1 k r248.1.Variables r248.1.Relations r248.1.Absences r248.1.Group r248.1.Compute r248.1.Order r248.1.Slots.From r248.1.Slots.To r248.1.Limit r248.2.x_.s_ r248.2.x_.at_ r248.2.t_.kind r248.2.t_.at_ r248.2.t_.s_ r248.2.t_.n_) else some (.ok (r242.1, (GQuery.mk x116 x121 x126 (GInterval.mk x146 x147) x131 x136 x141 x148))))
def parser_list_i3 (k : Nat) (a0 : SParser) (a1 : GQuery) : Option (Except Pan (SParser × GQuery)) :=
  xbind (parser_query_c4 k a1 a0) fun r1 => (parser_list_i3_l1 k r1.1.Variables r1.1.Relations r1.1.Absences r1.1.Group r1.1.Compute r1.1.Order r1.1.Slots.From r1.1.Slots.To r1.1.Limit r1.2.x_.s_ r1.2.x_.at_ r1.2.t_.kind r1.2.t_.at_ r1.2.t_.s_ r1.2.t_.n_)

def parser_query_c5 (k : Nat) (a1 : SParser) (a2 : GQuery) : Option (Except Pan (SParser × GQuery)) :=
  xbind (parser_int k a1) fun r1 => xbind (parser_takes k r1.1 w_desc) fun r7 => chk (decide ((a2.Order ++ [(GOrderKey.mk r1.2 r7.2)]).length * 16 ≤ 140737488355328)) (some (.ok (r7.1, (GQuery.mk a2.Variables a2.Relations a2.Absences a2.Slots a2.Group a2.Compute (a2.Order ++ [(GOrderKey.mk r1.2 r7.2)]) a2.Limit))))

def parser_list_i4_l1 : Nat → (List GVariable) → (List GRelation) → (List GAbsence) → (List GColumn) → (List GAggregate) → (List GOrderKey) → Str → Int → Int → Int → Str → Int → Int → Int → Int → Option (Except Pan (SParser × GQuery))
  | 0, _, _, _, _, _, _, _, _, _, _, _, _, _, _, _ => none
  | k + 1, x116, x121, x126, x131, x136, x141, x146, x147, x148, x149, x150, x151, x152, x153, x154 =>
    xbind (parser_takes k (SParser.mk (SLexer.mk x146 x147) (SToken.mk x148 x149 x150 x151)) wx2c) fun r242 => (if r242.2 = true then xbind (parser_query_c5 k r242.1 (GQuery.mk x116 x121 x126 (GInterval.mk x152 x153) x131 x136 x141 x154)) fun r248 => (parser_list_i4_l1 k r248.2.Variables r248.2.Relations r248.2.Absences r248.2.Group r248.2.Compute r248.2.Order r248.1.x_.s_ r248.1.x_.at_ r248.1.t_.kind r248.1.t_.at_ r248.1.t_.s_ r248.1.t_.n_ r248.2.Slots.From r248.2.Slots.To r248.2.Limit) else some (.ok (r242.1, (GQuery.mk x116 x121 x126 (GInterval.mk x152 x153) x131 x136 x141 x154))))
def parser_list_i4 (k : Nat) (a0 : SParser) (a2 : GQuery) : Option (Except Pan (SParser × GQuery)) :=
  xbind (parser_query_c5 k a0 a2) fun r1 => (parser_list_i4_l1 k r1.2.Variables r1.2.Relations r1.2.Absences r1.2.Group r1.2.Compute r1.2.Order r1.1.x_.s_ r1.1.x_.at_ r1.1.t_.kind r1.1.t_.at_ r1.1.t_.s_ r1.1.t_.n_ r1.2.Slots.From r1.2.Slots.To r1.2.Limit)

def parser_query_j4 (k : Nat) (x323 : List GVariable) (x328 : List GRelation) (x333 : List GAbsence) (x338 : List GColumn) (x343 : List GAggregate) (x348 : List GOrderKey) (x353 : Str) (x354 : Int) (x355 : Int) (x356 : Int) (x357 : Str) (x358 : Int) (x359 : Int) (x360 : Int) (x361 : Int) : Option (Except Pan (SParser × GQuery)) :=
  xbind (parser_takes k (SParser.mk (SLexer.mk x353 x354) (SToken.mk x355 x356 x357 x358)) w_order) fun r366 => (if r366.2 = true then xbind (parser_need k r366.1 w_by) fun r372 => xbind (parser_list_i4 k r372 (GQuery.mk x323 x328 x333 (GInterval.mk x359 x360) x338 x343 x348 x361)) fun r379 => xbind (parser_takes k r379.1 w_limit) fun r415 => (if r415.2 = true then xbind (parser_int k r415.1) fun r421 => some (.ok (r421.1, (GQuery.mk r379.2.Variables r379.2.Relations r379.2.Absences r379.2.Slots r379.2.Group r379.2.Compute r379.2.Order r421.2))) else some (.ok (r415.1, r379.2))) else xbind (parser_takes k r366.1 w_limit) fun r484 => (if r484.2 = true then xbind (parser_int k r484.1) fun r490 => some (.ok (r490.1, (GQuery.mk x323 x328 x333 (GInterval.mk x359 x360) x338 x343 x348 r490.2))) else some (.ok (r484.1, (GQuery.mk x323 x328 x333 (GInterval.mk x359 x360) x338 x343 x348 x361)))))
def parser_query_j3 (k : Nat) (x238 : List GVariable) (x243 : List GRelation) (x248 : List GAbsence) (x253 : List GColumn) (x258 : List GAggregate) (x263 : List GOrderKey) (x268 : Str) (x269 : Int) (x270 : Int) (x271 : Int) (x272 : Str) (x273 : Int) (x274 : Int) (x275 : Int) (x276 : Int) : Option (Except Pan (SParser × GQuery)) :=
  xbind (parser_takes k (SParser.mk (SLexer.mk x268 x269) (SToken.mk x270 x271 x272 x273)) w_compute) fun r554 => (if r554.2 = true then xbind (parser_list_i3 k r554.1 (GQuery.mk x238 x243 x248 (GInterval.mk x274 x275) x253 x258 x263 x276)) fun r560 => (parser_query_j4 k r560.2.Variables r560.2.Relations r560.2.Absences r560.2.Group r560.2.Compute r560.2.Order r560.1.x_.s_ r560.1.x_.at_ r560.1.t_.kind r560.1.t_.at_ r560.1.t_.s_ r560.1.t_.n_ r560.2.Slots.From r560.2.Slots.To r560.2.Limit) else (parser_query_j4 k x238 x243 x248 x253 x258 x263 r554.1.x_.s_ r554.1.x_.at_ r554.1.t_.kind r554.1.t_.at_ r554.1.t_.s_ r554.1.t_.n_ x274 x275 x276))
def parser_query_j2 (k : Nat) (x110 : List GVariable) (x115 : List GRelation) (x120 : List GAbsence) (x125 : List GColumn) (x130 : List GAggregate) (x135 : List GOrderKey) (x148 : Int) (x177 : Str) (x178 : Int) (x179 : Int) (x180 : Int) (x181 : Str) (x182 : Int) (x183 : Int) (x184 : Int) : Option (Except Pan (SParser × GQuery)) :=
  xbind (parser_takes k (SParser.mk (SLexer.mk x177 x178) (SToken.mk x179 x180 x181 x182)) w_group) fun r597 => (if r597.2 = true then xbind (parser_need k r597.1 w_by) fun r603 => xbind (parser_list_i2 k r603 (GQuery.mk x110 x115 x120 (GInterval.mk x183 x184) x125 x130 x135 x148)) fun r610 => (parser_query_j3 k r610.2.Variables r610.2.Relations r610.2.Absences r610.2.Group r610.2.Compute r610.2.Order r610.1.x_.s_ r610.1.x_.at_ r610.1.t_.kind r610.1.t_.at_ r610.1.t_.s_ r610.1.t_.n_ r610.2.Slots.From r610.2.Slots.To r610.2.Limit) else (parser_query_j3 k x110 x115 x120 x125 x130 x135 r597.1.x_.s_ r597.1.x_.at_ r597.1.t_.kind r597.1.t_.at_ r597.1.t_.s_ r597.1.t_.n_ x183 x184 x148))
def parser_query_j1 (k : Nat) (x110 : List GVariable) (x115 : List GRelation) (x120 : List GAbsence) (x125 : List GColumn) (x130 : List GAggregate) (x135 : List GOrderKey) (x140 : Str) (x141 : Int) (x142 : Int) (x143 : Int) (x144 : Str) (x145 : Int) (x146 : Int) (x147 : Int) (x148 : Int) : Option (Except Pan (SParser × GQuery)) :=
  xbind (parser_takes k (SParser.mk (SLexer.mk x140 x141) (SToken.mk x142 x143 x144 x145)) w_slots) fun r648 => (if r648.2 = true then xbind (parser_int k r648.1) fun r654 => xbind (parser_need k r654.1 wx2e2e) fun r660 => xbind (parser_int k r660) fun r666 => (parser_query_j2 k x110 x115 x120 x125 x130 x135 x148 r666.1.x_.s_ r666.1.x_.at_ r666.1.t_.kind r666.1.t_.at_ r666.1.t_.s_ r666.1.t_.n_ r654.2 r666.2) else (parser_query_j2 k x110 x115 x120 x125 x130 x135 x148 r648.1.x_.s_ r648.1.x_.at_ r648.1.t_.kind r648.1.t_.at_ r648.1.t_.s_ r648.1.t_.n_ x146 x147))
def parser_query (k : Nat) (a0 : SParser) : Option (Except Pan (SParser × GQuery)) :=
  xbind (parser_need k a0 w_find) fun r28 => xbind (parser_list k r28 (GQuery.mk [] [] [] (GInterval.mk 0 0) [] [] [] 0)) fun r33 => xbind (parser_takes k r33.1 w_where) fun r673 => (if r673.2 = true then xbind (parser_list_i1 k r673.1 r33.2) fun r679 => (parser_query_j1 k r679.2.Variables r679.2.Relations r679.2.Absences r679.2.Group r679.2.Compute r679.2.Order r679.1.x_.s_ r679.1.x_.at_ r679.1.t_.kind r679.1.t_.at_ r679.1.t_.s_ r679.1.t_.n_ r679.2.Slots.From r679.2.Slots.To r679.2.Limit) else (parser_query_j1 k r33.2.Variables r33.2.Relations r33.2.Absences r33.2.Group r33.2.Compute r33.2.Order r673.1.x_.s_ r673.1.x_.at_ r673.1.t_.kind r673.1.t_.at_ r673.1.t_.s_ r673.1.t_.n_ r33.2.Slots.From r33.2.Slots.To r33.2.Limit))

def syntax_Parse_c1 (k : Nat) (a0 : SParser) (a1 : GQuery) : Option (Except Pan (SParser × GQuery)) :=
  xbind (parser_query k a0) fun r1 => some (.ok (r1.1, r1.2))

def syntax_parse (k : Nat) (a0 : Str) (a1 : GQuery) : Option (GQuery × SFailure) :=
  (if (decide (((a0).length : Int) > 4096)) = true then some (a1, (SFailure.mk 0 5)) else xcatch (parser_advance k (SParser.mk (SLexer.mk a0 0) (SToken.mk 0 0 w_0 0))) (fun p34 => some (a1, (SFailure.mk p34.1 p34.2))) (fun r30 => xcatch (syntax_Parse_c1 k r30 a1) (fun p67 => some (a1, (SFailure.mk p67.1 p67.2))) (fun r63 => (if (r63.1.t_.kind != 0) = true then xcatch (parser_wrong r63.1) (fun p119 => some (r63.2, (SFailure.mk p119.1 p119.2))) (fun _ => none) else some (r63.2, (SFailure.mk 0 0))))))

def attribute_isTest (a0 : GPred) : Option Bool :=
  (if (a0.Op == 5) = true then some true else (if (a0.Op == 6) = true then some true else some (a0.Op == 7)))

def attribute_within_l1 : Nat → Str → Int → Int → Int → Option Bool
  | 0, _, _, _, _ => none
  | k + 1, a0, a1, a2, x9 =>
    (if (decide (x9 < ((a0).length : Int))) = true then chk (decide ((0 : Int) ≤ x9)) ((a0[Int.toNat (x9)]?).bind fun c26 => (if (decide ((c26.toNat : Int) < a1)) = true then some false else chk (decide ((0 : Int) ≤ x9)) ((a0[Int.toNat (x9)]?).bind fun c30 => (if (decide ((c30.toNat : Int) > a2)) = true then some false else (attribute_within_l1 k a0 a1 a2 (w64 (x9 + 1))))))) else some true)
def attribute_within (k : Nat) (a0 : Str) (a1 : Int) (a2 : Int) : Option Bool :=
  (attribute_within_l1 k a0 a1 a2 0)

def attribute_IsName (k : Nat) (a0 : Str) : Option Bool :=
  (if (!(a0 == w_0)) = true then (if (decide (((a0).length : Int) ≤ 64)) = true then (attribute_within k a0 33 126).bind fun r3 => some r3 else some false) else some false)

def attribute_CheckValue_j1 (a0 : GValue) (x11 : Bool) : Option Int :=
  (if (decide (((a0.Text).length : Int) > 4096)) = true then some 5 else (if (!x11) = true then some 3 else some 0))
def attribute_CheckValue (k : Nat) (a0 : GValue) : Option Int :=
  (if (a0.Kind == 1) = true then (attribute_within k a0.Text 32 126).bind fun r16 => (if r16 = true then (attribute_CheckValue_j1 a0 (a0.Int == 0)) else (attribute_CheckValue_j1 a0 false)) else (if (a0.Kind == 2) = true then (if (a0.Text == w_0) = true then (if (decide (a0.Int ≥ (-1099511627776))) = true then (attribute_CheckValue_j1 a0 (decide (a0.Int ≤ 1099511627776))) else (attribute_CheckValue_j1 a0 false)) else (attribute_CheckValue_j1 a0 false)) else (if (a0.Kind == 3) = true then (if (a0.Text == w_0) = true then (if (a0.Int == 0) = true then (attribute_CheckValue_j1 a0 true) else (attribute_CheckValue_j1 a0 (a0.Int == 1))) else (attribute_CheckValue_j1 a0 false)) else some 12)))

def attribute_checkNode_j5 (k : Nat) (a0 : GPred) : Option Int :=
  (attribute_CheckValue k a0.Value).bind fun r79 => (if (r79 != 0) = true then some r79 else (if (a0.Op == 6) = true then (if (a0.Value.Kind == 3) = true then some 13 else (if (a0.Op == 7) = true then (if (a0.Value.Kind != 1) = true then some 13 else some 0) else some 0)) else (if (a0.Op == 7) = true then (if (a0.Value.Kind != 1) = true then some 13 else some 0) else some 0)))
def attribute_checkNode_j7 (k : Nat) (a0 : GPred) (r18 : Bool) (x114 : Bool) : Option Int :=
  (if x114 = true then some 11 else (if (!r18) = true then some 0 else (attribute_IsName k a0.Field).bind fun r121 => (if (!r121) = true then some 11 else (if (a0.Field == w_attr) = true then (attribute_IsName k a0.Key).bind fun r128 => (if (!r128) = true then some 11 else (if (!(a0.Field == w_attr)) = true then (if (!(a0.Key == w_0)) = true then some 11 else (attribute_checkNode_j5 k a0)) else (attribute_checkNode_j5 k a0))) else (if (!(a0.Field == w_attr)) = true then (if (!(a0.Key == w_0)) = true then some 11 else (attribute_checkNode_j5 k a0)) else (attribute_checkNode_j5 k a0))))))
def attribute_checkNode_j6 (k : Nat) (a0 : GPred) (r18 : Bool) (x103 : Bool) : Option Int :=
  (if x103 = true then some 3 else (if (a0.Op == 4) = true then (attribute_IsName k a0.Key).bind fun r143 => (attribute_checkNode_j7 k a0 r18 (!r143)) else (attribute_checkNode_j7 k a0 r18 false)))
def attribute_checkNode_j2 (k : Nat) (a0 : GPred) (x9 : Bool) : Option Int :=
  (attribute_isTest a0).bind fun r18 => (if (!x9) = true then (attribute_checkNode_j6 k a0 r18 true) else (if (!r18) = true then (if (!(a0.Field == w_0)) = true then (attribute_checkNode_j6 k a0 r18 true) else (if (!((a0.Value.Kind == 0) && ((a0.Value.Text == w_0) && ((a0.Value.Int == 0) && true)))) = true then (attribute_checkNode_j6 k a0 r18 true) else (if (!r18) = true then (if (!(a0.Op == 4)) = true then (attribute_checkNode_j6 k a0 r18 (!(a0.Key == w_0))) else (attribute_checkNode_j6 k a0 r18 false)) else (attribute_checkNode_j6 k a0 r18 false)))) else (if (!r18) = true then (if (!(a0.Op == 4)) = true then (attribute_checkNode_j6 k a0 r18 (!(a0.Key == w_0))) else (attribute_checkNode_j6 k a0 r18 false)) else (attribute_checkNode_j6 k a0 r18 false))))
def attribute_checkNode_j8 (k : Nat) (a0 : GPred) (x155 : Bool) : Option Int :=
  (if x155 = true then (attribute_checkNode_j2 k a0 (decide (((a0.Args).length : Int) ≥ 1))) else (if (a0.Op == 3) = true then (attribute_checkNode_j2 k a0 (((a0.Args).length : Int) == 1)) else (if (a0.Op == 0) = true then (if (a0.Op == 0) = true then (attribute_checkNode_j2 k a0 (((a0.Args).length : Int) == 0)) else some 12) else (if (a0.Op == 4) = true then (if (a0.Op == 4) = true then (attribute_checkNode_j2 k a0 (((a0.Args).length : Int) == 0)) else some 12) else (if (a0.Op == 5) = true then (if (a0.Op == 5) = true then (attribute_checkNode_j2 k a0 (((a0.Args).length : Int) == 0)) else some 12) else (if (a0.Op == 6) = true then (if (a0.Op == 6) = true then (attribute_checkNode_j2 k a0 (((a0.Args).length : Int) == 0)) else some 12) else (if (a0.Op == 7) = true then (attribute_checkNode_j2 k a0 (((a0.Args).length : Int) == 0)) else some 12)))))))
def attribute_checkNode (k : Nat) (a0 : GPred) : Option Int :=
  (if (a0.Op == 1) = true then (attribute_checkNode_j8 k a0 (a0.Op == 1)) else (attribute_checkNode_j8 k a0 (a0.Op == 2)))

mutual
def attribute_Check_c1 : Nat → GPred → Int → Int → Option (Int × Int)
  | 0, _, _, _ => none
  | k + 1, a0, a1, a2 =>
    (if (decide (a2 ≥ 64)) = true then some (a2, 6) else (if (decide (a1 > 16)) = true then some (a2, 15) else (attribute_checkNode k a0).bind fun r8 => (if (r8 != 0) = true then some (w64 (a2 + 1), r8) else (attribute_Check_c1_l1 k a0 a1 (w64 (a2 + 1)) 0))))
def attribute_Check_c1_l1 : Nat → GPred → Int → Int → Int → Option (Int × Int)
  | 0, _, _, _, _ => none
  | k + 1, a0, a1, x33, x34 =>
    (if (decide (x34 < ((a0.Args).length : Int))) = true then chk (decide ((0 : Int) ≤ x34)) ((a0.Args[Int.toNat (x34)]?).bind fun x64 => (attribute_Check_c1 k x64 (w64 (a1 + 1)) x33).bind fun r79 => (if (r79.2 != 0) = true then some (r79.1, r79.2) else (attribute_Check_c1_l1 k a0 a1 r79.1 (w64 (x34 + 1))))) else some (x33, 0))
end

def attribute_Check (k : Nat) (a0 : GPred) : Option Int :=
  (attribute_Check_c1 k a0 1 0).bind fun r6 => some r6.2

def syntax_CheckPred_c1 (a0 : GPred) : Option Bool :=
  (if (a0.Op == 1) = true then some (decide (((a0.Args).length : Int) < 2)) else (if (a0.Op == 2) = true then some (decide (((a0.Args).length : Int) < 2)) else some false))

mutual
def syntax_inTree_c1 : Nat → GPred → Option Bool
  | 0, _ => none
  | k + 1, a0 =>
    (syntax_inTree k a0).bind fun r4 => some r4
def slices_IndexFunc_api_Pred_l1 : Nat → (List GPred) → Int → Option Int
  | 0, _, _ => none
  | k + 1, a0, x20 =>
    (if (decide (x20 < ((a0).length : Int))) = true then chk (decide ((0 : Int) ≤ x20)) ((a0[Int.toNat (x20)]?).bind fun x46 => (syntax_inTree_c1 k x46).bind fun r57 => (if r57 = true then some x20 else (slices_IndexFunc_api_Pred_l1 k a0 (w64 (x20 + 1))))) else some (-1))
def slices_IndexFunc_api_Pred : Nat → (List GPred) → Option Int
  | 0, _ => none
  | k + 1, a0 =>
    (slices_IndexFunc_api_Pred_l1 k a0 0)
def slices_ContainsFunc_api_Pred : Nat → (List GPred) → Option Bool
  | 0, _ => none
  | k + 1, a0 =>
    (slices_IndexFunc_api_Pred k a0).bind fun r3 => some (decide (r3 ≥ 0))
def syntax_inTree : Nat → GPred → Option Bool
  | 0, _ => none
  | k + 1, a0 =>
    (syntax_CheckPred_c1 a0).bind fun r5 => (if r5 = true then some true else (slices_ContainsFunc_api_Pred k a0.Args).bind fun r10 => some r10)
end

def syntax_CheckPred_c2 (k : Nat) (a0 : GPred) : Option Bool :=
  (if (decide (a0.Op ≥ 5)) = true then (if (!(a0.Field == w_attr)) = true then (syntax_IsField k a0.Field).bind fun r6 => some (!r6) else some false) else some false)

mutual
def syntax_inTree_c1_i1 : Nat → GPred → Option Bool
  | 0, _ => none
  | k + 1, a0 =>
    (syntax_inTree_i1 k a0).bind fun r4 => some r4
def slices_IndexFunc_api_Pred_i1_l1 : Nat → (List GPred) → Int → Option Int
  | 0, _, _ => none
  | k + 1, a0, x20 =>
    (if (decide (x20 < ((a0).length : Int))) = true then chk (decide ((0 : Int) ≤ x20)) ((a0[Int.toNat (x20)]?).bind fun x46 => (syntax_inTree_c1_i1 k x46).bind fun r57 => (if r57 = true then some x20 else (slices_IndexFunc_api_Pred_i1_l1 k a0 (w64 (x20 + 1))))) else some (-1))
def slices_IndexFunc_api_Pred_i1 : Nat → (List GPred) → Option Int
  | 0, _ => none
  | k + 1, a0 =>
    (slices_IndexFunc_api_Pred_i1_l1 k a0 0)
def slices_ContainsFunc_api_Pred_i1 : Nat → (List GPred) → Option Bool
  | 0, _ => none
  | k + 1, a0 =>
    (slices_IndexFunc_api_Pred_i1 k a0).bind fun r3 => some (decide (r3 ≥ 0))
def syntax_inTree_i1 : Nat → GPred → Option Bool
  | 0, _ => none
  | k + 1, a0 =>
    (syntax_CheckPred_c2 k a0).bind fun r5 => (if r5 = true then some true else (slices_ContainsFunc_api_Pred_i1 k a0.Args).bind fun r10 => some r10)
end

def syntax_CheckPred (k : Nat) (a0 : GPred) : Option Int :=
  (attribute_Check k a0).bind fun r4 => (if (r4 != 0) = true then some r4 else (syntax_inTree k a0).bind fun r8 => (if r8 = true then some 3 else (syntax_inTree_i1 k a0).bind fun r14 => (if r14 = true then some 11 else some 0)))

def syntax_isRelation (a0 : Int) : Option Bool :=
  (if (decide (a0 ≥ 1)) = true then some (decide (a0 < ((namesR).length : Int))) else some false)

def syntax_checkPattern_l3 : Nat → GQuery → Int → Option Int
  | 0, _, _ => none
  | k + 1, a0, x389 =>
    (if (decide (x389 < ((a0.Absences).length : Int))) = true then chk (decide ((0 : Int) ≤ x389)) ((a0.Absences[Int.toNat (x389)]?).bind fun x439 => (syntax_IsVariable k x439.Variable.Name).bind fun r456 => (if (!r456) = true then some 11 else (syntax_CheckPred k x439.Variable.Where).bind fun r465 => (if (r465 != 0) = true then some r465 else (syntax_isRelation x439.Kind).bind fun r470 => (if (!r470) = true then some 12 else (syntax_IsVariable k x439.Other).bind fun r476 => (if (!r476) = true then some 11 else (syntax_checkPattern_l3 k a0 (w64 (x389 + 1)))))))) else some 0)
def syntax_checkPattern_l2 : Nat → GQuery → Int → Option Int
  | 0, _, _ => none
  | k + 1, a0, x284 =>
    (if (decide (x284 < ((a0.Relations).length : Int))) = true then chk (decide ((0 : Int) ≤ x284)) ((a0.Relations[Int.toNat (x284)]?).bind fun x319 => (syntax_isRelation x319.Kind).bind fun r329 => (if (!r329) = true then some 12 else (syntax_IsVariable k x319.A).bind fun r334 => (if (!r334) = true then some 11 else (syntax_IsVariable k x319.B).bind fun r341 => (if (!r341) = true then some 11 else (syntax_checkPattern_l2 k a0 (w64 (x284 + 1))))))) else (syntax_checkPattern_l3 k a0 0))
def syntax_checkPattern_l1 : Nat → GQuery → Int → Option Int
  | 0, _, _ => none
  | k + 1, a0, x118 =>
    (if (decide (x118 < ((a0.Variables).length : Int))) = true then chk (decide ((0 : Int) ≤ x118)) ((a0.Variables[Int.toNat (x118)]?).bind fun x153 => (syntax_IsVariable k x153.Name).bind fun r169 => (if (!r169) = true then some 11 else (syntax_CheckPred k x153.Where).bind fun r174 => (if (r174 != 0) = true then some r174 else (syntax_checkPattern_l1 k a0 (w64 (x118 + 1)))))) else (syntax_checkPattern_l2 k a0 0))
def syntax_checkPattern (k : Nat) (a0 : GQuery) : Option Int :=
  (if (((a0.Variables).length : Int) == 0) = true then some 7 else (syntax_checkPattern_l1 k a0 0))

def syntax_isColumn (k : Nat) (a0 : GColumn) : Option Bool :=
  (syntax_IsVariable k a0.Var).bind fun r6 => (if (!r6) = true then some false else (if (a0.Field == w_attr) = true then (attribute_IsName k a0.Key).bind fun r14 => some r14 else (syntax_IsField k a0.Field).bind fun r19 => (if r19 = true then some (a0.Key == w_0) else some false)))

def syntax_checkAggregate_j3 (a0 : GAggregate) (x30 : Bool) : Option Int :=
  (if x30 = true then some 11 else (if (a0.Kind == 7) = true then (if (decide (a0.Q.Num < 0)) = true then some 2 else (if (decide (a0.Q.Num > 1048576)) = true then some 2 else (if (decide (a0.Q.Den < 1)) = true then some 2 else (if (decide (a0.Q.Den > 1048576)) = true then some 2 else some 0)))) else some 0))
def syntax_checkAggregate_j2 (k : Nat) (a0 : GAggregate) (x17 : Bool) (x18 : Bool) : Option Int :=
  (if x18 = true then some 3 else (if (!x17) = true then (syntax_isColumn k a0.Column).bind fun r47 => (syntax_checkAggregate_j3 a0 (!r47)) else (syntax_checkAggregate_j3 a0 false)))
def syntax_checkAggregate_j1 (k : Nat) (a0 : GAggregate) (x8 : Bool) : Option Int :=
  (if x8 = true then some 12 else (if (decide (a0.Kind ≤ 3)) = true then (if (!((a0.Column.Var == w_0) && ((a0.Column.Field == w_0) && ((a0.Column.Key == w_0) && true)))) = true then (syntax_checkAggregate_j2 k a0 true true) else (if (!(a0.Kind == 7)) = true then (syntax_checkAggregate_j2 k a0 true (!((a0.Q.Num == 0) && ((a0.Q.Den == 0) && true)))) else (syntax_checkAggregate_j2 k a0 true false))) else (if (!(a0.Kind == 7)) = true then (syntax_checkAggregate_j2 k a0 false (!((a0.Q.Num == 0) && ((a0.Q.Den == 0) && true)))) else (syntax_checkAggregate_j2 k a0 false false))))
def syntax_checkAggregate (k : Nat) (a0 : GAggregate) : Option Int :=
  (if (decide (a0.Kind < 1)) = true then (syntax_checkAggregate_j1 k a0 true) else (syntax_checkAggregate_j1 k a0 (decide (a0.Kind ≥ ((namesA).length : Int)))))

def syntax_checkResults_l4 : Nat → GQuery → Int → Option Int
  | 0, _, _ => none
  | k + 1, a0, x282 =>
    (if (decide (x282 < ((a0.Order).length : Int))) = true then chk (decide ((0 : Int) ≤ x282)) ((a0.Order[Int.toNat (x282)]?).bind fun x304 => (if (decide (x304.Index < 0)) = true then some 2 else (if (decide (x304.Index > 1048576)) = true then some 2 else (syntax_checkResults_l4 k a0 (w64 (x282 + 1)))))) else (if (decide (a0.Limit < 0)) = true then some 2 else (if (decide (a0.Limit > 1048576)) = true then some 2 else some 0)))
def syntax_checkResults_l3 : Nat → GQuery → Int → Option Int
  | 0, _, _ => none
  | k + 1, a0, x189 =>
    (if (decide (x189 < ((a0.Compute).length : Int))) = true then chk (decide ((0 : Int) ≤ x189)) ((a0.Compute[Int.toNat (x189)]?).bind fun x214 => (syntax_checkAggregate k x214).bind fun r224 => (if (r224 != 0) = true then some r224 else (syntax_checkResults_l3 k a0 (w64 (x189 + 1))))) else (syntax_checkResults_l4 k a0 0))
def syntax_checkResults_l2 : Nat → GQuery → Int → Option Int
  | 0, _, _ => none
  | k + 1, a0, x85 =>
    (if (decide (x85 < ((a0.Group).length : Int))) = true then chk (decide ((0 : Int) ≤ x85)) ((a0.Group[Int.toNat (x85)]?).bind fun x109 => (syntax_isColumn k x109).bind fun r119 => (if (!r119) = true then some 11 else (syntax_checkResults_l2 k a0 (w64 (x85 + 1))))) else (syntax_checkResults_l3 k a0 0))
def syntax_checkResults_j1 (k : Nat) (a0 : GQuery) (x20 : Bool) : Option Int :=
  (if x20 = true then some 2 else (syntax_checkResults_l2 k a0 0))
def syntax_checkResults (k : Nat) (a0 : GQuery) : Option Int :=
  (if (decide (a0.Slots.From < 0)) = true then (syntax_checkResults_j1 k a0 true) else (if (decide (a0.Slots.From > 1048576)) = true then (syntax_checkResults_j1 k a0 true) else (if (decide (a0.Slots.To < 0)) = true then (syntax_checkResults_j1 k a0 true) else (syntax_checkResults_j1 k a0 (decide (a0.Slots.To > 1048576))))))

def syntax_spaced_j2 (k : Nat) (a0 : SToken) (a1 : SToken) : Option Bool :=
  (if (a0.kind == 1) = true then (if (a1.kind == 4) = true then (if (a1.s_ == wx2828) = true then some false else (slices_Contains_string k namesC a1.s_).bind fun r40 => some (!r40)) else some true) else some false)
def syntax_spaced_j1 (k : Nat) (a0 : SToken) (a1 : SToken) : Option Bool :=
  (if (a1.kind == 1) = true then (if (a0.kind == 4) = true then (slices_Contains_string k namesT a0.s_).bind fun r54 => (if (!r54) = true then some true else (syntax_spaced_j2 k a0 a1)) else some true) else (syntax_spaced_j2 k a0 a1))
def syntax_spaced (k : Nat) (a0 : SToken) (a1 : SToken) : Option Bool :=
  (if (a0.kind == 4) = true then (if (a0.s_ == wx2c) = true then some true else (if (a0.s_ == wx3d) = true then some true else (if (a0.s_ == wx3c) = true then some true else (if (a1.kind == 4) = true then (if (a1.s_ == wx3d) = true then some true else (if (a1.s_ == wx3c) = true then some true else (syntax_spaced_j1 k a0 a1))) else (syntax_spaced_j1 k a0 a1))))) else (if (a1.kind == 4) = true then (if (a1.s_ == wx3d) = true then some true else (if (a1.s_ == wx3c) = true then some true else (syntax_spaced_j1 k a0 a1))) else (syntax_spaced_j1 k a0 a1)))

def writer_put_j2 (a1 : SToken) (a2 : Str) (x33 : List Int) : Option SWriter :=
  chk (decide ((x33 ++ List.map (fun b : UInt8 => (b.toNat : Int)) a2).length ≤ 140737488355328)) ((if (a1.s_ == wx2828) = true then some (SWriter.mk (x33 ++ List.map (fun b : UInt8 => (b.toNat : Int)) a2) (SToken.mk a1.kind a1.at_ wx28 a1.n_)) else some (SWriter.mk (x33 ++ List.map (fun b : UInt8 => (b.toNat : Int)) a2) a1)))
def writer_put_j3 (a0 : SWriter) (a1 : SToken) (a2 : Str) (x57 : Bool) : Option SWriter :=
  (if x57 = true then chk (decide ((a0.out ++ [32]).length * 1 ≤ 140737488355328)) ((writer_put_j2 a1 a2 (a0.out ++ [32]))) else (writer_put_j2 a1 a2 a0.out))
def writer_put (k : Nat) (a0 : SWriter) (a1 : SToken) (a2 : Str) : Option SWriter :=
  (if (decide (((a0.out).length : Int) > 0)) = true then (syntax_spaced k a0.last a1).bind fun r74 => (writer_put_j3 a0 a1 a2 r74) else (writer_put_j3 a0 a1 a2 false))

def writer_words_l1 : Nat → (List Str) → (List Int) → Int → Int → Str → Int → Int → Option SWriter
  | 0, _, _, _, _, _, _, _ => none
  | k + 1, a1, x31, x36, x37, x38, x39, x40 =>
    (if (decide (x40 < ((a1).length : Int))) = true then chk (decide ((0 : Int) ≤ x40)) ((a1[Int.toNat (x40)]?).bind fun x77 => (writer_put k (SWriter.mk x31 (SToken.mk x36 x37 x38 x39)) (SToken.mk 1 0 x77 0) x77).bind fun r85 => (writer_words_l1 k a1 r85.out r85.last.kind r85.last.at_ r85.last.s_ r85.last.n_ (w64 (x40 + 1)))) else some (SWriter.mk x31 (SToken.mk x36 x37 x38 x39)))
def writer_words (k : Nat) (a0 : SWriter) (a1 : List Str) : Option SWriter :=
  (writer_words_l1 k a1 a0.out a0.last.kind a0.last.at_ a0.last.s_ a0.last.n_ 0)

def writer_sign (k : Nat) (a0 : SWriter) (a1 : Str) : Option SWriter :=
  (writer_put k a0 (SToken.mk 4 0 a1 0) a1).bind fun r1 => some r1

mutual
def writer_text_l3 : Nat → SWriter → Str → (List Int) → Int → Option SWriter
  | 0, _, _, _, _ => none
  | k + 1, a0, a1, x70, x75 =>
    (if (decide (x75 < ((a1).length : Int))) = true then chk (decide ((0 : Int) ≤ x75)) ((a1[Int.toNat (x75)]?).bind fun c193 => (if ((c193.toNat : Int) == 34) = true then chk (decide ((x70 ++ [92]).length * 1 ≤ 140737488355328)) ((writer_text_j4 k a0 a1 x75 (x70 ++ [92]))) else chk (decide ((0 : Int) ≤ x75)) ((a1[Int.toNat (x75)]?).bind fun c203 => (if ((c203.toNat : Int) == 92) = true then chk (decide ((x70 ++ [92]).length * 1 ≤ 140737488355328)) ((writer_text_j4 k a0 a1 x75 (x70 ++ [92]))) else (writer_text_j4 k a0 a1 x75 x70))))) else chk (decide ((x70 ++ [34]).length * 1 ≤ 140737488355328)) ((writer_put k a0 (SToken.mk 3 0 w_0 0) (List.map (fun q : Int => UInt8.ofNat q.toNat) (x70 ++ [34]))).bind fun r217 => some r217))
def writer_text_j4 : Nat → SWriter → Str → Int → (List Int) → Option SWriter
  | 0, _, _, _, _ => none
  | k + 1, a0, a1, x75, x168 =>
    chk (decide ((0 : Int) ≤ x75)) ((a1[Int.toNat (x75)]?).bind fun c183 => chk (decide ((x168 ++ [(c183.toNat : Int)]).length * 1 ≤ 140737488355328)) ((writer_text_l3 k a0 a1 (x168 ++ [(c183.toNat : Int)]) (w64 (x75 + 1)))))
end
def writer_text (k : Nat) (a0 : SWriter) (a1 : Str) : Option SWriter :=
  (writer_text_l3 k a0 a1 [34] 0)

def writer_label (k : Nat) (a0 : SWriter) (a1 : Str) : Option SWriter :=
  (syntax_isWord k a1).bind fun r1 => (if r1 = true then (writer_words k a0 [a1]).bind fun r10 => some r10 else (writer_text k a0 a1).bind fun r20 => some r20)

def writer_path (k : Nat) (a0 : SWriter) (a1 : Str) (a2 : Str) : Option SWriter :=
  (writer_words k a0 [a1]).bind fun r5 => (if (a1 == w_attr) = true then (writer_sign k r5 wx2e).bind fun r14 => (writer_label k r14 a2).bind fun r24 => some r24 else some r5)

def strconv_Itoa (a0 : Int) : Option Str := chk (decide (-9223372036854775808 ≤ a0) && decide (a0 ≤ 9223372036854775807)) (some (itoaK a0))

def writer_number (k : Nat) (a0 : SWriter) (a1 : Int) : Option SWriter :=
  (if (decide (a1 < 0)) = true then (writer_sign k a0 wx2d).bind fun r1 => (strconv_Itoa (w64 (0 - a1))).bind fun r10 => (writer_put k (SWriter.mk r1.out (SToken.mk r1.last.kind r1.last.at_ r1.last.s_ r1.last.n_)) (SToken.mk 2 0 w_0 0) r10).bind fun r14 => some r14 else (strconv_Itoa a1).bind fun r25 => (writer_put k (SWriter.mk a0.out (SToken.mk a0.last.kind a0.last.at_ a0.last.s_ a0.last.n_)) (SToken.mk 2 0 w_0 0) r25).bind fun r29 => some r29)

def writer_value (k : Nat) (a0 : SWriter) (a1 : GValue) : Option SWriter :=
  (if (a1.Kind == 1) = true then (writer_text k a0 a1.Text).bind fun r2 => some r2 else (if (a1.Kind == 2) = true then (writer_number k a0 a1.Int).bind fun r11 => some r11 else chk (decide ((0 : Int) ≤ a1.Int)) ((([w_false, w_true] : List Str)[Int.toNat (a1.Int)]?).bind fun c21 => (writer_words k a0 [c21]).bind fun r27 => some r27)))

mutual
def writer_pred_j1 : Nat → SWriter → GPred → Bool → Option SWriter
  | 0, _, _, _ => none
  | k + 1, a0, a1, x18 =>
    (if x18 = true then (writer_pred_l2 k a1 a0.out a0.last.kind a0.last.at_ a0.last.s_ a0.last.n_ 0) else (if (a1.Op == 3) = true then (writer_words k a0 [w_not]).bind fun r226 => chk (decide ((0 : Int) ≤ 0)) ((a1.Args[Int.toNat (0)]?).bind fun x236 => (writer_argument k r226 x236).bind fun r248 => some r248) else (if (a1.Op == 4) = true then (writer_words k a0 [w_has]).bind fun r263 => (writer_label k r263 a1.Key).bind fun r272 => some r272 else (writer_path k a0 a1.Field a1.Key).bind fun r283 => (if (a1.Op == 5) = true then (writer_sign k r283 wx3d).bind fun r292 => (writer_value k r292 a1.Value).bind fun r302 => some r302 else (if (a1.Op == 6) = true then (writer_sign k r283 wx3c).bind fun r313 => (writer_value k r313 a1.Value).bind fun r323 => some r323 else (writer_words k r283 [w_prefix]).bind fun r338 => (writer_value k r338 a1.Value).bind fun r348 => some r348)))))
def writer_pred : Nat → SWriter → GPred → Option SWriter
  | 0, _, _ => none
  | k + 1, a0, a1 =>
    (if (a1.Op == 0) = true then (writer_words k a0 [w_true]).bind fun r8 => some r8 else (if (a1.Op == 1) = true then (writer_pred_j1 k a0 a1 (a1.Op == 1)) else (writer_pred_j1 k a0 a1 (a1.Op == 2))))
def writer_argument_j1 : Nat → SWriter → GPred → Bool → Option SWriter
  | 0, _, _, _ => none
  | k + 1, a0, a1, x5 =>
    (if x5 = true then (writer_pred k a0 a1).bind fun r11 => some r11 else (writer_sign k a0 wx28).bind fun r21 => (writer_pred k r21 a1).bind fun r31 => (writer_sign k r31 wx29).bind fun r40 => some r40)
def writer_argument : Nat → SWriter → GPred → Option SWriter
  | 0, _, _ => none
  | k + 1, a0, a1 =>
    (if (a1.Op != 1) = true then (writer_argument_j1 k a0 a1 (a1.Op != 2)) else (writer_argument_j1 k a0 a1 false))
def writer_pred_l2 : Nat → GPred → (List Int) → Int → Int → Str → Int → Int → Option SWriter
  | 0, _, _, _, _, _, _, _ => none
  | k + 1, a1, x86, x91, x92, x93, x94, x95 =>
    (if (decide (x95 < ((a1.Args).length : Int))) = true then chk (decide ((0 : Int) ≤ x95)) ((a1.Args[Int.toNat (x95)]?).bind fun x166 => (if (decide (x95 > 0)) = true then chk (decide ((0 : Int) ≤ a1.Op)) ((([w_0, w_and, w_or] : List Str)[Int.toNat (a1.Op)]?).bind fun c182 => (writer_words k (SWriter.mk x86 (SToken.mk x91 x92 x93 x94)) [c182]).bind fun r188 => (writer_argument k r188 x166).bind fun r199 => (writer_pred_l2 k a1 r199.out r199.last.kind r199.last.at_ r199.last.s_ r199.last.n_ (w64 (x95 + 1)))) else (writer_argument k (SWriter.mk x86 (SToken.mk x91 x92 x93 x94)) x166).bind fun r210 => (writer_pred_l2 k a1 r210.out r210.last.kind r210.last.at_ r210.last.s_ r210.last.n_ (w64 (x95 + 1))))) else some (SWriter.mk x86 (SToken.mk x91 x92 x93 x94)))
end

def writer_variable (k : Nat) (a0 : SWriter) (a1 : GVariable) : Option SWriter :=
  (writer_words k a0 [a1.Name]).bind fun r8 => (writer_sign k r8 wx7b).bind fun r17 => (writer_pred k r17 a1.Where).bind fun r28 => (writer_sign k r28 wx7d).bind fun r37 => some r37

def writer_query_c1 (k : Nat) (a0 : Int) (a2 : SWriter) (a3 : GQuery) : Option (SWriter × GQuery) :=
  chk (decide ((0 : Int) ≤ a0)) ((a3.Variables[Int.toNat (a0)]?).bind fun x35 => (writer_variable k a2 x35).bind fun r46 => some (r46, a3))

def writer_list_l1 : Nat → Int → (List Str) → (List Int) → Int → Int → Str → Int → (List GVariable) → (List GRelation) → (List GAbsence) → Int → Int → (List GColumn) → (List GAggregate) → (List GOrderKey) → Int → Int → Option (SWriter × GQuery)
  | 0, _, _, _, _, _, _, _, _, _, _, _, _, _, _, _, _, _ => none
  | k + 1, a1, a4, x112, x117, x118, x119, x120, x121, x123, x125, x127, x128, x129, x131, x133, x135, x136 =>
    (if (decide (x136 < a1)) = true then (if (x136 == 0) = true then (writer_words k (SWriter.mk x112 (SToken.mk x117 x118 x119 x120)) a4).bind fun r265 => (writer_query_c1 k x136 r265 (GQuery.mk x121 x123 x125 (GInterval.mk x127 x128) x129 x131 x133 x135)).bind fun r274 => (writer_list_l1 k a1 a4 r274.1.out r274.1.last.kind r274.1.last.at_ r274.1.last.s_ r274.1.last.n_ r274.2.Variables r274.2.Relations r274.2.Absences r274.2.Slots.From r274.2.Slots.To r274.2.Group r274.2.Compute r274.2.Order r274.2.Limit (w64 (x136 + 1))) else (writer_sign k (SWriter.mk x112 (SToken.mk x117 x118 x119 x120)) wx2c).bind fun r303 => (writer_query_c1 k x136 r303 (GQuery.mk x121 x123 x125 (GInterval.mk x127 x128) x129 x131 x133 x135)).bind fun r312 => (writer_list_l1 k a1 a4 r312.1.out r312.1.last.kind r312.1.last.at_ r312.1.last.s_ r312.1.last.n_ r312.2.Variables r312.2.Relations r312.2.Absences r312.2.Slots.From r312.2.Slots.To r312.2.Group r312.2.Compute r312.2.Order r312.2.Limit (w64 (x136 + 1)))) else some ((SWriter.mk x112 (SToken.mk x117 x118 x119 x120)), (GQuery.mk x121 x123 x125 (GInterval.mk x127 x128) x129 x131 x133 x135)))
def writer_list (k : Nat) (a0 : SWriter) (a1 : Int) (a3 : GQuery) (a4 : List Str) : Option (SWriter × GQuery) :=
  (writer_list_l1 k a1 a4 a0.out a0.last.kind a0.last.at_ a0.last.s_ a0.last.n_ a3.Variables a3.Relations a3.Absences a3.Slots.From a3.Slots.To a3.Group a3.Compute a3.Order a3.Limit 0)

def writer_absence (k : Nat) (a0 : SWriter) (a1 : GAbsence) : Option SWriter :=
  (if a1.First = true then (writer_words k a0 [w_not]).bind fun r101 => (writer_variable k r101 a1.Variable).bind fun r111 => chk (decide ((0 : Int) ≤ a1.Kind)) ((namesR[Int.toNat (a1.Kind)]?).bind fun x168 => (writer_words k r111 [x168, a1.Other]).bind fun r180 => some r180) else chk (decide ((0 : Int) ≤ a1.Kind)) ((namesR[Int.toNat (a1.Kind)]?).bind fun x234 => (writer_words k a0 [a1.Other, x234, w_not]).bind fun r246 => (writer_variable k r246 a1.Variable).bind fun r256 => some r256))

def writer_query_c2 (k : Nat) (a0 : Int) (a1 : GQuery) (a3 : SWriter) : Option (GQuery × SWriter) :=
  (if (decide (a0 ≥ ((a1.Relations).length : Int))) = true then chk (decide ((0 : Int) ≤ (w64 (a0 - ((a1.Relations).length : Int))))) ((a1.Absences[Int.toNat (w64 (a0 - ((a1.Relations).length : Int)))]?).bind fun x77 => (writer_absence k a3 x77).bind fun r88 => some (a1, r88)) else chk (decide ((0 : Int) ≤ a0)) ((a1.Relations[Int.toNat (a0)]?).bind fun x98 => chk (decide ((0 : Int) ≤ x98.Kind)) ((namesR[Int.toNat (x98.Kind)]?).bind fun x150 => (writer_words k a3 [x98.A, x150, x98.B]).bind fun r162 => some (a1, r162))))

def writer_list_i1_l1 : Nat → Int → (List Str) → (List Int) → Int → Int → Str → Int → (List GVariable) → (List GRelation) → (List GAbsence) → Int → Int → (List GColumn) → (List GAggregate) → (List GOrderKey) → Int → Int → Option (SWriter × GQuery)
  | 0, _, _, _, _, _, _, _, _, _, _, _, _, _, _, _, _, _ => none
  | k + 1, a1, a4, x112, x117, x118, x119, x120, x121, x123, x125, x127, x128, x129, x131, x133, x135, x136 =>
    (if (decide (x136 < a1)) = true then (if (x136 == 0) = true then (writer_words k (SWriter.mk x112 (SToken.mk x117 x118 x119 x120)) a4).bind fun r265 => (writer_query_c2 k x136 (GQuery.mk x121 x123 x125 (GInterval.mk x127 x128) x129 x131 x133 x135) r265).bind fun r274 => (writer_list_i1_l1 k a1 a4 r274.2.out r274.2.last.kind r274.2.last.at_ r274.2.last.s_ r274.2.last.n_ r274.1.Variables r274.1.Relations r274.1.Absences r274.1.Slots.From r274.1.Slots.To r274.1.Group r274.1.Compute r274.1.Order r274.1.Limit (w64 (x136 + 1))) else (writer_sign k (SWriter.mk x112 (SToken.mk x117 x118 x119 x120)) wx2c).bind fun r303 => (writer_query_c2 k x136 (GQuery.mk x121 x123 x125 (GInterval.mk x127 x128) x129 x131 x133 x135) r303).bind fun r312 => (writer_list_i1_l1 k a1 a4 r312.2.out r312.2.last.kind r312.2.last.at_ r312.2.last.s_ r312.2.last.n_ r312.1.Variables r312.1.Relations r312.1.Absences r312.1.Slots.From r312.1.Slots.To r312.1.Group r312.1.Compute r312.1.Order r312.1.Limit (w64 (x136 + 1)))) else some ((SWriter.mk x112 (SToken.mk x117 x118 x119 x120)), (GQuery.mk x121 x123 x125 (GInterval.mk x127 x128) x129 x131 x133 x135)))
def writer_list_i1 (k : Nat) (a0 : SWriter) (a1 : Int) (a2 : GQuery) (a4 : List Str) : Option (SWriter × GQuery) :=
  (writer_list_i1_l1 k a1 a4 a0.out a0.last.kind a0.last.at_ a0.last.s_ a0.last.n_ a2.Variables a2.Relations a2.Absences a2.Slots.From a2.Slots.To a2.Group a2.Compute a2.Order a2.Limit 0)

def writer_column (k : Nat) (a0 : SWriter) (a1 : GColumn) : Option SWriter :=
  (writer_words k a0 [a1.Var]).bind fun r6 => (writer_sign k r6 wx2e).bind fun r15 => (writer_path k r15 a1.Field a1.Key).bind fun r25 => some r25

def writer_query_c3 (k : Nat) (a0 : Int) (a2 : SWriter) (a3 : GQuery) : Option (SWriter × GQuery) :=
  chk (decide ((0 : Int) ≤ a0)) ((a3.Group[Int.toNat (a0)]?).bind fun x32 => (writer_column k a2 x32).bind fun r40 => some (r40, a3))

def writer_list_i2_l1 : Nat → Int → (List Str) → (List Int) → Int → Int → Str → Int → (List GVariable) → (List GRelation) → (List GAbsence) → Int → Int → (List GColumn) → (List GAggregate) → (List GOrderKey) → Int → Int → Option (SWriter × GQuery)
  | 0, _, _, _, _, _, _, _, _, _, _, _, _, _, _, _, _, _ => none
  | k + 1, a1, a4, x112, x117, x118, x119, x120, x121, x123, x125, x127, x128, x129, x131, x133, x135, x136 =>
    (if (decide (x136 < a1)) = true then (if (x136 == 0) = true then (writer_words k (SWriter.mk x112 (SToken.mk x117 x118 x119 x120)) a4).bind fun r265 => (writer_query_c3 k x136 r265 (GQuery.mk x121 x123 x125 (GInterval.mk x127 x128) x129 x131 x133 x135)).bind fun r274 => (writer_list_i2_l1 k a1 a4 r274.1.out r274.1.last.kind r274.1.last.at_ r274.1.last.s_ r274.1.last.n_ r274.2.Variables r274.2.Relations r274.2.Absences r274.2.Slots.From r274.2.Slots.To r274.2.Group r274.2.Compute r274.2.Order r274.2.Limit (w64 (x136 + 1))) else (writer_sign k (SWriter.mk x112 (SToken.mk x117 x118 x119 x120)) wx2c).bind fun r303 => (writer_query_c3 k x136 r303 (GQuery.mk x121 x123 x125 (GInterval.mk x127 x128) x129 x131 x133 x135)).bind fun r312 => (writer_list_i2_l1 k a1 a4 r312.1.out r312.1.last.kind r312.1.last.at_ r312.1.last.s_ r312.1.last.n_ r312.2.Variables r312.2.Relations r312.2.Absences r312.2.Slots.From r312.2.Slots.To r312.2.Group r312.2.Compute r312.2.Order r312.2.Limit (w64 (x136 + 1)))) else some ((SWriter.mk x112 (SToken.mk x117 x118 x119 x120)), (GQuery.mk x121 x123 x125 (GInterval.mk x127 x128) x129 x131 x133 x135)))
def writer_list_i2 (k : Nat) (a0 : SWriter) (a1 : Int) (a3 : GQuery) (a4 : List Str) : Option (SWriter × GQuery) :=
  (writer_list_i2_l1 k a1 a4 a0.out a0.last.kind a0.last.at_ a0.last.s_ a0.last.n_ a3.Variables a3.Relations a3.Absences a3.Slots.From a3.Slots.To a3.Group a3.Compute a3.Order a3.Limit 0)

def writer_aggregate (k : Nat) (a0 : SWriter) (a1 : GAggregate) : Option SWriter :=
  chk (decide ((0 : Int) ≤ a1.Kind)) ((namesA[Int.toNat (a1.Kind)]?).bind fun x8 => (writer_words k a0 [x8]).bind fun r20 => (if (decide (a1.Kind ≤ 3)) = true then some r20 else (writer_put k r20 (SToken.mk 4 0 wx2828 0) wx28).bind fun r30 => (if (a1.Kind == 7) = true then (writer_number k r30 a1.Q.Num).bind fun r40 => (writer_sign k r40 wx2f).bind fun r50 => (writer_number k r50 a1.Q.Den).bind fun r60 => (writer_sign k r60 wx2c).bind fun r70 => (writer_column k r70 a1.Column).bind fun r80 => (writer_sign k r80 wx29).bind fun r90 => some r90 else (writer_column k r30 a1.Column).bind fun r101 => (writer_sign k r101 wx29).bind fun r111 => some r111)))

def writer_query_c4 (k : Nat) (a0 : Int) (a2 : SWriter) (a3 : GQuery) : Option (SWriter × GQuery) :=
  chk (decide ((0 : Int) ≤ a0)) ((a3.Compute[Int.toNat (a0)]?).bind fun x32 => (writer_aggregate k a2 x32).bind fun r40 => some (r40, a3))

def writer_list_i3_l1 : Nat → Int → (List Str) → (List Int) → Int → Int → Str → Int → (List GVariable) → (List GRelation) → (List GAbsence) → Int → Int → (List GColumn) → (List GAggregate) → (List GOrderKey) → Int → Int → Option (SWriter × GQuery)
  | 0, _, _, _, _, _, _, _, _, _, _, _, _, _, _, _, _, _ => none
  | k + 1, a1, a4, x112, x117, x118, x119, x120, x121, x123, x125, x127, x128, x129, x131, x133, x135, x136 =>
    (if (decide (x136 < a1)) = true then (if (x136 == 0) = true then (writer_words k (SWriter.mk x112 (SToken.mk x117 x118 x119 x120)) a4).bind fun r265 => (writer_query_c4 k x136 r265 (GQuery.mk x121 x123 x125 (GInterval.mk x127 x128) x129 x131 x133 x135)).bind fun r274 => (writer_list_i3_l1 k a1 a4 r274.1.out r274.1.last.kind r274.1.last.at_ r274.1.last.s_ r274.1.last.n_ r274.2.Variables r274.2.Relations r274.2.Absences r274.2.Slots.From r274.2.Slots.To r274.2.Group r274.2.Compute r274.2.Order r274.2.Limit (w64 (x136 + 1))) else (writer_sign k (SWriter.mk x112 (SToken.mk x117 x118 x119 x120)) wx2c).bind fun r303 => (writer_query_c4 k x136 r303 (GQuery.mk x121 x123 x125 (GInterval.mk x127 x128) x129 x131 x133 x135)).bind fun r312 => (writer_list_i3_l1 k a1 a4 r312.1.out r312.1.last.kind r312.1.last.at_ r312.1.last.s_ r312.1.last.n_ r312.2.Variables r312.2.Relations r312.2.Absences r312.2.Slots.From r312.2.Slots.To r312.2.Group r312.2.Compute r312.2.Order r312.2.Limit (w64 (x136 + 1)))) else some ((SWriter.mk x112 (SToken.mk x117 x118 x119 x120)), (GQuery.mk x121 x123 x125 (GInterval.mk x127 x128) x129 x131 x133 x135)))
def writer_list_i3 (k : Nat) (a0 : SWriter) (a1 : Int) (a3 : GQuery) (a4 : List Str) : Option (SWriter × GQuery) :=
  (writer_list_i3_l1 k a1 a4 a0.out a0.last.kind a0.last.at_ a0.last.s_ a0.last.n_ a3.Variables a3.Relations a3.Absences a3.Slots.From a3.Slots.To a3.Group a3.Compute a3.Order a3.Limit 0)

def writer_query_c5 (k : Nat) (a0 : Int) (a2 : SWriter) (a3 : GQuery) : Option (SWriter × GQuery) :=
  chk (decide ((0 : Int) ≤ a0)) ((a3.Order[Int.toNat (a0)]?).bind fun x32 => (writer_number k a2 x32.Index).bind fun r40 => chk (decide ((0 : Int) ≤ a0)) ((a3.Order[Int.toNat (a0)]?).bind fun x50 => (if x50.Descending = true then (writer_words k r40 [w_desc]).bind fun r62 => some (r62, a3) else some (r40, a3))))

def writer_list_i4_l1 : Nat → Int → (List Str) → (List Int) → Int → Int → Str → Int → (List GVariable) → (List GRelation) → (List GAbsence) → Int → Int → (List GColumn) → (List GAggregate) → (List GOrderKey) → Int → Int → Option (SWriter × GQuery)
  | 0, _, _, _, _, _, _, _, _, _, _, _, _, _, _, _, _, _ => none
  | k + 1, a1, a4, x112, x117, x118, x119, x120, x121, x123, x125, x127, x128, x129, x131, x133, x135, x136 =>
    (if (decide (x136 < a1)) = true then (if (x136 == 0) = true then (writer_words k (SWriter.mk x112 (SToken.mk x117 x118 x119 x120)) a4).bind fun r265 => (writer_query_c5 k x136 r265 (GQuery.mk x121 x123 x125 (GInterval.mk x127 x128) x129 x131 x133 x135)).bind fun r274 => (writer_list_i4_l1 k a1 a4 r274.1.out r274.1.last.kind r274.1.last.at_ r274.1.last.s_ r274.1.last.n_ r274.2.Variables r274.2.Relations r274.2.Absences r274.2.Slots.From r274.2.Slots.To r274.2.Group r274.2.Compute r274.2.Order r274.2.Limit (w64 (x136 + 1))) else (writer_sign k (SWriter.mk x112 (SToken.mk x117 x118 x119 x120)) wx2c).bind fun r303 => (writer_query_c5 k x136 r303 (GQuery.mk x121 x123 x125 (GInterval.mk x127 x128) x129 x131 x133 x135)).bind fun r312 => (writer_list_i4_l1 k a1 a4 r312.1.out r312.1.last.kind r312.1.last.at_ r312.1.last.s_ r312.1.last.n_ r312.2.Variables r312.2.Relations r312.2.Absences r312.2.Slots.From r312.2.Slots.To r312.2.Group r312.2.Compute r312.2.Order r312.2.Limit (w64 (x136 + 1)))) else some ((SWriter.mk x112 (SToken.mk x117 x118 x119 x120)), (GQuery.mk x121 x123 x125 (GInterval.mk x127 x128) x129 x131 x133 x135)))
def writer_list_i4 (k : Nat) (a0 : SWriter) (a1 : Int) (a3 : GQuery) (a4 : List Str) : Option (SWriter × GQuery) :=
  (writer_list_i4_l1 k a1 a4 a0.out a0.last.kind a0.last.at_ a0.last.s_ a0.last.n_ a3.Variables a3.Relations a3.Absences a3.Slots.From a3.Slots.To a3.Group a3.Compute a3.Order a3.Limit 0)

def writer_query_j1 (k : Nat) (r50 : SWriter × GQuery) (x122 : List Int) (x127 : Int) (x128 : Int) (x129 : Str) (x130 : Int) : Option SWriter :=
  (writer_list_i2 k (SWriter.mk x122 (SToken.mk x127 x128 x129 x130)) ((r50.2.Group).length : Int) r50.2 [w_group, w_by]).bind fun r140 => (writer_list_i3 k r140.1 ((r140.2.Compute).length : Int) r140.2 [w_compute]).bind fun r172 => (writer_list_i4 k r172.1 ((r172.2.Order).length : Int) r172.2 [w_order, w_by]).bind fun r204 => (if (r204.2.Limit != 0) = true then (writer_words k r204.1 [w_limit]).bind fun r236 => (writer_number k r236 r204.2.Limit).bind fun r246 => some r246 else some r204.1)
def writer_query (k : Nat) (a0 : SWriter) (a1 : GQuery) : Option SWriter :=
  (writer_list k a0 ((a1.Variables).length : Int) a1 [w_find]).bind fun r19 => (writer_list_i1 k r19.1 (w64 (((r19.2.Relations).length : Int) + ((r19.2.Absences).length : Int))) r19.2 [w_where]).bind fun r50 => (if (!((r50.2.Slots.From == 0) && ((r50.2.Slots.To == 0) && true))) = true then (writer_words k r50.1 [w_slots]).bind fun r262 => (writer_number k r262 r50.2.Slots.From).bind fun r272 => (writer_sign k r272 wx2e2e).bind fun r282 => (writer_number k r282 r50.2.Slots.To).bind fun r292 => (writer_query_j1 k r50 r292.out r292.last.kind r292.last.at_ r292.last.s_ r292.last.n_) else (writer_query_j1 k r50 r50.1.out r50.1.last.kind r50.1.last.at_ r50.1.last.s_ r50.1.last.n_))

def syntax_Check (k : Nat) (a0 : GQuery) : Option Int :=
  (syntax_checkPattern k a0).bind fun r18 => (if (r18 != 0) = true then some r18 else (syntax_checkResults k a0).bind fun r26 => (if (r26 != 0) = true then some r26 else (writer_query k (SWriter.mk [] (SToken.mk 0 0 w_0 0)) a0).bind fun r35 => (if (decide (((r35.out).length : Int) > 4096)) = true then some 5 else some 0)))

def syntax_Parse (k : Nat) (a0 : Str) : Option (GQuery × Int × Int) :=
  (syntax_parse k a0 (GQuery.mk [] [] [] (GInterval.mk 0 0) [] [] [] 0)).bind fun r37 => (if (r37.2.e_ != 0) = true then some ((GQuery.mk [] [] [] (GInterval.mk 0 0) [] [] [] 0), r37.2.at_, r37.2.e_) else (syntax_Check k r37.1).bind fun r60 => (if (r60 != 0) = true then some ((GQuery.mk [] [] [] (GInterval.mk 0 0) [] [] [] 0), 0, r60) else some (r37.1, 0, 0)))

def syntax_Print (k : Nat) (a0 : GQuery) : Option (Str × Int) :=
  (syntax_Check k a0).bind fun r14 => (if (r14 != 0) = true then some (w_0, r14) else (writer_query k (SWriter.mk [] (SToken.mk 0 0 w_0 0)) a0).bind fun r21 => some ((List.map (fun q : Int => UInt8.ofNat q.toNat) r21.out), 0))

def syntax_ParsePred_c1 (k : Nat) (a0 : SParser) (a1 : GPred) : Option (Except Pan (SParser × GPred)) :=
  xbind (parser_predicate k a0) fun r1 => some (.ok (r1.1, r1.2))

def syntax_parse_i1 (k : Nat) (a0 : Str) (a1 : GPred) : Option (GPred × SFailure) :=
  (if (decide (((a0).length : Int) > 4096)) = true then some (a1, (SFailure.mk 0 5)) else xcatch (parser_advance k (SParser.mk (SLexer.mk a0 0) (SToken.mk 0 0 w_0 0))) (fun p10 => some (a1, (SFailure.mk p10.1 p10.2))) (fun r6 => xcatch (syntax_ParsePred_c1 k r6 a1) (fun p19 => some (a1, (SFailure.mk p19.1 p19.2))) (fun r15 => (if (r15.1.t_.kind != 0) = true then xcatch (parser_wrong r15.1) (fun p32 => some (r15.2, (SFailure.mk p32.1 p32.2))) (fun _ => none) else some (r15.2, (SFailure.mk 0 0))))))

def syntax_ParsePred (k : Nat) (a0 : Str) : Option (GPred × Int × Int) :=
  (syntax_parse_i1 k a0 (GPred.mk 0 w_0 w_0 (GValue.mk 0 w_0 0) [])).bind fun r12 => (if (r12.2.e_ != 0) = true then some ((GPred.mk 0 w_0 w_0 (GValue.mk 0 w_0 0) []), r12.2.at_, r12.2.e_) else (syntax_CheckPred k r12.1).bind fun r20 => (if (r20 != 0) = true then some ((GPred.mk 0 w_0 w_0 (GValue.mk 0 w_0 0) []), 0, r20) else some (r12.1, 0, 0)))

def syntax_PrintPred (k : Nat) (a0 : GPred) : Option (Str × Int) :=
  (syntax_CheckPred k a0).bind fun r4 => (if (r4 != 0) = true then some (w_0, r4) else (writer_pred k (SWriter.mk [] (SToken.mk 0 0 w_0 0)) a0).bind fun r11 => some ((List.map (fun q : Int => UInt8.ofNat q.toNat) r11.out), 0))

def l36_known (k : Nat) : Option Bool :=
  (syntax_Parse k wt31).bind fun r1 => (syntax_Print k r1.1).bind fun r36 => (syntax_ParsePred k wt46).bind fun r40 => (syntax_Parse k wx66696e642066696e64).bind fun r50 => (syntax_PrintPred k r40.1).bind fun r86 => (if (r1.2.2 == 0) = true then (if (r1.2.1 == 0) = true then (if (r36.2 == 0) = true then (if (r36.1 == wt48) = true then (if (r40.2.2 == 0) = true then (if (r86.2 == 0) = true then (if (r86.1 == wt49) = true then (if (r50.2.1 == 5) = true then some (r50.2.2 == 14) else some false) else some false) else some false) else some false) else some false) else some false) else some false) else some false)

end Go.Proofs.YtfnaahkgegfbnaaGreatDoor
