/- Short words for compiled code. -/
import Derived.Test.YtmjaimpkjjkliaaGreatAmM1
namespace Go.Am
abbrev iu (d : Nat) (o : AOp) : Opr := ⟨some d, none, o⟩
abbrev iz (o : AOp) : Opr := ⟨none, none, o⟩
abbrev ig (d t : Nat) (b : Bool) (o : AOp) : Opr := ⟨some d, some (t, b), o⟩
abbrev im (d t : Nat) : Opr := ⟨some d, none, .mv (.t t)⟩
abbrev kn (n : Int) : X := .c (.int .i64 n)
abbrev il (d t : Nat) : Opr := ⟨some d, none, .load none (.t t)⟩
abbrev ifa (d n t : Nat) : Opr := ⟨some d, none, .faddr n (.t t)⟩
abbrev iia (d n a b : Nat) : Opr := ⟨some d, none, .iaddr n (.t a) (.t b)⟩
abbrev ib (d : Nat) (o : BinOp) (a b : Nat) : Opr := ⟨some d, none, .bin o (.t a) (.t b)⟩
abbrev ik (d : Nat) (o : BinOp) (a : Nat) (n : Int) : Opr := ⟨some d, none, .bin o (.t a) (kn n)⟩
end Go.Am
