import Derived.Test.YtkemmffdiclloaaGreatDoorRf
set_option linter.unusedVariables false
set_option linter.unusedSimpArgs false
/- The closed run's functions, first part (printed by kern2.py). -/
namespace Go.RE
noncomputable section
open Go.RowKit
def s (d : Nat) (o : SOp) : AOper := .mk (some d) none (.s o)
def f (d : Nat) (o : FOp) : AOper := .mk (some d) none (.f o)
def e (d : Nat) (o : EOp) : AOper := .mk (some d) none (.e o)
def en (o : EOp) : AOper := .mk none none (.e o)
def c (d : Nat) (o : AOp) : AOper := .mk (some d) none o
def cn (o : AOp) : AOper := .mk none none o
def sg (d g : Nat) (w : Bool) (o : SOp) : AOper := .mk (some d) (some (g, w)) (.s o)
def fg (d g : Nat) (w : Bool) (o : FOp) : AOper := .mk (some d) (some (g, w)) (.f o)
def eg (d g : Nat) (w : Bool) (o : EOp) : AOper := .mk (some d) (some (g, w)) (.e o)
def egn (g : Nat) (w : Bool) (o : EOp) : AOper := .mk none (some (g, w)) (.e o)
def cg (d g : Nat) (w : Bool) (o : AOp) : AOper := .mk (some d) (some (g, w)) o
def cgn (g : Nat) (w : Bool) (o : AOp) : AOper := .mk none (some (g, w)) o
instance (n : Nat) : OfNat AX n := ⟨.t n⟩
def m (d x : Nat) : AOper := .mk (some d) none (.s (.mv (.t x)))
def i (n : Nat) : AV := .i .i64 (Int.ofNat n)
def k (n : Nat) : AX := .c (.i .i64 (Int.ofNat n))
def st (n : Nat) (x v : AX) : AOper := .mk none none (.e (.st n x v))
def af7 : AFn := .code 28 (.seq (.reg [f 6 (.alloc [(i 0),(i 0),(i 0)]),s 7 (.mv (k 0))])
 (.seq (.seq (.reg [m 10 0,m 11 1,c 12 (.call 26 [10,11]),s 13 (.un .not 12)])
 (.cond 13 (.seq (.reg [s 14 (.build [(i 0),(i 0),(i 0)] []),st 3 6 14,s 7 (.mv (k 4))])
 .ret) .skip))
 (.seq (.reg [m 16 0,m 17 1,m 18 2,c 19 (.call 10 [16,17,18]),m 15 19,s 20 (.ext 15 0),s 21 (.ext 15 1),f 8 (.alloc [(i 0),(i 0)]),st 2 8 20,m 9 21])
 (.seq (.seq (.reg [m 22 9,s 23 (.un .not 22)])
 (.cond 23 (.seq (.reg [s 24 (.build [(i 0),(i 0),(i 0)] []),st 3 6 24,s 7 (.mv (k 1))])
 .ret) .skip))
 (.seq (.reg [m 25 2,s 26 (.ldn 2 8),s 27 (.build [(i 0),(i 0),(i 0)] [(0,1,25),(1,2,26)]),st 3 6 27,s 7 (.mv (k 0))])
 .ret))))) [.cn 6 3,.t 7]
def af8 : AFn := .code 61 (.seq (.reg [f 1 (.box 0),s 2 (.mv (.c (.i .u64 0))),s 3 (.mv (k 0))])
 (.seq (.reg [s 11 (.ldn 3 1),c 12 (.call 27 [11]),m 10 12,s 13 (.ext 10 0),s 14 (.ext 10 1),s 15 (.ext 10 2),f 4 (.alloc [(i 0),(i 0)]),f 5 (.alloc [(i 0),(i 0),(i 0),(i 0),(i 0),(i 0),(i 0),(i 0),(i 0),(i 0),(i 0),(i 0),(i 0)]),st 2 4 13,st 13 5 14,m 6 15])
 (.seq (.seq (.reg [m 16 6,s 17 (.un .not 16)])
 (.cond 17 (.seq (.reg [s 2 (.mv (.c (.i .u64 0))),s 3 (.mv (k 2))])
 .ret) .skip))
 (.seq (.reg [s 18 (.fa 0 1),s 19 (.ld1 18),s 20 (.cvi .u64 19),s 21 (.bin .shl 20 (.c (.i .u64 56))),s 22 (.bin .or (.c (.i .u64 1152921504606846976)) 21),s 23 (.fa 0 4),s 24 (.ld1 23),s 25 (.bin .add 24 (k 512)),s 26 (.cvi .u64 25),s 27 (.bin .shl 26 (.c (.i .u64 46))),s 28 (.bin .or 22 27),s 29 (.fa 1 4),s 30 (.ld1 29),s 31 (.bin .add 30 (k 512)),s 32 (.cvi .u64 31),s 33 (.bin .shl 32 (.c (.i .u64 36))),s 34 (.bin .or 28 33),s 35 (.build [(.i .u64 0)] [(0,1,34)]),f 36 (.box 35),m 7 36])
 (.seq (.reg [m 37 7,s 38 (.mkfn (.func 28) [37] []),m 8 38])
 (.seq (.seq (.reg [s 9 (.mv (k 1))])
 (.block 0 (.loop (.seq (.seq (.reg [m 39 9,s 40 (.bin .leq 39 (k 12))])
 (.cond 40 .skip (.exit 0)))
 (.seq (.block 1 (.seq (.reg [m 43 9,s 44 (.fa 0 1),s 45 (.ld1 44),s 46 (.bin .gtr 43 45)])
 (.cond 46 (.reg [m 47 8,m 48 9,c 49 (.dyn 47 [48,(.c (.i .u64 7))])]) (.reg [m 50 8,m 51 9,m 52 9,s 53 (.iaa 13 1 5 52),s 54 (.ld1 53),s 55 (.cvi .u64 54),c 56 (.dyn 50 [51,55])]))))
 (.reg [m 41 9,s 42 (.bin .add 41 (k 1)),m 9 42]))))))
 (.seq (.reg [m 57 7,s 58 (.nilc 57),s 59 (.fa 0 58),s 60 (.ld1 59),m 2 60,s 3 (.mv (k 0))])
 .ret))))))) [.t 2,.t 3]
def af9 : AFn := .code 72 (.seq (.reg [f 2 (.alloc [(i 0),(i 0),(i 0)]),s 3 (.mv (k 0))])
 (.seq (.reg [m 10 0,s 11 (.bin .shr 10 (.c (.i .u64 56))),s 12 (.bin .and 11 (.c (.i .u64 15))),s 13 (.cvi .i64 12),m 4 13])
 (.seq (.seq (.reg [m 14 0,s 15 (.bin .shr 14 (.c (.i .u64 60))),s 16 (.bin .neq 15 (.c (.i .u64 1))),m 17 16,sg 18 17 false (.mv 4),sg 19 17 false (.bin .gtr 18 (k 12)),s 20 (.pick 17 (.c (.b true)) 19)])
 (.cond 20 (.seq (.reg [s 21 (.build [(i 0),(i 0),(i 0)] []),st 3 2 21,s 3 (.mv (k 5))])
 .ret) .skip))
 (.seq (.reg [m 22 0,s 23 (.bin .shr 22 (.c (.i .u64 46))),s 24 (.bin .and 23 (.c (.i .u64 1023))),s 25 (.cvi .i64 24),s 26 (.bin .sub 25 (k 512)),m 27 0,s 28 (.bin .shr 27 (.c (.i .u64 36))),s 29 (.bin .and 28 (.c (.i .u64 1023))),s 30 (.cvi .i64 29),s 31 (.bin .sub 30 (k 512)),s 32 (.build [(i 0),(i 0)] [(0,1,26),(1,1,31)]),s 33 (.build [(i 0),(i 0),(i 0)] [(1,2,32)]),f 5 (.alloc [(i 0),(i 0),(i 0)]),st 3 5 33])
 (.seq (.seq (.reg [s 6 (.mv (k 1))])
 (.block 0 (.loop (.seq (.seq (.reg [m 34 6,s 35 (.bin .leq 34 (k 12))])
 (.cond 35 .skip (.exit 0)))
 (.seq (.block 1 (.seq (.reg [m 38 0,m 39 6,c 40 (.call 29 [38,39]),m 7 40])
 (.seq (.seq (.reg [m 41 7,s 42 (.bin .eql 41 (.c (.i .u64 7))),m 43 6,m 44 4,s 45 (.bin .gtr 43 44),s 46 (.eqb true 42 45)])
 (.cond 46 (.seq (.reg [s 47 (.build [(i 0),(i 0),(i 0)] []),st 3 2 47,s 3 (.mv (k 5))])
 .ret) .skip))
 (.seq (.seq (.reg [m 48 7,s 49 (.bin .eql 48 (.c (.i .u64 7)))])
 (.cond 49 (.exit 1) .skip))
 (.seq (.reg [s 51 (.fa 1 5),s 52 (.ldn 2 51),s 53 (.build [(i 0),(i 0)] [(0,1,(k 2)),(1,1,(k 1))]),c 54 (.call 30 [52,53]),m 50 54,s 55 (.ext 50 0),s 56 (.ext 50 1),f 8 (.alloc [(i 0),(i 0)]),st 2 8 55,m 9 56])
 (.seq (.seq (.reg [m 57 7,s 58 (.bin .gtr 57 (.c (.i .u64 0)))])
 (.cond 58 (.dreg 0 [.st 0 (s 60 (.ldn 2 8)),
  .st 1 (m 61 7),
  .st 2 (s 62 (.cvi .i64 61)),
  .st 3 (s 63 (.bin .sub 62 (k 1))),
  .ef 4 (c 64 (.call 32 [63])) [] [s 60 (.ldn 2 8)],
  .ef 5 (c 65 (.call 31 [60,64])) [] [],
  .st 6 (m 59 65),
  .st 7 (s 66 (.ext 59 0)),
  .st 8 (s 67 (.ext 59 1)),
  .ef 9 (st 2 8 66) [] []]) .skip))
 (.reg [m 68 6,s 69 (.ldn 2 8),s 70 (.build [(i 0),(i 0),(i 0)] [(0,1,68),(1,2,69)]),st 3 5 70])))))))
 (.reg [m 36 6,s 37 (.bin .add 36 (k 1)),m 6 37]))))))
 (.seq (.reg [s 71 (.ldn 3 5),st 3 2 71,s 3 (.mv (k 0))])
 .ret)))))) [.cn 2 3,.t 3]
def af10 : AFn := .code 61 (.seq (.reg [f 6 (.alloc [(i 0),(i 0)]),s 7 (.mv (.c (.b false)))])
 (.seq (.reg [m 19 0,m 20 1,c 21 (.call 33 [19,20]),m 18 21,s 22 (.ext 18 0),s 23 (.ext 18 1),f 8 (.alloc [(i 0),(i 0)]),st 2 8 22,m 9 23])
 (.seq (.seq (.reg [m 24 9,s 25 (.un .not 24),m 26 25,sg 27 26 false (.mv 2),cg 28 26 false (.call 34 [27]),sg 29 26 false (.un .not 28),s 30 (.pick 26 (.c (.b true)) 29)])
 (.cond 30 (.seq (.reg [s 31 (.build [(i 0),(i 0)] []),st 2 6 31,s 7 (.mv (.c (.b false)))])
 .ret) .skip))
 (.seq (.reg [m 33 2,s 34 (.bin .sub (k 12) 33),c 35 (.call 35 [34]),m 32 35,s 36 (.ext 32 0),s 37 (.ext 32 1),f 10 (.alloc [(i 0),(i 0)]),st 2 10 36,m 11 37])
 (.seq (.reg [s 39 (.ldn 2 10),c 40 (.call 36 [39]),m 38 40,s 41 (.ext 38 0),s 42 (.ext 38 1),f 12 (.alloc [(i 0),(i 0)]),st 2 12 41,m 13 42])
 (.seq (.reg [m 44 2,s 45 (.bin .sub (k 12) 44),c 46 (.call 37 [(k 7),45]),m 43 46,s 47 (.ext 43 0),s 48 (.ext 43 1),m 14 47,m 15 48])
 (.seq (.reg [s 50 (.ldn 2 8),s 51 (.ldn 2 12),c 52 (.call 30 [50,51]),m 49 52,s 53 (.ext 49 0),s 54 (.ext 49 1),f 16 (.alloc [(i 0),(i 0)]),st 2 16 53,m 17 54])
 (.seq (.reg [s 55 (.ldn 2 16),m 56 14,s 57 (.bin .mul (k 2340) 56),c 58 (.call 38 [55,57]),s 59 (.ext 58 0),s 60 (.ext 58 1),st 2 6 59,m 7 60])
 .ret)))))))) [.cn 6 2,.t 7]
def af13 : AFn := .code 35 (.seq (.reg [f 3 (.box 0),f 4 (.box 1),f 5 (.box 2),s 6 (.mv (.c (.b false)))])
 (.seq (.reg [s 12 (.ldn 2 4),s 13 (.ldn 2 5),c 14 (.call 40 [12,13]),m 11 14,s 15 (.ext 11 0),s 16 (.ext 11 1),f 7 (.alloc [(i 0),(i 0),(i 0),(i 0)]),st 4 7 15,m 8 16])
 (.seq (.seq (.reg [m 17 8,s 18 (.un .not 17),m 19 18,sg 20 19 false (.ldn 3 3),cg 21 19 false (.call 46 [20]),sg 22 19 false (.un .not 21),s 23 (.pick 19 (.c (.b true)) 22)])
 (.cond 23 (.seq (.reg [s 6 (.mv (.c (.b false)))])
 .ret) .skip))
 (.seq (.reg [s 25 (.fa 1 3),s 26 (.ldn 2 25),s 27 (.fa 0 3),s 28 (.ld1 27),c 29 (.call 47 [26,28]),m 24 29,s 30 (.ext 24 0),s 31 (.ext 24 1),m 9 30,m 10 31])
 (.seq (.reg [s 32 (.ldn 4 7),m 33 9,c 34 (.call 41 [32,33]),m 6 34])
 .ret))))) [.t 6]
def af14 : AFn := .code 55 (.seq (.reg [s 0 (.mv (.c (.b false)))])
 (.seq (.reg [c 7 (.call 23 [(k 500),(k 600),(k 2)]),m 6 7,s 8 (.ext 6 0),s 9 (.ext 6 1),m 1 8,m 2 9])
 (.seq (.seq (.reg [m 10 1,s 11 (.nilp false 10 (.c .pn)),m 12 11,sg 13 12 false (.mv 2),sg 14 12 false (.bin .neq 13 (k 0)),s 15 (.pick 12 (.c (.b true)) 14)])
 (.cond 15 (.seq (.reg [s 0 (.mv (.c (.b false)))])
 .ret) .skip))
 (.seq (.reg [s 16 (.build [(i 0),(i 0),(i 0),(i 0)] [(0,1,(k 3)),(1,1,(k 700)),(2,1,(k 800)),(3,1,(k 9))]),f 17 (.bsl 4 1 [(i 0),(i 0),(i 0),(i 0)] [(0,4,16)]),m 3 17])
 (.seq (.reg [m 18 1,m 19 3,s 20 (.ia 4 19 (k 0)),s 21 (.ldn 4 20),s 22 (.build [(i 0),(i 0),(i 0),(i 0),(i 0)] [(0,1,(k 1)),(1,4,21)]),f 23 (.bsl 5 1 [(i 0),(i 0),(i 0),(i 0),(i 0)] [(0,5,22)]),c 24 (.call 18 [23]),s 25 (.bin .add (.c (.s [47,108,111,97,100,10])) 24),e 26 (.s2b 25),c 27 (.call 24 [18,26]),m 4 27])
 (.seq (.reg [m 28 1,f 29 (.bsl 1 21 [(.i .u8 0),(.i .u8 0),(.i .u8 0),(.i .u8 0),(.i .u8 0),(.i .u8 0),(.i .u8 0),(.i .u8 0),(.i .u8 0),(.i .u8 0),(.i .u8 0),(.i .u8 0),(.i .u8 0),(.i .u8 0),(.i .u8 0),(.i .u8 0),(.i .u8 0),(.i .u8 0),(.i .u8 0),(.i .u8 0),(.i .u8 0)] [(0,1,(.c (.i .u8 47))),(1,1,(.c (.i .u8 116))),(2,1,(.c (.i .u8 105))),(3,1,(.c (.i .u8 108))),(4,1,(.c (.i .u8 101))),(5,1,(.c (.i .u8 63))),(6,1,(.c (.i .u8 122))),(7,1,(.c (.i .u8 61))),(8,1,(.c (.i .u8 48))),(9,1,(.c (.i .u8 38))),(10,1,(.c (.i .u8 120))),(11,1,(.c (.i .u8 61))),(12,1,(.c (.i .u8 48))),(13,1,(.c (.i .u8 38))),(14,1,(.c (.i .u8 121))),(15,1,(.c (.i .u8 61))),(16,1,(.c (.i .u8 48))),(17,1,(.c (.i .u8 38))),(18,1,(.c (.i .u8 114))),(19,1,(.c (.i .u8 61))),(20,1,(.c (.i .u8 48)))]),e 30 (.cvss 29),c 31 (.call 24 [28,30]),m 5 31])
 (.seq (.dreg 0 [.st 0 (m 32 4),
  .st 1 (s 33 (.len 32)),
  .st 2 (s 34 (.bin .eql 33 (k 5))),
  .st 3 (m 35 34),
  .st 4 (sg 36 35 true (.mv 4)),
  .st 5 (sg 37 35 true (.ia 1 36 (k 0))),
  .st 6 (sg 38 35 true (.ld1 37)),
  .st 7 (sg 39 35 true (.bin .eql 38 (.c (.i .u8 0)))),
  .st 8 (s 40 (.pick 35 39 (.c (.b false)))),
  .st 9 (m 41 40),
  .st 10 (sg 42 41 true (.mv 5)),
  .st 11 (sg 43 41 true (.len 42)),
  .st 12 (sg 44 41 true (.bin .gtr 43 (k 5))),
  .st 13 (s 45 (.pick 41 44 (.c (.b false)))),
  .st 14 (m 46 45),
  .st 15 (sg 47 46 true (.mv 5)),
  .st 16 (sg 48 46 true (.slc 1 47 (some (k 5)) none none)),
  .st 17 (sg 49 46 true (.cvb 48)),
  .st 18 (sg 50 46 true (.build [(i 0),(i 0),(i 0),(i 0)] [])),
  .st 19 (sg 51 46 true (.mv 3)),
  .ef 20 (cg 52 46 true (.call 48 [50,51])) [] [sg 49 46 true (.cvb 48)],
  .st 21 (sg 53 46 true (.bin .eql 49 52)),
  .st 22 (s 54 (.pick 46 53 (.c (.b false)))),
  .st 23 (m 0 54)])
 .ret))))))) [.t 0]
def af15 : AFn := .code 25 (.seq (.reg [s 8 (.mv (.c .pn)),s 9 (.mv (k 0))])
 (.seq (.reg [m 13 0,m 14 1,m 15 2,c 16 (.call 49 [13,14,15]),m 12 16,s 17 (.ext 12 0),s 18 (.ext 12 1),m 10 17,m 11 18])
 (.seq (.seq (.reg [m 19 11,s 20 (.bin .neq 19 (k 0))])
 (.cond 20 (.seq (.reg [m 21 11,s 8 (.mv (.c .pn)),m 9 21])
 .ret) .skip))
 (.seq (.reg [m 22 10,m 23 3,c 24 (.call 50 [22,23]),m 8 24,s 9 (.mv (k 0))])
 .ret)))) [.t 8,.t 9]
def af16 : AFn := .code 12 (.seq (.reg [s 2 (.mv (.c .pn))])
 (.seq (.reg [m 3 0,s 4 (.mx 3 (k 0)),s 5 (.mn 4 (k 1000000)),m 0 5])
 (.seq (.dreg 3 [.st 0 (m 6 0),
  .st 2 (m 8 0),
  .fl 1 (f 7 (.mks 1 (.i .u8 0) 6)) 0,
  .fl 3 (f 9 (.mks 1 (.i .u8 0) 8)) 1,
  .st 4 (s 10 (.build [.sn,.sn,.sn,(.b false),(i 0)] [(0,1,7),(1,1,9)])),
  .fl 5 (f 11 (.box 10)) 2,
  .st 6 (m 2 11)])
 .ret))) [.t 2]
def af18 : AFn := .code 38 (.seq (.reg [s 2 (.mv (.c (.s [])))])
 (.seq (.reg [s 3 (.mv (.c (.s [])))])
 (.seq (.seq (.reg [s 4 (.mv (k 0))])
 (.block 0 (.loop (.seq (.seq (.reg [m 5 4,m 6 0,s 7 (.len 6),s 8 (.bin .lss 5 7)])
 (.cond 8 .skip (.exit 0)))
 (.seq (.block 1 (.seq (.reg [m 11 0,m 12 4,s 13 (.ia 5 11 12),s 14 (.fa 0 13),s 15 (.ld1 14),s 16 (.bin .eql 15 (k 1))])
 (.cond 16 (.reg [m 17 3,s 18 (.bin .add 17 (.c (.s [1]))),m 19 0,m 20 4,s 21 (.ia 5 19 20),s 22 (.fa 1 21),s 23 (.ldn 4 22),c 24 (.call 51 [23]),s 25 (.bin .add 18 24),m 3 25]) (.reg [m 26 3,s 27 (.bin .add 26 (.c (.s [2]))),m 28 0,m 29 4,s 30 (.ia 5 28 29),s 31 (.fa 1 30),s 32 (.fa 0 31),s 33 (.ld1 32),s 34 (.cvi .u64 33),c 35 (.call 52 [34,(k 4)]),s 36 (.bin .add 27 35),m 3 36]))))
 (.reg [m 9 4,s 10 (.bin .add 9 (k 1)),m 4 10]))))))
 (.seq (.reg [m 37 3,m 2 37])
 .ret)))) [.t 2]
def af21 : AFn := .code 26 (.seq (.reg [s 6 (.mv (.c (.i .u64 0)))])
 (.seq (.reg [m 12 0,m 13 1,m 14 2,c 15 (.call 53 [12,13,14]),m 11 15,s 16 (.ext 11 0),s 17 (.ext 11 1),f 7 (.alloc [(i 0),(i 0)]),st 2 7 16,m 8 17])
 (.seq (.reg [m 19 2,s 20 (.ldn 2 7),s 21 (.build [(i 0),(i 0),(i 0)] [(0,1,19),(1,2,20)]),c 22 (.call 54 [21]),m 18 22,s 23 (.ext 18 0),s 24 (.ext 18 1),m 9 23,m 10 24])
 (.seq (.reg [m 25 9,m 6 25])
 .ret)))) [.t 6]
def af22 : AFn := .code 22 (.seq (.reg [s 4 (.mv (.c .sn))])
 (.seq (.reg [m 8 1,c 9 (.call 55 [8]),m 7 9,s 10 (.ext 7 0),s 11 (.ext 7 1),f 5 (.alloc [(i 0),.sn,.sn,.sn,.sn]),st 5 5 10,m 6 11])
 (.seq (.seq (.reg [m 12 6,s 13 (.bin .neq 12 (k 0))])
 (.cond 13 (.seq (.reg [m 14 6,c 15 (.call 56 [14,(.c .sn)]),m 4 15])
 .ret) .skip))
 (.seq (.reg [m 16 0,s 17 (.ldn 5 5),c 18 (.call 57 [16,17]),s 19 (.ext 18 0),s 20 (.ext 18 1),c 21 (.call 56 [19,20]),m 4 21])
 .ret)))) [.t 4]
def af23 : AFn := .code 40 (.seq (.reg [s 6 (.mv (.c .pn)),s 7 (.mv (k 0))])
 (.seq (.seq (.reg [m 10 0,s 11 (.bin .lss 10 (k 0)),m 12 11,sg 13 12 false (.mv 0),sg 14 12 false (.bin .gtr 13 (k 300000)),s 15 (.pick 12 (.c (.b true)) 14),m 16 15,sg 17 16 false (.mv 1),sg 18 16 false (.bin .lss 17 (k 0)),s 19 (.pick 16 (.c (.b true)) 18),m 20 19,sg 21 20 false (.mv 1),sg 22 20 false (.bin .gtr 21 (k 300000)),s 23 (.pick 20 (.c (.b true)) 22)])
 (.cond 23 (.seq (.reg [s 6 (.mv (.c .pn)),s 7 (.mv (k 1))])
 .ret) .skip))
 (.seq (.reg [m 24 0,s 25 (.bin .mul (k 2) 24),m 26 1,s 27 (.bin .add 25 26),c 28 (.call 16 [27]),m 29 0,m 30 1,m 31 2,s 32 (.build [.pn,.pn,(i 0),(i 0),(i 0)] [(0,1,28),(2,1,29),(3,1,30),(4,1,31)]),f 33 (.box 32),m 8 33])
 (.seq (.seq (.reg [m 34 8,c 35 (.call 58 [34]),m 9 35])
 (.seq (.reg [m 36 9,s 37 (.bin .neq 36 (k 0))])
 (.cond 37 (.seq (.reg [m 38 9,s 6 (.mv (.c .pn)),m 7 38])
 .ret) .skip)))
 (.seq (.reg [m 39 8,m 6 39,s 7 (.mv (k 0))])
 .ret))))) [.t 6,.t 7]
def af24 : AFn := .code 11 (.seq (.reg [s 4 (.mv (.c .sn))])
 (.seq (.reg [m 5 0,s 6 (.nilc 5),s 7 (.fa 1 6),s 8 (.ld1 7),m 9 1,c 10 (.call 22 [8,9]),m 4 10])
 .ret)) [.t 4]
def af26 : AFn := .code 19 (.seq (.reg [s 4 (.mv (.c (.b false)))])
 (.seq (.reg [m 5 0,s 6 (.bin .geq 5 (k 0)),m 7 6,sg 8 7 true (.mv 0),sg 9 7 true (.bin .lss 8 (k 1073741824)),s 10 (.pick 7 9 (.c (.b false))),m 11 10,sg 12 11 true (.mv 1),sg 13 11 true (.bin .geq 12 (k 0)),s 14 (.pick 11 13 (.c (.b false))),m 15 14,sg 16 15 true (.mv 1),sg 17 15 true (.bin .lss 16 (k 1073741824)),s 18 (.pick 15 17 (.c (.b false))),m 4 18])
 .ret)) [.t 4]
def af27 : AFn := .code 45 (.seq (.reg [f 1 (.box 0),f 2 (.alloc [(i 0),(i 0)]),f 3 (.alloc [(i 0),(i 0),(i 0),(i 0),(i 0),(i 0),(i 0),(i 0),(i 0),(i 0),(i 0),(i 0),(i 0)]),s 4 (.mv (.c (.b false)))])
 (.seq (.seq (.reg [s 10 (.ldn 3 1),c 11 (.call 63 [10]),s 12 (.un .not 11)])
 (.cond 12 (.seq (.dreg 0 [.st 0 (s 13 (.ldn 2 2)),
  .st 1 (s 14 (.ldn 13 3)),
  .ef 2 (st 2 2 13) [] [s 14 (.ldn 13 3)],
  .ef 3 (st 13 3 14) [] [],
  .st 4 (s 4 (.mv (.c (.b false))))])
 .ret) .skip))
 (.seq (.reg [s 15 (.fa 1 1),s 16 (.ldn 2 15),f 5 (.alloc [(i 0),(i 0)]),st 2 5 16])
 (.seq (.seq (.reg [s 17 (.fa 0 1),s 18 (.ld1 17),m 6 18])
 (.block 0 (.loop (.seq (.seq (.reg [m 19 6,s 20 (.bin .gtr 19 (k 0))])
 (.cond 20 .skip (.exit 0)))
 (.seq (.block 1 (.seq (.reg [s 24 (.ldn 2 5),c 25 (.call 64 [24]),m 23 25,s 26 (.ext 23 0),s 27 (.ext 23 1),f 7 (.alloc [(i 0),(i 0)]),f 8 (.alloc [(i 0),(i 0)]),st 2 7 26,st 2 8 27])
 (.dreg 0 [.st 0 (m 28 6),
  .st 1 (s 29 (.ldn 2 8)),
  .st 3 (s 31 (.ldn 2 7)),
  .ef 2 (c 30 (.call 65 [29])) [] [s 31 (.ldn 2 7)],
  .st 4 (s 32 (.iaa 13 1 3 28)),
  .ef 5 (st 1 32 30) [] [s 31 (.ldn 2 7)],
  .ef 6 (st 2 5 31) [] []])))
 (.reg [m 21 6,s 22 (.bin .sub 21 (k 1)),m 6 22]))))))
 (.seq (.reg [s 9 (.mv (.c (.f (.func 66) [] [])))])
 (.seq (.dreg 0 [.st 0 (s 33 (.ldn 2 5)),
  .st 1 (s 34 (.ldn 13 3)),
  .st 2 (m 35 9),
  .st 3 (s 36 (.fa 0 5)),
  .st 4 (s 37 (.ld1 36)),
  .ef 5 (c 38 (.dyn 35 [37])) [] [s 33 (.ldn 2 5),s 34 (.ldn 13 3)],
  .st 6 (m 39 38),
  .st 7 (sg 40 39 true (.mv 9)),
  .st 8 (sg 41 39 true (.fa 1 5)),
  .st 9 (sg 42 39 true (.ld1 41)),
  .ef 10 (cg 43 39 true (.dyn 40 [42])) [] [s 33 (.ldn 2 5),s 34 (.ldn 13 3)],
  .st 11 (s 44 (.pick 39 43 (.c (.b false)))),
  .ef 12 (st 2 2 33) [] [s 34 (.ldn 13 3)],
  .ef 13 (st 13 3 34) [] [],
  .st 14 (m 4 44)])
 .ret)))))) [.cn 2 2,.cn 3 13,.t 4]
def af28 : AFn := .code 20 (.reg [m 6 0,s 7 (.nilc 6),s 8 (.fa 0 7),s 9 (.ld1 8),m 10 2,m 11 1,s 12 (.bin .sub 11 (k 1)),s 13 (.bin .mul (k 3) 12),s 14 (.bin .sub (k 33) 13),s 15 (.cvi .u64 14),s 16 (.bin .shl 10 15),s 17 (.bin .or 9 16),s 18 (.nilc 6),s 19 (.fa 0 18),st 1 19 17]) []
def af29 : AFn := .code 13 (.seq (.reg [s 4 (.mv (.c (.i .u64 0)))])
 (.seq (.reg [m 5 0,m 6 1,s 7 (.bin .sub 6 (k 1)),s 8 (.bin .mul (k 3) 7),s 9 (.bin .sub (k 33) 8),s 10 (.cvi .u64 9),s 11 (.bin .shr 5 10),s 12 (.bin .and 11 (.c (.i .u64 7))),m 4 12])
 .ret)) [.t 4]
def af30 : AFn := .code 54 (.seq (.reg [f 2 (.box 0),f 3 (.box 1),f 4 (.alloc [(i 0),(i 0)]),s 5 (.mv (.c (.b false)))])
 (.seq (.reg [s 6 (.mv (.c (.f (.func 67) [] [])))])
 (.seq (.reg [s 12 (.fa 1 2),s 13 (.ld1 12),s 14 (.fa 1 3),s 15 (.ld1 14),c 16 (.call 68 [13,15]),f 7 (.alloc [(i 0),(.i .u64 0)]),st 2 7 16])
 (.seq (.dreg 0 [.st 0 (s 18 (.fa 0 2)),
  .st 1 (s 19 (.ld1 18)),
  .st 2 (s 20 (.fa 0 3)),
  .st 3 (s 21 (.ld1 20)),
  .st 5 (s 23 (.ldn 2 7)),
  .ef 4 (c 22 (.call 68 [19,21])) [] [s 23 (.ldn 2 7)],
  .ef 6 (c 24 (.call 69 [22,23])) [] [],
  .ef 7 (c 25 (.call 70 [24])) [] [],
  .st 8 (m 17 25),
  .st 9 (s 26 (.ext 17 0)),
  .st 10 (s 27 (.ext 17 1)),
  .st 11 (m 8 26),
  .st 12 (m 9 27)])
 (.seq (.dreg 0 [.st 0 (m 29 6),
  .st 1 (m 30 6),
  .st 2 (s 31 (.fa 0 2)),
  .st 3 (s 32 (.ld1 31)),
  .st 4 (s 33 (.fa 1 3)),
  .st 5 (s 34 (.ld1 33)),
  .st 7 (s 36 (.fa 1 2)),
  .st 8 (s 37 (.ld1 36)),
  .st 9 (s 38 (.fa 0 3)),
  .st 10 (s 39 (.ld1 38)),
  .st 13 (s 42 (.ldn 2 7)),
  .ef 6 (c 35 (.call 68 [32,34])) [] [s 37 (.ld1 36),s 39 (.ld1 38),s 42 (.ldn 2 7)],
  .ef 11 (c 40 (.call 68 [37,39])) [] [s 42 (.ldn 2 7)],
  .ef 12 (c 41 (.dyn 30 [35,40])) [] [s 42 (.ldn 2 7)],
  .ef 14 (c 43 (.dyn 29 [41,42])) [] [],
  .ef 15 (c 44 (.call 70 [43])) [] [],
  .st 16 (m 28 44),
  .st 17 (s 45 (.ext 28 0)),
  .st 18 (s 46 (.ext 28 1)),
  .st 19 (m 10 45),
  .st 20 (m 11 46)])
 (.seq (.reg [m 47 8,m 48 9,m 49 10,m 50 11,c 51 (.call 71 [47,48,49,50]),s 52 (.ext 51 0),s 53 (.ext 51 1),st 2 4 52,m 5 53])
 .ret)))))) [.cn 4 2,.t 5]
def af31 : AFn := .code 11 (.seq (.reg [f 2 (.box 0),f 3 (.box 1),f 4 (.alloc [(i 0),(i 0)]),s 5 (.mv (.c (.b false)))])
 (.seq (.reg [s 6 (.ldn 2 2),s 7 (.ldn 2 3),c 8 (.call 72 [6,7,(.c (.f (.func 73) [] []))]),s 9 (.ext 8 0),s 10 (.ext 8 1),st 2 4 9,m 5 10])
 .ret)) [.cn 4 2,.t 5]
def af32 : AFn := .code 17 (.seq (.reg [f 2 (.alloc [(i 0),(i 0)])])
 (.seq (.reg [s 4 (.build [(i 0),(i 0)] [(0,1,(k 1))]),s 5 (.build [(i 0),(i 0)] [(1,1,(k 1))]),s 6 (.build [(i 0),(i 0)] [(0,1,(.c (.i .i64 (-1)))),(1,1,(k 1))]),s 7 (.build [(i 0),(i 0)] [(0,1,(.c (.i .i64 (-1))))]),s 8 (.build [(i 0),(i 0)] [(1,1,(.c (.i .i64 (-1))))]),s 9 (.build [(i 0),(i 0)] [(0,1,(k 1)),(1,1,(.c (.i .i64 (-1))))]),s 10 (.build [(i 0),(i 0),(i 0),(i 0),(i 0),(i 0),(i 0),(i 0),(i 0),(i 0),(i 0),(i 0)] [(0,2,4),(2,2,5),(4,2,6),(6,2,7),(8,2,8),(10,2,9)]),f 3 (.alloc [(i 0),(i 0),(i 0),(i 0),(i 0),(i 0),(i 0),(i 0),(i 0),(i 0),(i 0),(i 0)]),st 12 3 10])
 (.seq (.reg [m 11 0,s 12 (.bin .rem 11 (k 6)),s 13 (.bin .add 12 (k 6)),s 14 (.bin .rem 13 (k 6)),s 15 (.iaa 6 2 3 14),s 16 (.ldn 2 15),st 2 2 16])
 .ret))) [.cn 2 2]
def af33 : AFn := .code 19 (.seq (.reg [f 4 (.alloc [(i 0),(i 0)]),s 5 (.mv (.c (.b false)))])
 (.seq (.seq (.reg [m 6 0,m 7 1,c 8 (.call 26 [6,7]),s 9 (.un .not 8)])
 (.cond 9 (.seq (.reg [s 10 (.build [(i 0),(i 0)] []),st 2 4 10,s 5 (.mv (.c (.b false)))])
 .ret) .skip))
 (.seq (.reg [m 11 0,s 12 (.bin .mul (k 45) 11),m 13 1,s 14 (.bin .mul (k 26) 13),s 15 (.bin .sub 12 14),m 16 1,s 17 (.bin .mul (k 52) 16),s 18 (.build [(i 0),(i 0)] [(0,1,15),(1,1,17)]),st 2 4 18,s 5 (.mv (.c (.b true)))])
 .ret))) [.cn 4 2,.t 5]
def af34 : AFn := .code 9 (.seq (.reg [s 2 (.mv (.c (.b false)))])
 (.seq (.reg [m 3 0,s 4 (.bin .geq 3 (k 0)),m 5 4,sg 6 5 true (.mv 0),sg 7 5 true (.bin .leq 6 (k 12)),s 8 (.pick 5 7 (.c (.b false))),m 2 8])
 .ret)) [.t 2]
def af35 : AFn := .code 28 (.seq (.reg [f 2 (.alloc [(i 0),(i 0)]),s 3 (.mv (.c (.b false)))])
 (.seq (.seq (.reg [m 6 0,s 7 (.bin .lss 6 (k 0)),m 8 7,sg 9 8 false (.mv 0),sg 10 8 false (.bin .gtr 9 (k 20)),s 11 (.pick 8 (.c (.b true)) 10)])
 (.cond 11 (.seq (.reg [s 12 (.build [(i 0),(i 0)] []),st 2 2 12,s 3 (.mv (.c (.b false)))])
 .ret) .skip))
 (.seq (.reg [s 13 (.build [(i 0),(i 0)] [(0,1,(k 1))]),f 4 (.alloc [(i 0),(i 0)]),st 2 4 13,s 5 (.mv (.c (.b true)))])
 (.seq (.seq (.reg [m 14 0,s 15 (.mv (k 0))])
 (.block 0 (.loop (.seq (.reg [s 16 (.bin .lss 15 14)])
 (.seq (.cond 16 .skip (.exit 0))
 (.seq (.block 1 (.seq (.reg [s 18 (.ldn 2 4),s 19 (.build [(i 0),(i 0)] [(0,1,(k 2)),(1,1,(k 1))]),c 20 (.call 30 [18,19]),m 17 20,s 21 (.ext 17 0),s 22 (.ext 17 1),st 2 4 21,m 5 22])
 (.seq (.reg [m 23 5,s 24 (.un .not 23)])
 (.cond 24 (.seq (.reg [s 25 (.build [(i 0),(i 0)] []),st 2 2 25,s 3 (.mv (.c (.b false)))])
 .ret) .skip))))
 (.reg [s 26 (.bin .add 15 (k 1)),m 15 26])))))))
 (.seq (.reg [s 27 (.ldn 2 4),st 2 2 27,s 3 (.mv (.c (.b true)))])
 .ret))))) [.cn 2 2,.t 3]
def af36 : AFn := .code 29 (.seq (.reg [f 1 (.box 0),f 2 (.alloc [(i 0),(i 0)]),s 3 (.mv (.c (.b false)))])
 (.seq (.reg [s 9 (.fa 0 1),s 10 (.ld1 9),s 11 (.fa 1 1),s 12 (.ld1 11),c 13 (.call 73 [10,12]),m 8 13,s 14 (.ext 8 0),s 15 (.ext 8 1),m 4 14,m 5 15])
 (.seq (.reg [s 17 (.fa 1 1),s 18 (.ld1 17),c 19 (.call 74 [18]),m 16 19,s 20 (.ext 16 0),s 21 (.ext 16 1),m 6 20,m 7 21])
 (.seq (.reg [m 22 4,m 23 5,m 24 6,m 25 7,c 26 (.call 71 [22,23,24,25]),s 27 (.ext 26 0),s 28 (.ext 26 1),st 2 2 27,m 3 28])
 .ret)))) [.cn 2 2,.t 3]
def af37 : AFn := .code 34 (.seq (.reg [f 2 (.box 0),s 4 (.mv (k 0)),s 5 (.mv (.c (.b false)))])
 (.seq (.seq (.reg [m 9 1,s 10 (.bin .lss 9 (k 0))])
 (.cond 10 (.seq (.reg [s 4 (.mv (k 0)),s 5 (.mv (.c (.b false)))])
 .ret) .skip))
 (.seq (.seq (.reg [s 11 (.ld1 2),s 12 (.bin .geq 11 (.c (.i .i64 (-1)))),m 13 12,sg 14 13 true (.ld1 2),sg 15 13 true (.bin .leq 14 (k 1)),s 16 (.pick 13 15 (.c (.b false)))])
 (.cond 16 (.reg [m 17 1,m 18 1,s 19 (.bin .rem 18 (k 2)),s 20 (.bin .sub (k 2) 19),s 21 (.mn 17 20),m 1 21]) .skip))
 (.seq (.reg [f 6 (.alloc [(i 0)]),f 7 (.alloc [(.b false)]),st 1 6 (k 1),en (.st 1 7 (.c (.b true)))])
 (.seq (.reg [s 22 (.mkfn (.func 75) [] [6,2,7]),m 8 22])
 (.seq (.block 0 (.loop (.seq (.seq (.reg [m 23 1,s 24 (.bin .gtr 23 (k 0)),m 25 24,sg 26 25 true (.ld1 7),s 27 (.pick 25 26 (.c (.b false)))])
 (.cond 27 .skip (.exit 0)))
 (.seq (.block 1 (.reg [m 30 8,c 31 (.dyn 30 [])]))
 (.reg [m 28 1,s 29 (.bin .sub 28 (k 1)),m 1 29])))))
 (.seq (.dreg 0 [.st 0 (s 32 (.ld1 6)),
  .st 1 (s 33 (.ld1 7)),
  .st 2 (m 4 32),
  .st 3 (m 5 33)])
 .ret))))))) [.t 4,.t 5]
def af38 : AFn := .code 114 (.seq (.reg [f 2 (.box 0),f 4 (.alloc [(i 0),(i 0)]),s 5 (.mv (.c (.b false)))])
 (.seq (.seq (.reg [m 18 1,s 19 (.bin .lss 18 (k 1)),m 20 19,sg 21 20 false (.mv 1),sg 22 20 false (.bin .gtr 21 (k 1125899906842624)),s 23 (.pick 20 (.c (.b true)) 22),m 24 23,sg 25 24 false (.fa 0 2),sg 26 24 false (.ld1 25),cg 27 24 false (.call 77 [26,(k 1152921504606846976)]),sg 28 24 false (.un .not 27),s 29 (.pick 24 (.c (.b true)) 28),m 30 29,sg 31 30 false (.fa 1 2),sg 32 30 false (.ld1 31),cg 33 30 false (.call 77 [32,(k 1152921504606846976)]),sg 34 30 false (.un .not 33),s 35 (.pick 30 (.c (.b true)) 34)])
 (.cond 35 (.seq (.reg [s 36 (.build [(i 0),(i 0)] []),st 2 4 36,s 5 (.mv (.c (.b false)))])
 .ret) .skip))
 (.seq (.reg [s 38 (.fa 0 2),s 39 (.ld1 38),m 40 1,c 41 (.call 78 [39,40]),m 37 41,s 42 (.ext 37 0),s 43 (.ext 37 1),s 44 (.ext 37 2),m 6 42,m 7 43,m 8 44])
 (.seq (.reg [s 46 (.fa 1 2),s 47 (.ld1 46),m 48 1,c 49 (.call 78 [47,48]),m 45 49,s 50 (.ext 45 0),s 51 (.ext 45 1),s 52 (.ext 45 2),m 9 50,m 10 51,m 11 52])
 (.seq (.reg [s 53 (.build [(i 0),(i 0)] []),f 13 (.alloc [(i 0),(i 0)]),s 12 (.mv (k 0)),st 2 13 53])
 (.seq (.seq (.reg [s 54 (.build [(i 0),(i 0)] [(1,1,(k 1))]),s 55 (.build [(i 0),(i 0)] [(0,1,(k 1))]),s 56 (.build [(i 0),(i 0)] [(0,1,(k 1)),(1,1,(k 1))]),f 57 (.bsl 2 3 [(i 0),(i 0),(i 0),(i 0),(i 0),(i 0)] [(0,2,54),(2,2,55),(4,2,56)]),s 58 (.len 57),s 59 (.mv (k 0))])
 (.block 0 (.loop (.seq (.reg [s 60 (.bin .lss 59 58)])
 (.seq (.cond 60 .skip (.exit 0))
 (.seq (.block 1 (.seq (.reg [s 61 (.ia 2 57 59),s 62 (.ldn 2 61),f 15 (.alloc [(i 0),(i 0)]),st 2 15 62])
 (.seq (.reg [s 63 (.fa 0 15),s 64 (.ld1 63),s 65 (.fa 0 15),s 66 (.ld1 65),s 67 (.bin .mul 64 66),s 68 (.fa 0 15),s 69 (.ld1 68),s 70 (.fa 1 15),s 71 (.ld1 70),s 72 (.bin .mul 69 71),s 73 (.bin .add 67 72),s 74 (.fa 1 15),s 75 (.ld1 74),s 76 (.fa 1 15),s 77 (.ld1 76),s 78 (.bin .mul 75 77),s 79 (.bin .add 73 78),m 16 79])
 (.seq (.reg [m 80 1,m 81 16,s 82 (.bin .mul 80 81),s 83 (.fa 0 15),s 84 (.ld1 83),m 85 7,s 86 (.bin .mul (k 2) 85),m 87 10,s 88 (.bin .add 86 87),s 89 (.bin .mul 84 88),s 90 (.bin .sub 82 89),s 91 (.fa 1 15),s 92 (.ld1 91),m 93 7,m 94 10,s 95 (.bin .mul (k 2) 94),s 96 (.bin .add 93 95),s 97 (.bin .mul 92 96),s 98 (.bin .sub 90 97),m 17 98])
 (.seq (.reg [m 99 17,m 100 12,s 101 (.bin .lss 99 100)])
 (.cond 101 (.dreg 0 [.st 0 (m 102 17),
  .st 1 (s 103 (.ldn 2 15)),
  .st 2 (m 12 102),
  .ef 3 (st 2 13 103) [] []]) .skip))))))
 (.reg [s 104 (.bin .add 59 (k 1)),m 59 104])))))))
 (.seq (.reg [m 105 6,s 106 (.fa 0 13),s 107 (.ld1 106),s 108 (.bin .add 105 107),m 109 9,s 110 (.fa 1 13),s 111 (.ld1 110),s 112 (.bin .add 109 111),s 113 (.build [(i 0),(i 0)] [(0,1,108),(1,1,112)]),st 2 4 113,s 5 (.mv (.c (.b true)))])
 .ret))))))) [.cn 4 2,.t 5]
def af40 : AFn := .code 47 (.seq (.reg [f 2 (.box 0),f 3 (.box 1),f 4 (.alloc [(i 0),(i 0),(i 0),(i 0)]),s 5 (.mv (.c (.b false)))])
 (.seq (.reg [f 6 (.alloc [(i 0),(i 0),(i 0),(i 0)])])
 (.seq (.seq (.reg [s 8 (.mv (k 0))])
 (.block 0 (.loop (.seq (.reg [s 9 (.bin .lss 8 (k 2))])
 (.seq (.cond 9 .skip (.exit 0))
 (.seq (.block 1 (.seq (.reg [m 10 8,m 7 10])
 (.seq (.seq (.dreg 0 [.st 0 (m 11 7),
  .st 1 (s 12 (.iaa 2 1 2 11)),
  .st 2 (s 13 (.ld1 12)),
  .st 3 (s 14 (.bin .lss 13 (.c (.i .i64 (-2147483648))))),
  .st 4 (m 15 14),
  .st 5 (sg 16 15 false (.mv 7)),
  .st 6 (sg 17 15 false (.iaa 2 1 3 16)),
  .st 7 (sg 18 15 false (.ld1 17)),
  .st 8 (sg 19 15 false (.bin .gtr 18 (k 2147483648))),
  .st 9 (s 20 (.pick 15 (.c (.b true)) 19)),
  .st 10 (m 21 20),
  .st 11 (sg 22 21 false (.mv 7)),
  .st 12 (sg 23 21 false (.iaa 2 1 3 22)),
  .st 13 (sg 24 21 false (.ld1 23)),
  .st 14 (sg 25 21 false (.mv 7)),
  .st 15 (sg 26 21 false (.iaa 2 1 2 25)),
  .st 16 (sg 27 21 false (.ld1 26)),
  .st 17 (sg 28 21 false (.bin .lss 24 27)),
  .st 18 (s 29 (.pick 21 (.c (.b true)) 28))])
 (.cond 29 (.seq (.reg [s 30 (.ldn 4 6),st 4 4 30,s 5 (.mv (.c (.b false)))])
 .ret) .skip))
 (.dreg 0 [.st 0 (m 31 7),
  .st 1 (m 32 7),
  .st 2 (m 33 7),
  .st 3 (s 34 (.iaa 2 1 2 33)),
  .st 4 (s 35 (.ld1 34)),
  .st 5 (s 36 (.bin .mul (k 3) 35)),
  .st 6 (m 37 7),
  .st 7 (s 38 (.iaa 2 1 3 37)),
  .st 8 (s 39 (.ld1 38)),
  .st 9 (s 40 (.bin .mul (k 3) 39)),
  .st 10 (s 41 (.fa 0 6)),
  .st 11 (s 42 (.iaa 2 1 41 31)),
  .st 13 (s 43 (.fa 2 6)),
  .ef 12 (st 1 42 36) [] [s 39 (.ld1 38)],
  .st 14 (s 44 (.iaa 2 1 43 32)),
  .ef 15 (st 1 44 40) [] []]))))
 (.reg [s 45 (.bin .add 8 (k 1)),m 8 45])))))))
 (.seq (.reg [s 46 (.ldn 4 6),st 4 4 46,s 5 (.mv (.c (.b true)))])
 .ret)))) [.cn 4 4,.t 5]
def af41 : AFn := .code 29 (.seq (.reg [f 2 (.box 0),s 4 (.mv (.c (.b false)))])
 (.seq (.seq (.reg [s 7 (.ldn 4 2),m 8 1,c 9 (.call 79 [7,8])])
 (.cond 9 (.seq (.reg [s 4 (.mv (.c (.b false)))])
 .ret) .skip))
 (.seq (.seq (.reg [m 10 1,s 11 (.len 10),s 12 (.mv (k 0))])
 (.block 0 (.loop (.seq (.reg [s 13 (.bin .lss 12 11)])
 (.seq (.cond 13 .skip (.exit 0))
 (.seq (.block 1 (.seq (.reg [m 14 12,s 15 (.ia 2 10 12),s 16 (.ldn 2 15),f 6 (.alloc [(i 0),(i 0)]),m 5 14,st 2 6 16])
 (.seq (.dreg 0 [.st 0 (s 17 (.ldn 4 2)),
  .st 1 (s 18 (.ldn 2 6)),
  .st 2 (m 19 1),
  .st 3 (m 20 5),
  .st 4 (s 21 (.bin .add 20 (k 1))),
  .st 5 (m 22 1),
  .st 6 (s 23 (.len 22)),
  .st 7 (s 24 (.bin .rem 21 23)),
  .st 8 (s 25 (.ia 2 19 24)),
  .st 9 (s 26 (.ldn 2 25)),
  .ef 10 (c 27 (.call 80 [17,18,26])) [] []])
 (.cond 27 (.seq (.reg [s 4 (.mv (.c (.b false)))])
 .ret) .skip))))
 (.reg [s 28 (.bin .add 12 (k 1)),m 12 28])))))))
 (.seq (.reg [s 4 (.mv (.c (.b true)))])
 .ret)))) [.t 4]
def af45 : AFn := .code 11 (.seq (.reg [m 3 0,s 4 (.len 3),m 2 4])
 (.reg [m 5 0,m 6 2,m 7 2,s 8 (.cvi .u64 7),c 9 (.call 84 [8]),c 10 (.call 83 [5,(k 0),6,9])])) []
def af46 : AFn := .code 13 (.seq (.reg [f 1 (.box 0),s 2 (.mv (.c (.b false)))])
 (.seq (.reg [s 7 (.ldn 3 1),c 8 (.call 27 [7]),m 6 8,s 9 (.ext 6 0),s 10 (.ext 6 1),s 11 (.ext 6 2),f 3 (.alloc [(i 0),(i 0)]),f 4 (.alloc [(i 0),(i 0),(i 0),(i 0),(i 0),(i 0),(i 0),(i 0),(i 0),(i 0),(i 0),(i 0),(i 0)]),st 2 3 9,st 13 4 10,m 5 11])
 (.seq (.reg [m 12 5,m 2 12])
 .ret))) [.t 2]
def af47 : AFn := .code 52 (.seq (.reg [f 2 (.box 0),s 4 (.mv (.c .sn)),s 5 (.mv (.c (.b false)))])
 (.seq (.reg [s 15 (.ldn 2 2),m 16 1,c 17 (.call 85 [15,16,(k 3)]),m 14 17,s 18 (.ext 14 0),s 19 (.ext 14 1),f 6 (.alloc [(i 0),(i 0)]),st 2 6 18,m 7 19])
 (.seq (.seq (.reg [m 20 7,s 21 (.un .not 20)])
 (.cond 21 (.seq (.reg [s 4 (.mv (.c .sn)),s 5 (.mv (.c (.b false)))])
 .ret) .skip))
 (.seq (.reg [m 23 1,s 24 (.bin .sub (k 12) 23),c 25 (.call 35 [24]),m 22 25,s 26 (.ext 22 0),s 27 (.ext 22 1),f 8 (.alloc [(i 0),(i 0)]),st 2 8 26,m 9 27])
 (.seq (.reg [s 28 (.ldn 2 6),s 29 (.ldn 2 8),s 30 (.build [(i 0),(i 0),(i 0),(i 0)] [(0,2,28),(2,2,29)]),s 31 (.mkfn (.func 86) [30] []),m 10 31])
 (.seq (.reg [s 11 (.mv (.c .sn))])
 (.seq (.seq (.reg [s 32 (.build [(i 0),(i 0)] [(0,1,(k 1)),(1,1,(k 1))]),s 33 (.build [(i 0),(i 0)] [(0,1,(.c (.i .i64 (-1)))),(1,1,(k 2))]),s 34 (.build [(i 0),(i 0)] [(0,1,(.c (.i .i64 (-2)))),(1,1,(k 1))]),s 35 (.build [(i 0),(i 0)] [(0,1,(.c (.i .i64 (-1)))),(1,1,(.c (.i .i64 (-1))))]),s 36 (.build [(i 0),(i 0)] [(0,1,(k 1)),(1,1,(.c (.i .i64 (-2))))]),s 37 (.build [(i 0),(i 0)] [(0,1,(k 2)),(1,1,(.c (.i .i64 (-1))))]),f 38 (.bsl 2 6 [(i 0),(i 0),(i 0),(i 0),(i 0),(i 0),(i 0),(i 0),(i 0),(i 0),(i 0),(i 0)] [(0,2,32),(2,2,33),(4,2,34),(6,2,35),(8,2,36),(10,2,37)]),s 39 (.len 38),s 40 (.mv (k 0))])
 (.block 0 (.loop (.seq (.reg [s 41 (.bin .lss 40 39)])
 (.seq (.cond 41 .skip (.exit 0))
 (.seq (.block 1 (.seq (.reg [s 42 (.ia 2 38 40),s 43 (.ldn 2 42),f 13 (.alloc [(i 0),(i 0)]),st 2 13 43])
 (.reg [m 44 11,m 45 10,s 46 (.ldn 2 13),c 47 (.dyn 45 [46]),f 48 (.bsl 2 1 [(i 0),(i 0)] [(0,2,47)]),e 49 (.app 2 16 44 48),m 11 49])))
 (.reg [s 50 (.bin .add 40 (k 1)),m 40 50])))))))
 (.seq (.reg [m 51 11,m 4 51,s 5 (.mv (.c (.b true)))])
 .ret)))))))) [.t 4,.t 5]
def af48 : AFn := .code 52 (.seq (.reg [f 2 (.box 0),s 4 (.mv (.c (.s [])))])
 (.seq (.reg [s 5 (.mv (.c .sn))])
 (.seq (.reg [s 10 (.ldn 4 2),m 11 1,c 12 (.call 87 [10,11]),m 6 12])
 (.seq (.seq (.reg [s 7 (.mv (k 0))])
 (.block 0 (.loop (.seq (.seq (.reg [m 13 7,m 14 6,s 15 (.len 14),s 16 (.bin .lss 13 15)])
 (.cond 16 .skip (.exit 0)))
 (.seq (.block 1 (.seq (.reg [m 20 1,m 21 6,m 22 7,s 23 (.ia 1 21 22),s 24 (.ld1 23),c 25 (.call 88 [20,24]),m 19 25,s 26 (.ext 19 0),s 27 (.ext 19 1),f 8 (.alloc [(.i .u64 0),(i 0),(i 0),(i 0),(i 0)]),st 5 8 26,m 9 27])
 (.dreg 1 [.st 0 (m 28 5),
  .st 1 (m 29 6),
  .st 2 (m 30 7),
  .st 3 (s 31 (.ia 1 29 30)),
  .st 4 (s 32 (.ld1 31)),
  .st 5 (s 33 (.ldn 4 2)),
  .st 6 (m 34 6),
  .st 7 (m 35 7),
  .st 8 (s 36 (.ia 1 34 35)),
  .st 9 (s 37 (.ld1 36)),
  .st 11 (s 39 (.fa 1 8)),
  .st 12 (s 40 (.ld1 39)),
  .st 13 (s 41 (.fa 2 8)),
  .st 14 (s 42 (.ld1 41)),
  .st 15 (s 43 (.fa 3 8)),
  .st 16 (s 44 (.ld1 43)),
  .st 17 (s 45 (.fa 4 8)),
  .st 18 (s 46 (.ld1 45)),
  .ef 10 (c 38 (.call 89 [33,37])) [] [s 32 (.ld1 31),s 40 (.ld1 39),s 42 (.ld1 41),s 44 (.ld1 43),s 46 (.ld1 45)],
  .st 19 (s 47 (.build [(.i .u64 0),.sn,(i 0),(i 0),(i 0),(i 0)] [(0,1,32),(1,1,38),(2,1,40),(3,1,42),(4,1,44),(5,1,46)])),
  .fl 20 (f 48 (.bsl 6 1 [(.i .u64 0),.sn,(i 0),(i 0),(i 0),(i 0)] [(0,6,47)])) 0,
  .ef 21 (e 49 (.app 6 64 28 48)) [0] [],
  .st 22 (m 5 49)])))
 (.reg [m 17 7,s 18 (.bin .add 17 (k 1)),m 7 18]))))))
 (.seq (.reg [m 50 5,c 51 (.call 90 [50]),m 4 51])
 .ret))))) [.t 4]
def af49 : AFn := .code 132 (.seq (.reg [s 6 (.mv (.c .pn)),s 7 (.mv (k 0))])
 (.seq (.seq (.reg [m 16 0,s 17 (.nilp false 16 (.c .pn)),m 18 17,sg 19 18 false (.mv 1),sg 20 18 false (.bin .lss 19 (k 21)),s 21 (.pick 18 (.c (.b true)) 20),m 22 21,sg 23 22 false (.mv 2),sg 24 22 false (.bin .lss 23 (k 0)),s 25 (.pick 22 (.c (.b true)) 24),m 26 25,sg 27 26 false (.mv 1),sg 28 26 false (.mv 0),cg 29 26 false (.call 91 [28]),sg 30 26 false (.bin .quo 29 (k 2)),sg 31 26 false (.bin .gtr 27 30),s 32 (.pick 26 (.c (.b true)) 31),m 33 32,sg 34 33 false (.mv 2),sg 35 33 false (.mv 0),cg 36 33 false (.call 91 [35]),sg 37 33 false (.mv 1),sg 38 33 false (.bin .mul (k 2) 37),sg 39 33 false (.bin .sub 36 38),sg 40 33 false (.bin .gtr 34 39),s 41 (.pick 33 (.c (.b true)) 40)])
 (.cond 41 (.seq (.reg [s 6 (.mv (.c .pn)),s 7 (.mv (k 1))])
 .ret) .skip))
 (.seq (.reg [m 42 0,m 43 1,m 44 2,s 45 (.build [.pn,(i 0),(i 0),(i 0),(.i .u64 0),(.i .u64 0),.sn,(i 0),(.b false)] [(0,1,42),(1,1,43),(2,1,44),(3,1,(.c (.i .i64 (-1)))),(4,1,(.c (.i .u64 1)))]),f 46 (.box 45),m 8 46])
 (.seq (.seq (.reg [s 47 (.mv (k 0))])
 (.block 0 (.loop (.seq (.reg [s 48 (.bin .lss 47 (k 2))])
 (.seq (.cond 48 .skip (.exit 0))
 (.seq (.block 1 (.seq (.reg [m 49 47,m 9 49])
 (.seq (.reg [m 51 0,m 52 9,m 53 1,s 54 (.bin .mul 52 53),m 55 1,c 56 (.call 92 [51,54,55]),m 50 56,s 57 (.ext 50 0),s 58 (.ext 50 1),s 59 (.ext 50 2),f 10 (.alloc [(.i .u64 0),(.i .u64 0),.sn]),st 3 10 57,m 11 58,m 12 59])
 (.seq (.seq (.reg [m 60 12,s 61 (.bin .neq 60 (k 0))])
 (.cond 61 (.seq (.reg [m 62 12,s 6 (.mv (.c .pn)),m 7 62])
 .ret) .skip))
 (.seq (.dreg 0 [.st 0 (m 63 11),
  .st 1 (m 64 63),
  .st 2 (sg 65 64 true (.mv 8)),
  .st 3 (sg 66 64 true (.nilc 65)),
  .st 4 (sg 67 64 true (.fa 3 66)),
  .st 5 (sg 68 64 true (.ld1 67)),
  .st 6 (sg 69 64 true (.bin .lss 68 (k 0))),
  .st 7 (sg 70 64 true (.mv 69)),
  .st 8 (sg 71 70 false (.fa 0 10)),
  .st 9 (sg 72 70 false (.ld1 71)),
  .st 10 (sg 73 70 false (.mv 8)),
  .st 11 (sg 74 70 false (.nilc 73)),
  .st 12 (sg 75 70 false (.fa 4 74)),
  .st 13 (sg 76 70 false (.ld1 75)),
  .st 14 (sg 77 70 false (.bin .gtr 72 76)),
  .st 15 (sg 78 64 true (.pick 70 (.c (.b true)) 77)),
  .st 16 (s 79 (.pick 64 78 (.c (.b false))))])
 (.cond 79 (.dreg 0 [.st 0 (m 80 8),
  .st 1 (m 81 8),
  .st 2 (m 82 8),
  .st 3 (m 83 8),
  .st 4 (m 84 9),
  .st 5 (s 85 (.fa 0 10)),
  .st 6 (s 86 (.ld1 85)),
  .st 7 (s 87 (.fa 1 10)),
  .st 8 (s 88 (.ld1 87)),
  .st 9 (s 89 (.fa 2 10)),
  .st 10 (s 90 (.ld1 89)),
  .st 11 (s 91 (.nilc 80)),
  .st 12 (s 92 (.fa 3 91)),
  .ef 13 (st 1 92 84) [] [s 86 (.ld1 85),s 88 (.ld1 87),s 90 (.ld1 89)],
  .st 14 (s 93 (.nilc 81)),
  .st 15 (s 94 (.fa 4 93)),
  .ef 16 (st 1 94 86) [] [s 88 (.ld1 87),s 90 (.ld1 89)],
  .st 17 (s 95 (.nilc 82)),
  .st 18 (s 96 (.fa 5 95)),
  .ef 19 (st 1 96 88) [] [s 90 (.ld1 89)],
  .st 20 (s 97 (.nilc 83)),
  .st 21 (s 98 (.fa 6 97)),
  .ef 22 (st 1 98 90) [] []]) .skip))))))
 (.reg [s 99 (.bin .add 47 (k 1)),m 47 99])))))))
 (.seq (.reg [m 101 0,m 102 8,c 103 (.call 94 [102]),m 104 2,c 105 (.call 93 [101,103,104]),m 100 105,s 106 (.ext 100 0),s 107 (.ext 100 1),m 13 106,m 14 107])
 (.seq (.seq (.reg [m 108 14,s 109 (.bin .neq 108 (k 0))])
 (.cond 109 (.seq (.reg [m 110 14,s 6 (.mv (.c .pn)),m 7 110])
 .ret) .skip))
 (.seq (.reg [m 111 8,m 112 13,c 113 (.call 95 [111,112])])
 (.seq (.seq (.reg [m 114 13,m 115 8,s 116 (.nilc 115),s 117 (.fa 7 116),s 118 (.ld1 117),s 119 (.slc 1 114 (some 118) none none),c 120 (.call 96 [119,(.c (.f (.func 97) [] []))])])
 (.cond 120 (.seq (.reg [m 121 8,m 122 8,s 123 (.nilc 122),s 124 (.fa 7 123),s 125 (.ld1 124),m 126 2,c 127 (.call 98 [121,125,126]),m 15 127])
 (.seq (.reg [m 128 15,s 129 (.bin .neq 128 (k 0))])
 (.cond 129 (.seq (.reg [m 130 15,s 6 (.mv (.c .pn)),m 7 130])
 .ret) .skip))) .skip))
 (.seq (.reg [m 131 8,m 6 131,s 7 (.mv (k 0))])
 .ret))))))))) [.t 6,.t 7]
def af50 : AFn := .code 13 (.seq (.reg [s 4 (.mv (.c .pn))])
 (.seq (.reg [m 5 0,m 6 0,c 7 (.call 100 [6]),c 8 (.call 99 [7]),m 9 1,c 10 (.call 101 [9]),s 11 (.build [.pn,.pn,.pn] [(0,1,5),(1,1,8),(2,1,10)]),f 12 (.box 11),m 4 12])
 .ret)) [.t 4]
def af51 : AFn := .code 22 (.seq (.reg [f 1 (.box 0),s 2 (.mv (.c (.s [])))])
 (.seq (.dreg 0 [.st 0 (s 3 (.fa 0 1)),
  .st 1 (s 4 (.ld1 3)),
  .st 2 (s 5 (.cvi .u64 4)),
  .st 4 (s 7 (.fa 1 1)),
  .st 5 (s 8 (.ld1 7)),
  .st 6 (s 9 (.cvi .u64 8)),
  .st 9 (s 12 (.fa 2 1)),
  .st 10 (s 13 (.ld1 12)),
  .st 11 (s 14 (.cvi .u64 13)),
  .st 14 (s 17 (.fa 3 1)),
  .st 15 (s 18 (.ld1 17)),
  .st 16 (s 19 (.cvi .u64 18)),
  .ef 3 (c 6 (.call 52 [5,(k 4)])) [] [s 8 (.ld1 7),s 13 (.ld1 12),s 18 (.ld1 17)],
  .ef 7 (c 10 (.call 52 [9,(k 4)])) [] [s 13 (.ld1 12),s 18 (.ld1 17)],
  .st 8 (s 11 (.bin .add 6 10)),
  .ef 12 (c 15 (.call 52 [14,(k 4)])) [] [s 18 (.ld1 17)],
  .st 13 (s 16 (.bin .add 11 15)),
  .ef 17 (c 20 (.call 52 [19,(k 4)])) [] [],
  .st 18 (s 21 (.bin .add 16 20)),
  .st 19 (m 2 21)])
 .ret)) [.t 2]
def af52 : AFn := .code 27 (.seq (.reg [s 4 (.mv (.c (.s [])))])
 (.seq (.reg [m 7 1,f 8 (.mks 1 (.i .u8 0) 7),m 5 8])
 (.seq (.seq (.reg [s 6 (.mv (k 0))])
 (.block 0 (.loop (.seq (.seq (.reg [m 9 6,m 10 1,s 11 (.bin .lss 9 10)])
 (.cond 11 .skip (.exit 0)))
 (.seq (.block 1 (.reg [m 14 5,m 15 6,m 16 0,m 17 1,s 18 (.bin .sub 17 (k 1)),m 19 6,s 20 (.bin .sub 18 19),s 21 (.bin .mul (k 8) 20),s 22 (.bin .shr 16 21),s 23 (.cvi .u8 22),s 24 (.ia 1 14 15),st 1 24 23]))
 (.reg [m 12 6,s 13 (.bin .add 12 (k 1)),m 6 13]))))))
 (.seq (.reg [m 25 5,s 26 (.cvb 25),m 4 26])
 .ret)))) [.t 4]
def af53 : AFn := .code 46 (.seq (.reg [f 6 (.alloc [(i 0),(i 0)]),s 7 (.mv (.c (.b false)))])
 (.seq (.seq (.reg [m 10 0,m 11 1,c 12 (.call 102 [10,11]),s 13 (.un .not 12),m 14 13,sg 15 14 false (.mv 2),sg 16 14 false (.bin .lss 15 (k 0)),s 17 (.pick 14 (.c (.b true)) 16),m 18 17,sg 19 18 false (.mv 2),sg 20 18 false (.bin .gtr 19 (k 12)),s 21 (.pick 18 (.c (.b true)) 20)])
 (.cond 21 (.seq (.reg [s 22 (.build [(i 0),(i 0)] []),st 2 6 22,s 7 (.mv (.c (.b false)))])
 .ret) .skip))
 (.seq (.reg [m 24 0,s 25 (.bin .mul (k 45) 24),m 26 1,s 27 (.bin .mul (k 26) 26),s 28 (.bin .sub 25 27),m 29 1,s 30 (.bin .mul (k 52) 29),s 31 (.build [(i 0),(i 0)] [(0,1,28),(1,1,30)]),m 32 2,s 33 (.bin .sub (k 12) 32),c 34 (.call 104 [33]),c 35 (.call 103 [31,34]),m 23 35,s 36 (.ext 23 0),s 37 (.ext 23 1),f 8 (.alloc [(i 0),(i 0)]),st 2 8 36,m 9 37])
 (.seq (.dreg 0 [.st 0 (s 38 (.ldn 2 8)),
  .st 1 (m 39 2),
  .st 2 (s 40 (.bin .sub (k 12) 39)),
  .ef 3 (c 41 (.call 106 [40])) [] [s 38 (.ldn 2 8)],
  .st 4 (s 42 (.bin .mul (k 2340) 41)),
  .ef 5 (c 43 (.call 105 [38,42])) [] [],
  .st 6 (s 44 (.ext 43 0)),
  .st 7 (s 45 (.ext 43 1)),
  .ef 8 (st 2 6 44) [] [],
  .st 9 (m 7 45)])
 .ret)))) [.cn 6 2,.t 7]
def af54 : AFn := .code 58 (.seq (.reg [f 1 (.box 0),s 2 (.mv (.c (.i .u64 0))),s 3 (.mv (k 0))])
 (.seq (.seq (.reg [s 10 (.ldn 3 1),c 11 (.call 107 [10]),s 12 (.un .not 11)])
 (.cond 12 (.seq (.reg [s 2 (.mv (.c (.i .u64 0))),s 3 (.mv (k 2))])
 .ret) .skip))
 (.seq (.reg [s 13 (.fa 1 1),s 14 (.ldn 2 13),f 4 (.alloc [(i 0),(i 0)]),st 2 4 14])
 (.seq (.reg [s 5 (.mv (.c (.i .u64 68719476735)))])
 (.seq (.seq (.reg [s 15 (.fa 0 1),s 16 (.ld1 15),m 6 16])
 (.block 0 (.loop (.seq (.seq (.reg [m 17 6,s 18 (.bin .gtr 17 (k 0))])
 (.cond 18 .skip (.exit 0)))
 (.seq (.block 1 (.seq (.reg [s 22 (.ldn 2 4),c 23 (.call 108 [22]),m 21 23,s 24 (.ext 21 0),s 25 (.ext 21 1),f 7 (.alloc [(i 0),(i 0)]),st 2 7 24,m 8 25])
 (.seq (.reg [m 26 6,s 27 (.bin .mul (k 3) 26),s 28 (.bin .sub (k 36) 27),m 9 28])
 (.seq (.dreg 0 [.st 0 (m 29 5),
  .st 1 (m 30 9),
  .st 2 (s 31 (.bin .shl (.c (.i .u64 7)) 30)),
  .st 3 (s 32 (.bin .andNot 29 31)),
  .st 4 (m 33 8),
  .st 5 (s 34 (.cvi .u64 33)),
  .st 6 (m 35 9),
  .st 7 (s 36 (.bin .shl 34 35)),
  .st 8 (s 37 (.bin .or 32 36)),
  .st 9 (m 5 37)])
 (.reg [s 38 (.ldn 2 7),st 2 4 38])))))
 (.reg [m 19 6,s 20 (.bin .sub 19 (k 1)),m 6 20]))))))
 (.seq (.reg [m 39 5,s 40 (.bin .or 39 (.c (.i .u64 1152921504606846976))),s 41 (.fa 0 1),s 42 (.ld1 41),s 43 (.cvi .u64 42),s 44 (.bin .shl 43 (.c (.i .u64 56))),s 45 (.bin .or 40 44),s 46 (.fa 0 4),s 47 (.ld1 46),s 48 (.bin .add 47 (k 512)),s 49 (.cvi .u64 48),s 50 (.bin .shl 49 (.c (.i .u64 46))),s 51 (.bin .or 45 50),s 52 (.fa 1 4),s 53 (.ld1 52),s 54 (.bin .add 53 (k 512)),s 55 (.cvi .u64 54),s 56 (.bin .shl 55 (.c (.i .u64 36))),s 57 (.bin .or 51 56),m 2 57,s 3 (.mv (k 0))])
 .ret)))))) [.t 2,.t 3]
def af55 : AFn := .code 64 (.seq (.reg [f 2 (.alloc [(i 0),.sn,.sn,.sn,.sn]),s 3 (.mv (k 0))])
 (.seq (.seq (.reg [m 10 0,s 11 (.len 10),s 12 (.bin .gtr 11 (k 10000))])
 (.cond 12 (.seq (.reg [s 13 (.build [(i 0),.sn,.sn,.sn,.sn] []),st 5 2 13,s 3 (.mv (k 11))])
 .ret) .skip))
 (.seq (.reg [m 15 0,f 16 (.bsl 1 1 [(.i .u8 0)] [(0,1,(.c (.i .u8 47)))]),e 17 (.cvss 16),c 18 (.call 109 [15,17]),m 14 18,s 19 (.ext 14 0),s 20 (.ext 14 1),f 4 (.alloc [.sn]),st 1 4 19,m 5 20])
 (.seq (.reg [s 21 (.ld1 4),c 22 (.call 110 [21,(.c (.f (.func 111) [] []))]),f 6 (.alloc [(i 0)]),st 1 6 22])
 (.seq (.seq (.reg [s 23 (.ld1 6),s 24 (.bin .lss 23 (k 0))])
 (.cond 24 (.reg [s 25 (.ld1 4),s 26 (.len 25),st 1 6 26]) .skip))
 (.seq (.reg [s 28 (.mkfn (.func 113) [] [4,6]),c 29 (.call 112 [28]),m 27 29,s 30 (.ext 27 0),s 31 (.ext 27 1),f 7 (.alloc [(i 0),(.s []),.sn]),st 3 7 30,m 8 31])
 (.seq (.seq (.reg [s 32 (.ld1 6),s 33 (.ld1 4),s 34 (.len 33),s 35 (.bin .lss 32 34),m 36 35,sg 37 36 true (.ld1 4),sg 38 36 true (.ld1 6),sg 39 36 true (.ia 1 37 38),sg 40 36 true (.ld1 39),sg 41 36 true (.bin .eql 40 (.c (.i .u8 10))),s 42 (.pick 36 41 (.c (.b false))),m 9 42])
 (.seq (.reg [m 43 5,s 44 (.un .not 43),m 45 44,sg 46 45 false (.mv 8),sg 47 45 false (.un .not 46),s 48 (.pick 45 (.c (.b true)) 47),m 49 48,sg 50 49 false (.mv 9),sg 51 49 false (.fa 0 7),sg 52 49 false (.ld1 51),sg 53 49 false (.bin .eql 52 (k 16)),sg 54 49 false (.eqb true 50 53),s 55 (.pick 49 (.c (.b true)) 54)])
 (.cond 55 (.seq (.reg [s 56 (.build [(i 0),.sn,.sn,.sn,.sn] []),st 5 2 56,s 3 (.mv (k 15))])
 .ret) .skip)))
 (.seq (.dreg 0 [.st 0 (s 57 (.ldn 3 7)),
  .st 1 (s 58 (.ld1 4)),
  .st 2 (s 59 (.ld1 6)),
  .st 3 (s 60 (.slc 1 58 (some 59) none none)),
  .ef 4 (c 61 (.call 114 [57,60])) [] [],
  .st 5 (s 62 (.ext 61 0)),
  .st 6 (s 63 (.ext 61 1)),
  .ef 7 (st 5 2 62) [] [],
  .st 8 (m 3 63)])
 .ret)))))))) [.cn 2 5,.t 3]
def af56 : AFn := .code 14 (.seq (.reg [s 4 (.mv (.c .sn))])
 (.seq (.reg [m 5 0,s 6 (.cvi .u8 5),f 7 (.bsl 1 1 [(.i .u8 0)] [(0,1,6)]),m 8 1,s 9 (.len 8),s 10 (.cvi .u64 9),c 11 (.call 115 [7,10,(k 4)]),m 12 1,e 13 (.app 1 1 11 12),m 4 13])
 .ret)) [.t 4]
def af57 : AFn := .code 26 (.seq (.reg [f 3 (.box 1),s 4 (.mv (k 0)),s 5 (.mv (.c .sn))])
 (.seq (.seq (.reg [s 10 (.ldn 5 3),c 11 (.call 116 [10]),m 9 11,s 12 (.ext 9 0),s 13 (.ext 9 1),m 6 12,m 7 13])
 (.seq (.reg [m 14 7,s 15 (.un .not 14)])
 (.cond 15 (.seq (.reg [s 4 (.mv (k 1)),s 5 (.mv (.c .sn))])
 .ret) .skip)))
 (.seq (.reg [c 16 (.call 117 []),f 8 (.alloc [.nf,.nf,.nf,.nf,.nf,.nf,.nf,.nf,.nf,.nf,.nf,.nf,.nf,.nf,.nf,.nf,.nf]),st 17 8 16])
 (.seq (.dreg 0 [.st 0 (s 17 (.fa 0 3)),
  .st 1 (s 18 (.ld1 17)),
  .st 2 (s 19 (.iaa 17 1 8 18)),
  .st 3 (s 20 (.ld1 19)),
  .st 4 (m 21 0),
  .st 5 (s 22 (.ldn 5 3)),
  .ef 6 (c 23 (.dyn 20 [21,22])) [] [],
  .st 7 (s 24 (.ext 23 0)),
  .st 8 (s 25 (.ext 23 1)),
  .st 9 (m 4 24),
  .st 10 (m 5 25)])
 .ret)))) [.t 4,.t 5]
def af58 : AFn := .code 32 (.seq (.reg [s 2 (.mv (k 0))])
 (.seq (.dreg 0 [.st 0 (m 6 0),
  .st 1 (s 7 (.nilc 6)),
  .st 2 (s 8 (.fa 0 7)),
  .st 3 (s 9 (.ld1 8)),
  .st 4 (m 10 0),
  .st 5 (s 11 (.nilc 10)),
  .st 6 (s 12 (.fa 2 11)),
  .st 7 (s 13 (.ld1 12)),
  .st 8 (m 14 0),
  .st 9 (s 15 (.nilc 14)),
  .st 10 (s 16 (.fa 3 15)),
  .st 11 (s 17 (.ld1 16)),
  .st 12 (m 18 0),
  .st 13 (s 19 (.nilc 18)),
  .st 14 (s 20 (.fa 4 19)),
  .st 15 (s 21 (.ld1 20)),
  .ef 16 (c 22 (.call 15 [9,13,17,21])) [] [],
  .st 17 (m 5 22),
  .st 18 (s 23 (.ext 5 0)),
  .st 19 (s 24 (.ext 5 1)),
  .st 20 (m 3 23),
  .st 21 (m 4 24)])
 (.seq (.seq (.reg [m 25 4,s 26 (.bin .eql 25 (k 0))])
 (.cond 26 (.reg [m 27 0,m 28 3,s 29 (.nilc 27),s 30 (.fa 1 29),st 1 30 28]) .skip))
 (.seq (.reg [m 31 4,m 2 31])
 .ret)))) [.t 2]
def af63 : AFn := .code 23 (.seq (.reg [f 1 (.box 0),s 2 (.mv (.c (.b false)))])
 (.seq (.reg [s 3 (.fa 0 1),s 4 (.ld1 3),s 5 (.bin .geq 4 (k 0)),m 6 5,sg 7 6 true (.fa 0 1),sg 8 6 true (.ld1 7),sg 9 6 true (.bin .leq 8 (k 12)),s 10 (.pick 6 9 (.c (.b false))),m 11 10,sg 12 11 true (.fa 1 1),sg 13 11 true (.fa 0 12),sg 14 11 true (.ld1 13),cg 15 11 true (.call 77 [14,(k 1073741824)]),s 16 (.pick 11 15 (.c (.b false))),m 17 16,sg 18 17 true (.fa 1 1),sg 19 17 true (.fa 1 18),sg 20 17 true (.ld1 19),cg 21 17 true (.call 77 [20,(k 1073741824)]),s 22 (.pick 17 21 (.c (.b false))),m 2 22])
 .ret)) [.t 2]
def af64 : AFn := .code 40 (.seq (.reg [f 1 (.box 0),f 2 (.alloc [(i 0),(i 0)]),f 3 (.alloc [(i 0),(i 0)])])
 (.seq (.reg [s 11 (.build [(i 0),(i 0)] [(0,1,(k 2)),(1,1,(k 1))]),c 12 (.call 36 [11]),m 10 12,s 13 (.ext 10 0),s 14 (.ext 10 1),f 4 (.alloc [(i 0),(i 0)]),st 2 4 13,m 5 14])
 (.seq (.reg [s 16 (.ldn 2 1),s 17 (.ldn 2 4),c 18 (.call 30 [16,17]),m 15 18,s 19 (.ext 15 0),s 20 (.ext 15 1),f 6 (.alloc [(i 0),(i 0)]),st 2 6 19,m 7 20])
 (.seq (.reg [s 22 (.ldn 2 6),c 23 (.call 38 [22,(k 7)]),m 21 23,s 24 (.ext 21 0),s 25 (.ext 21 1),st 2 2 24])
 (.seq (.reg [s 27 (.ldn 2 2),s 28 (.build [(i 0),(i 0)] [(0,1,(k 2)),(1,1,(k 1))]),c 29 (.call 30 [27,28]),m 26 29,s 30 (.ext 26 0),s 31 (.ext 26 1),f 8 (.alloc [(i 0),(i 0)]),st 2 8 30,m 9 31])
 (.seq (.reg [s 33 (.ldn 2 1),s 34 (.ldn 2 8),c 35 (.call 126 [33,34]),m 32 35,s 36 (.ext 32 0),s 37 (.ext 32 1),st 2 3 36])
 (.seq (.dreg 0 [.st 0 (s 38 (.ldn 2 2)),
  .st 1 (s 39 (.ldn 2 3)),
  .ef 2 (st 2 2 38) [] [s 39 (.ldn 2 3)],
  .ef 3 (st 2 3 39) [] []])
 .ret))))))) [.cn 2 2,.cn 3 2]
def af65 : AFn := .code 14 (.seq (.reg [f 1 (.box 0),s 2 (.mv (k 0))])
 (.seq (.seq (.reg [s 4 (.mv (k 0))])
 (.block 0 (.loop (.seq (.reg [s 5 (.bin .lss 4 (k 6))])
 (.seq (.cond 5 .skip (.exit 0))
 (.seq (.block 1 (.seq (.reg [m 6 4,m 3 6])
 (.seq (.dreg 0 [.st 0 (m 7 3),
  .st 2 (s 9 (.ldn 2 1)),
  .ef 1 (c 8 (.call 32 [7])) [] [s 9 (.ldn 2 1)],
  .st 3 (s 10 (.cmpA [.i64,.i64] false 8 9))])
 (.cond 10 (.seq (.reg [m 11 3,s 12 (.bin .add 11 (k 1)),m 2 12])
 .ret) .skip))))
 (.reg [s 13 (.bin .add 4 (k 1)),m 4 13])))))))
 (.seq (.reg [s 2 (.mv (k 0))])
 .ret))) [.t 2]
def af66 : AFn := .code 9 (.seq (.reg [s 2 (.mv (.c (.b false)))])
 (.seq (.reg [m 3 0,s 4 (.bin .geq 3 (.c (.i .i64 (-512)))),m 5 4,sg 6 5 true (.mv 0),sg 7 5 true (.bin .lss 6 (k 512)),s 8 (.pick 5 7 (.c (.b false))),m 2 8])
 .ret)) [.t 2]
def af67 : AFn := .code 25 (.seq (.reg [f 2 (.box 0),f 3 (.box 1),f 4 (.alloc [(i 0),(.i .u64 0)])])
 (.seq (.reg [s 8 (.fa 1 2),s 9 (.ld1 8),s 10 (.fa 1 3),s 11 (.ld1 10),c 12 (.call 127 [9,11,(.c (.i .u64 0))]),m 7 12,s 13 (.ext 7 0),s 14 (.ext 7 1),m 5 13,m 6 14])
 (.seq (.reg [s 15 (.fa 0 2),s 16 (.ld1 15),s 17 (.fa 0 3),s 18 (.ld1 17),s 19 (.bin .add 16 18),m 20 6,s 21 (.cvi .i64 20),s 22 (.bin .add 19 21),m 23 5,s 24 (.build [(i 0),(.i .u64 0)] [(0,1,22),(1,1,23)]),st 2 4 24])
 .ret))) [.cn 4 2]
def af68 : AFn := .code 31 (.seq (.reg [f 4 (.alloc [(i 0),(.i .u64 0)])])
 (.seq (.reg [m 9 0,s 10 (.cvi .u64 9),m 11 1,s 12 (.cvi .u64 11),c 13 (.call 128 [10,12]),m 8 13,s 14 (.ext 8 0),s 15 (.ext 8 1),m 5 14,m 6 15])
 (.seq (.reg [m 16 5,s 17 (.cvi .i64 16),m 7 17])
 (.seq (.seq (.reg [m 18 0,s 19 (.bin .lss 18 (k 0))])
 (.cond 19 (.reg [m 20 7,m 21 1,s 22 (.bin .sub 20 21),m 7 22]) .skip))
 (.seq (.seq (.reg [m 23 1,s 24 (.bin .lss 23 (k 0))])
 (.cond 24 (.reg [m 25 7,m 26 0,s 27 (.bin .sub 25 26),m 7 27]) .skip))
 (.seq (.reg [m 28 7,m 29 6,s 30 (.build [(i 0),(.i .u64 0)] [(0,1,28),(1,1,29)]),st 2 4 30])
 .ret)))))) [.cn 4 2]
def af69 : AFn := .code 25 (.seq (.reg [f 2 (.box 0),f 3 (.box 1),f 4 (.alloc [(i 0),(.i .u64 0)])])
 (.seq (.reg [s 8 (.fa 1 2),s 9 (.ld1 8),s 10 (.fa 1 3),s 11 (.ld1 10),c 12 (.call 129 [9,11,(.c (.i .u64 0))]),m 7 12,s 13 (.ext 7 0),s 14 (.ext 7 1),m 5 13,m 6 14])
 (.seq (.reg [s 15 (.fa 0 2),s 16 (.ld1 15),s 17 (.fa 0 3),s 18 (.ld1 17),s 19 (.bin .sub 16 18),m 20 6,s 21 (.cvi .i64 20),s 22 (.bin .sub 19 21),m 23 5,s 24 (.build [(i 0),(.i .u64 0)] [(0,1,22),(1,1,23)]),st 2 4 24])
 .ret))) [.cn 4 2]
def af70 : AFn := .code 25 (.seq (.reg [f 1 (.box 0),s 2 (.mv (k 0)),s 3 (.mv (.c (.b false)))])
 (.seq (.reg [s 5 (.fa 1 1),s 6 (.ld1 5),s 7 (.cvi .i64 6),m 4 7])
 (.seq (.seq (.reg [m 8 4,s 9 (.bin .lss 8 (k 0)),m 10 9,sg 11 10 true (.fa 0 1),sg 12 10 true (.ld1 11),sg 13 10 true (.bin .eql 12 (.c (.i .i64 (-1)))),s 14 (.pick 10 13 (.c (.b false))),m 15 14,sg 16 15 false (.mv 4),sg 17 15 false (.bin .geq 16 (k 0)),sg 18 15 false (.mv 17),sg 19 18 true (.fa 0 1),sg 20 18 true (.ld1 19),sg 21 18 true (.bin .eql 20 (k 0)),sg 22 15 false (.pick 18 21 (.c (.b false))),s 23 (.pick 15 (.c (.b true)) 22)])
 (.cond 23 (.seq (.reg [m 24 4,m 2 24,s 3 (.mv (.c (.b true)))])
 .ret) .skip))
 (.seq (.reg [s 2 (.mv (k 0)),s 3 (.mv (.c (.b false)))])
 .ret)))) [.t 2,.t 3]
def af71 : AFn := .code 20 (.seq (.reg [f 8 (.alloc [(i 0),(i 0)]),s 9 (.mv (.c (.b false)))])
 (.seq (.seq (.reg [m 10 1,s 11 (.un .not 10),m 12 11,sg 13 12 false (.mv 3),sg 14 12 false (.un .not 13),s 15 (.pick 12 (.c (.b true)) 14)])
 (.cond 15 (.seq (.reg [s 16 (.build [(i 0),(i 0)] []),st 2 8 16,s 9 (.mv (.c (.b false)))])
 .ret) .skip))
 (.seq (.reg [m 17 0,m 18 2,s 19 (.build [(i 0),(i 0)] [(0,1,17),(1,1,18)]),st 2 8 19,s 9 (.mv (.c (.b true)))])
 .ret))) [.cn 8 2,.t 9]
def af72 : AFn := .code 37 (.seq (.reg [f 3 (.box 0),f 4 (.box 1),f 6 (.alloc [(i 0),(i 0)]),s 7 (.mv (.c (.b false)))])
 (.seq (.reg [m 13 2,s 14 (.fa 0 3),s 15 (.ld1 14),s 16 (.fa 0 4),s 17 (.ld1 16),c 18 (.dyn 13 [15,17]),m 12 18,s 19 (.ext 12 0),s 20 (.ext 12 1),m 8 19,m 9 20])
 (.seq (.reg [m 22 2,s 23 (.fa 1 3),s 24 (.ld1 23),s 25 (.fa 1 4),s 26 (.ld1 25),c 27 (.dyn 22 [24,26]),m 21 27,s 28 (.ext 21 0),s 29 (.ext 21 1),m 10 28,m 11 29])
 (.seq (.reg [m 30 8,m 31 9,m 32 10,m 33 11,c 34 (.call 71 [30,31,32,33]),s 35 (.ext 34 0),s 36 (.ext 34 1),st 2 6 35,m 7 36])
 .ret)))) [.cn 6 2,.t 7]
def af73 : AFn := .code 21 (.seq (.reg [s 4 (.mv (k 0)),s 5 (.mv (.c (.b false)))])
 (.seq (.reg [m 7 0,m 8 1,s 9 (.bin .add 7 8),m 6 9])
 (.seq (.seq (.reg [m 10 6,m 11 0,s 12 (.bin .gtr 10 11),m 13 1,s 14 (.bin .gtr 13 (k 0)),s 15 (.eqb true 12 14),m 16 15,sg 17 16 true (.mv 1),sg 18 16 true (.bin .neq 17 (k 0)),s 19 (.pick 16 18 (.c (.b false)))])
 (.cond 19 (.seq (.reg [s 4 (.mv (k 0)),s 5 (.mv (.c (.b false)))])
 .ret) .skip))
 (.seq (.reg [m 20 6,m 4 20,s 5 (.mv (.c (.b true)))])
 .ret)))) [.t 4,.t 5]
def af74 : AFn := .code 8 (.seq (.reg [s 2 (.mv (k 0)),s 3 (.mv (.c (.b false)))])
 (.seq (.reg [m 4 0,c 5 (.call 130 [(k 0),4]),s 6 (.ext 5 0),s 7 (.ext 5 1),m 2 6,m 3 7])
 .ret)) [.t 2,.t 3]
def af75 : AFn := .code 9 (.reg [s 4 (.ld1 0),s 5 (.ld1 1),c 6 (.call 76 [4,5]),m 3 6,s 7 (.ext 3 0),s 8 (.ext 3 1),st 1 0 7,st 1 2 8]) []
def af76 : AFn := .code 44 (.seq (.reg [s 4 (.mv (k 0)),s 5 (.mv (.c (.b false)))])
 (.seq (.reg [m 10 0,c 11 (.call 131 [10]),m 12 1,c 13 (.call 131 [12]),c 14 (.call 128 [11,13]),m 9 14,s 15 (.ext 9 0),s 16 (.ext 9 1),m 6 15,m 7 16])
 (.seq (.reg [m 17 0,s 18 (.bin .lss 17 (k 0)),m 19 1,s 20 (.bin .lss 19 (k 0)),s 21 (.eqb true 18 20),m 8 21])
 (.seq (.block 0 (.seq (.reg [m 23 6,s 24 (.bin .neq 23 (.c (.i .u64 0))),m 25 24,sg 26 25 false (.mv 7),sg 27 25 false (.bin .gtr 26 (.c (.i .u64 9223372036854775808))),s 28 (.pick 25 (.c (.b true)) 27),m 29 28,sg 30 29 false (.mv 7),sg 31 29 false (.bin .eql 30 (.c (.i .u64 9223372036854775808))),sg 32 29 false (.mv 31),sg 33 32 true (.mv 8),sg 34 32 true (.un .not 33),sg 35 29 false (.pick 32 34 (.c (.b false))),s 36 (.pick 29 (.c (.b true)) 35),m 22 36])
 (.cond 22 (.seq (.reg [s 4 (.mv (k 0)),s 5 (.mv (.c (.b false)))])
 .ret) (.seq (.reg [m 38 8,m 37 38])
 (.cond 37 (.seq (.reg [m 39 7,s 40 (.cvi .i64 39),s 41 (.un .neg 40),m 4 41,s 5 (.mv (.c (.b true)))])
 .ret) .skip)))))
 (.seq (.reg [m 42 7,s 43 (.cvi .i64 42),m 4 43,s 5 (.mv (.c (.b true)))])
 .ret))))) [.t 4,.t 5]
def af77 : AFn := .code 18 (.seq (.reg [s 4 (.mv (.c (.b false)))])
 (.seq (.reg [m 5 0,m 6 1,s 7 (.un .neg 6),s 8 (.bin .geq 5 7),m 9 8,sg 10 9 true (.mv 0),sg 11 9 true (.mv 1),sg 12 9 true (.bin .leq 10 11),s 13 (.pick 9 12 (.c (.b false))),m 14 13,sg 15 14 true (.mv 0),sg 16 14 true (.bin .neq 15 (.c (.i .i64 (-9223372036854775808)))),s 17 (.pick 14 16 (.c (.b false))),m 4 17])
 .ret)) [.t 4]
def af78 : AFn := .code 24 (.seq (.reg [s 4 (.mv (k 0)),s 5 (.mv (k 0)),s 6 (.mv (.c (.b false)))])
 (.seq (.seq (.reg [m 7 1,s 8 (.bin .leq 7 (k 0))])
 (.cond 8 (.seq (.reg [s 4 (.mv (k 0)),s 5 (.mv (k 0)),s 6 (.mv (.c (.b false)))])
 .ret) .skip))
 (.seq (.dreg 0 [.st 0 (m 9 0),
  .st 1 (m 10 1),
  .st 2 (s 11 (.bin .quo 9 10)),
  .st 3 (m 12 0),
  .st 4 (m 13 1),
  .st 5 (s 14 (.bin .rem 12 13)),
  .st 6 (m 4 11),
  .st 7 (m 5 14)])
 (.seq (.seq (.reg [m 15 5,s 16 (.bin .lss 15 (k 0))])
 (.cond 16 (.reg [m 17 4,s 18 (.bin .sub 17 (k 1)),m 19 5,m 20 1,s 21 (.bin .add 19 20),m 4 18,m 5 21]) .skip))
 (.seq (.reg [m 22 4,m 23 5,m 4 22,m 5 23,s 6 (.mv (.c (.b true)))])
 .ret))))) [.t 4,.t 5,.t 6]
def af79 : AFn := .code 55 (.seq (.reg [f 2 (.box 0),s 4 (.mv (.c (.b false)))])
 (.seq (.seq (.reg [s 10 (.mv (k 0))])
 (.block 0 (.loop (.seq (.reg [s 11 (.bin .lss 10 (k 2))])
 (.seq (.cond 11 .skip (.exit 0))
 (.seq (.block 1 (.seq (.reg [m 12 10,m 5 12])
 (.seq (.dreg 0 [.st 0 (m 13 1),
  .st 1 (m 14 5),
  .st 2 (s 15 (.ia 2 13 (k 0))),
  .st 3 (s 16 (.iaa 2 1 15 14)),
  .st 4 (s 17 (.ld1 16)),
  .st 5 (m 18 1),
  .st 6 (m 19 5),
  .st 7 (s 20 (.ia 2 18 (k 0))),
  .st 8 (s 21 (.iaa 2 1 20 19)),
  .st 9 (s 22 (.ld1 21)),
  .st 10 (m 6 17),
  .st 11 (m 7 22)])
 (.seq (.seq (.reg [m 23 1,s 24 (.len 23),s 25 (.mv (k 0))])
 (.block 2 (.loop (.seq (.reg [s 26 (.bin .lss 25 24)])
 (.seq (.cond 26 .skip (.exit 2))
 (.seq (.block 3 (.seq (.reg [s 27 (.ia 2 23 25),s 28 (.ldn 2 27),f 9 (.alloc [(i 0),(i 0)]),st 2 9 28])
 (.dreg 0 [.st 0 (m 29 6),
  .st 1 (m 30 5),
  .st 2 (s 31 (.iaa 2 1 9 30)),
  .st 3 (s 32 (.ld1 31)),
  .st 4 (s 33 (.mn 29 32)),
  .st 5 (m 34 7),
  .st 6 (m 35 5),
  .st 7 (s 36 (.iaa 2 1 9 35)),
  .st 8 (s 37 (.ld1 36)),
  .st 9 (s 38 (.mx 34 37)),
  .st 10 (m 6 33),
  .st 11 (m 7 38)])))
 (.reg [s 39 (.bin .add 25 (k 1)),m 25 39])))))))
 (.seq (.reg [m 40 7,m 41 5,s 42 (.fa 0 2),s 43 (.iaa 2 1 42 41),s 44 (.ld1 43),s 45 (.bin .lss 40 44),m 46 45,sg 47 46 false (.mv 6),sg 48 46 false (.mv 5),sg 49 46 false (.fa 2 2),sg 50 46 false (.iaa 2 1 49 48),sg 51 46 false (.ld1 50),sg 52 46 false (.bin .gtr 47 51),s 53 (.pick 46 (.c (.b true)) 52)])
 (.cond 53 (.seq (.reg [s 4 (.mv (.c (.b true)))])
 .ret) .skip))))))
 (.reg [s 54 (.bin .add 10 (k 1)),m 10 54])))))))
 (.seq (.reg [s 4 (.mv (.c (.b false)))])
 .ret))) [.t 4]
def af80 : AFn := .code 41 (.seq (.reg [f 3 (.box 0),f 4 (.box 1),f 5 (.box 2),s 6 (.mv (.c (.b false)))])
 (.seq (.seq (.reg [s 9 (.ldn 4 3),c 10 (.call 132 [9]),s 11 (.len 10),s 12 (.mv (k 0))])
 (.block 0 (.loop (.seq (.reg [s 13 (.bin .lss 12 11)])
 (.seq (.cond 13 .skip (.exit 0))
 (.seq (.block 1 (.seq (.reg [s 14 (.ia 2 10 12),s 15 (.ldn 2 14),f 8 (.alloc [(i 0),(i 0)]),st 2 8 15])
 (.seq (.reg [s 16 (.iaa 2 1 5 (k 0)),s 17 (.ld1 16),s 18 (.iaa 2 1 4 (k 0)),s 19 (.ld1 18),s 20 (.bin .sub 17 19),s 21 (.iaa 2 1 8 (k 1)),s 22 (.ld1 21),s 23 (.iaa 2 1 4 (k 1)),s 24 (.ld1 23),s 25 (.bin .sub 22 24),s 26 (.bin .mul 20 25),s 27 (.iaa 2 1 5 (k 1)),s 28 (.ld1 27),s 29 (.iaa 2 1 4 (k 1)),s 30 (.ld1 29),s 31 (.bin .sub 28 30),s 32 (.iaa 2 1 8 (k 0)),s 33 (.ld1 32),s 34 (.iaa 2 1 4 (k 0)),s 35 (.ld1 34),s 36 (.bin .sub 33 35),s 37 (.bin .mul 31 36),s 38 (.bin .sub 26 37),s 39 (.bin .geq 38 (k 0))])
 (.cond 39 (.seq (.reg [s 6 (.mv (.c (.b false)))])
 .ret) .skip))))
 (.reg [s 40 (.bin .add 12 (k 1)),m 12 40])))))))
 (.seq (.reg [s 6 (.mv (.c (.b true)))])
 .ret))) [.t 6]
def af81 : AFn := .code 12 (.seq (.reg [m 4 0,m 5 1,c 6 (.inv 4 "Push" [5])])
 (.reg [m 7 0,m 8 0,c 9 (.inv 8 "Len" []),s 10 (.bin .sub 9 (k 1)),c 11 (.call 133 [7,10])])) []
def af83 : AFn := .code 134 (.seq (.reg [s 8 (.mv (.c (.b true)))])
 (.seq (.reg [s 9 (.mv (.c (.b true)))])
 (.block 0 (.loop (.block 1 (.seq (.reg [m 19 2,m 20 1,s 21 (.bin .sub 19 20),m 10 21])
 (.seq (.seq (.reg [m 22 10,s 23 (.bin .leq 22 (k 12))])
 (.cond 23 (.seq (.reg [m 24 0,m 25 1,m 26 2,c 27 (.call 134 [24,25,26])])
 .ret) .skip))
 (.seq (.seq (.reg [m 28 3,s 29 (.bin .eql 28 (k 0))])
 (.cond 29 (.seq (.reg [m 30 0,m 31 1,m 32 2,c 33 (.call 135 [30,31,32])])
 .ret) .skip))
 (.seq (.seq (.reg [m 34 8,s 35 (.un .not 34)])
 (.cond 35 (.seq (.reg [m 36 0,m 37 1,m 38 2,c 39 (.call 136 [36,37,38])])
 (.reg [m 40 3,s 41 (.bin .sub 40 (k 1)),m 3 41])) .skip))
 (.seq (.reg [m 43 0,m 44 1,m 45 2,c 46 (.call 137 [43,44,45]),m 42 46,s 47 (.ext 42 0),s 48 (.ext 42 1),m 11 47,m 12 48])
 (.seq (.seq (.reg [m 49 12,s 50 (.bin .eql 49 (k 2))])
 (.cond 50 (.seq (.reg [m 51 0,m 52 1,m 53 2,c 54 (.call 138 [51,52,53])])
 (.seq (.reg [m 55 2,s 56 (.bin .sub 55 (k 1)),m 57 11,m 58 1,s 59 (.bin .sub 57 58),s 60 (.bin .sub 56 59),m 11 60])
 (.reg [s 12 (.mv (k 1))]))) .skip))
 (.seq (.seq (.reg [m 61 8,m 62 61,sg 63 62 true (.mv 9),s 64 (.pick 62 63 (.c (.b false))),m 65 64,sg 66 65 true (.mv 12),sg 67 65 true (.bin .eql 66 (k 1)),s 68 (.pick 65 67 (.c (.b false)))])
 (.cond 68 (.seq (.reg [m 69 0,m 70 1,m 71 2,c 72 (.call 139 [69,70,71])])
 (.cond 72 .ret .skip)) .skip))
 (.seq (.seq (.dreg 0 [.st 0 (m 73 1),
  .st 1 (s 74 (.bin .gtr 73 (k 0))),
  .st 2 (m 75 74),
  .st 3 (sg 76 75 true (.mv 0)),
  .st 4 (sg 77 75 true (.mv 1)),
  .st 5 (sg 78 75 true (.bin .sub 77 (k 1))),
  .st 6 (sg 79 75 true (.ia 1 76 78)),
  .st 7 (sg 80 75 true (.ld1 79)),
  .st 8 (sg 81 75 true (.mv 0)),
  .st 9 (sg 82 75 true (.mv 11)),
  .st 10 (sg 83 75 true (.ia 1 81 82)),
  .st 11 (sg 84 75 true (.ld1 83)),
  .ef 12 (cg 85 75 true (.call 140 [80,84])) [] [],
  .st 13 (sg 86 75 true (.un .not 85)),
  .st 14 (s 87 (.pick 75 86 (.c (.b false))))])
 (.cond 87 (.seq (.reg [m 88 0,m 89 1,m 90 2,m 91 11,c 92 (.call 141 [88,89,90,91]),m 13 92])
 (.seq (.reg [m 93 13,m 1 93])
 (.exit 1))) .skip))
 (.seq (.reg [m 95 0,m 96 1,m 97 2,m 98 11,c 99 (.call 142 [95,96,97,98]),m 94 99,s 100 (.ext 94 0),s 101 (.ext 94 1),m 14 100,m 15 101])
 (.seq (.reg [m 102 15,m 9 102])
 (.seq (.reg [m 103 14,m 104 1,s 105 (.bin .sub 103 104),m 106 2,m 107 14,s 108 (.bin .sub 106 107),m 16 105,m 17 108])
 (.seq (.reg [m 109 10,s 110 (.bin .quo 109 (k 8)),m 18 110])
 (.seq (.reg [m 111 16,m 112 17,s 113 (.bin .lss 111 112)])
 (.cond 113 (.seq (.reg [m 114 16,m 115 18,s 116 (.bin .geq 114 115),m 8 116])
 (.seq (.reg [m 117 0,m 118 1,m 119 14,m 120 3,c 121 (.call 83 [117,118,119,120])])
 (.reg [m 122 14,s 123 (.bin .add 122 (k 1)),m 1 123]))) (.seq (.reg [m 124 17,m 125 18,s 126 (.bin .geq 124 125),m 8 126])
 (.seq (.reg [m 127 0,m 128 14,s 129 (.bin .add 128 (k 1)),m 130 2,m 131 3,c 132 (.call 83 [127,129,130,131])])
 (.reg [m 133 14,m 2 133])))))))))))))))))))))) []
def af84 : AFn := .code 8 (.seq (.reg [s 2 (.mv (k 0))])
 (.seq (.cond (.c (.b false)) (.seq (.reg [m 3 0,s 4 (.cvi .u32 3),c 5 (.call 143 [4]),m 2 5])
 .ret) .skip)
 (.seq (.reg [m 6 0,c 7 (.call 144 [6]),m 2 7])
 .ret))) [.t 2]
def af85 : AFn := .code 45 (.seq (.reg [f 3 (.box 0),f 6 (.alloc [(i 0),(i 0)]),s 7 (.mv (.c (.b false)))])
 (.seq (.seq (.reg [m 10 1,c 11 (.call 34 [10]),s 12 (.un .not 11),m 13 12,sg 14 13 false (.fa 0 3),sg 15 13 false (.ld1 14),cg 16 13 false (.call 77 [15,(k 1073741824)]),sg 17 13 false (.un .not 16),s 18 (.pick 13 (.c (.b true)) 17),m 19 18,sg 20 19 false (.fa 1 3),sg 21 19 false (.ld1 20),cg 22 19 false (.call 77 [21,(k 1073741824)]),sg 23 19 false (.un .not 22),s 24 (.pick 19 (.c (.b true)) 23)])
 (.cond 24 (.seq (.reg [s 25 (.build [(i 0),(i 0)] []),st 2 6 25,s 7 (.mv (.c (.b false)))])
 .ret) .skip))
 (.seq (.reg [m 27 1,s 28 (.bin .sub (k 12) 27),c 29 (.call 35 [28]),m 26 29,s 30 (.ext 26 0),s 31 (.ext 26 1),f 8 (.alloc [(i 0),(i 0)]),st 2 8 30,m 9 31])
 (.seq (.reg [s 32 (.ldn 2 8),m 33 2,s 34 (.fa 0 3),s 35 (.ld1 34),s 36 (.bin .mul 33 35),m 37 2,s 38 (.fa 1 3),s 39 (.ld1 38),s 40 (.bin .mul 37 39),s 41 (.build [(i 0),(i 0)] [(0,1,36),(1,1,40)]),c 42 (.call 30 [32,41]),s 43 (.ext 42 0),s 44 (.ext 42 1),st 2 6 43,m 7 44])
 .ret)))) [.cn 6 2,.t 7]
def af86 : AFn := .code 25 (.seq (.reg [f 2 (.box 0),f 3 (.box 1),f 4 (.alloc [(i 0),(i 0)])])
 (.seq (.reg [s 10 (.fa 2 2),s 11 (.ldn 2 10),s 12 (.ldn 2 3),c 13 (.call 30 [11,12]),m 9 13,s 14 (.ext 9 0),s 15 (.ext 9 1),f 5 (.alloc [(i 0),(i 0)]),st 2 5 14,m 6 15])
 (.seq (.reg [s 17 (.fa 0 2),s 18 (.ldn 2 17),s 19 (.ldn 2 5),c 20 (.call 31 [18,19]),m 16 20,s 21 (.ext 16 0),s 22 (.ext 16 1),f 7 (.alloc [(i 0),(i 0)]),st 2 7 21,m 8 22])
 (.seq (.reg [s 23 (.ldn 2 7),c 24 (.call 145 [23]),st 2 4 24])
 .ret)))) [.cn 4 2]
def af87 : AFn := .code 32 (.seq (.reg [f 2 (.box 0),s 4 (.mv (.c .sn))])
 (.seq (.reg [s 5 (.mv (.c .sn))])
 (.seq (.reg [m 8 1,s 9 (.fa 3 2),s 10 (.ld1 9),c 11 (.call 146 [8,10]),m 6 11])
 (.seq (.seq (.reg [s 7 (.mv (k 0))])
 (.block 0 (.loop (.seq (.seq (.reg [m 12 7,m 13 6,s 14 (.len 13),s 15 (.bin .lss 12 14)])
 (.cond 15 .skip (.exit 0)))
 (.seq (.block 1 (.seq (.dreg 0 [.st 0 (s 18 (.ldn 4 2)),
  .st 1 (m 19 6),
  .st 2 (m 20 7),
  .st 3 (s 21 (.ia 1 19 20)),
  .st 4 (s 22 (.ld1 21)),
  .ef 5 (c 23 (.call 147 [18,22])) [] []])
 (.cond 23 (.reg [m 24 5,m 25 6,m 26 7,s 27 (.ia 1 25 26),s 28 (.ld1 27),f 29 (.bsl 1 1 [(.i .u64 0)] [(0,1,28)]),e 30 (.app 1 8 24 29),m 5 30]) .skip)))
 (.reg [m 16 7,s 17 (.bin .add 16 (k 1)),m 7 17]))))))
 (.seq (.reg [m 31 5,m 4 31])
 .ret))))) [.t 4]
def af88 : AFn := .code 76 (.seq (.reg [f 4 (.alloc [(.i .u64 0),(i 0),(i 0),(i 0),(i 0)]),s 5 (.mv (.c (.b false)))])
 (.seq (.reg [s 11 (.build [(.i .u64 0),(i 0),(i 0),(i 0),(i 0)] []),f 6 (.alloc [(.i .u64 0),(i 0),(i 0),(i 0),(i 0)]),st 5 6 11])
 (.seq (.reg [m 13 1,c 14 (.call 148 [13]),m 12 14,s 15 (.ext 12 0),s 16 (.ext 12 1),f 7 (.alloc [(i 0),(i 0),(i 0)]),st 3 7 15,m 8 16])
 (.seq (.seq (.reg [m 17 8,s 18 (.bin .neq 17 (k 0))])
 (.cond 18 (.seq (.reg [s 19 (.ldn 5 6),st 5 4 19,s 5 (.mv (.c (.b false)))])
 .ret) .skip))
 (.seq (.seq (.reg [s 9 (.mv (k 0))])
 (.block 0 (.loop (.seq (.seq (.reg [m 20 9,m 21 0,s 22 (.len 21),s 23 (.bin .lss 20 22)])
 (.cond 23 .skip (.exit 0)))
 (.seq (.block 1 (.seq (.seq (.dreg 0 [.st 0 (m 26 0),
  .st 1 (m 27 9),
  .st 2 (s 28 (.ia 4 26 27)),
  .st 3 (s 29 (.fa 1 28)),
  .st 4 (s 30 (.ld1 29)),
  .st 5 (m 31 0),
  .st 6 (m 32 9),
  .st 7 (s 33 (.ia 4 31 32)),
  .st 8 (s 34 (.fa 2 33)),
  .st 9 (s 35 (.ld1 34)),
  .st 10 (s 36 (.fa 0 7)),
  .st 11 (s 37 (.ld1 36)),
  .st 13 (m 39 1),
  .ef 12 (c 38 (.call 21 [30,35,37])) [] [],
  .st 14 (s 40 (.bin .neq 38 39))])
 (.cond 40 (.exit 1) .skip))
 (.seq (.reg [m 41 0,m 42 9,s 43 (.ia 4 41 42),s 44 (.fa 3 43),s 45 (.ld1 44),m 10 45])
 (.seq (.seq (.reg [s 46 (.fa 1 6),s 47 (.ld1 46),s 48 (.bin .eql 47 (k 0))])
 (.cond 48 (.reg [m 49 1,m 50 10,m 51 10,s 52 (.build [(.i .u64 0),(i 0),(i 0),(i 0),(i 0)] [(0,1,49),(3,1,50),(4,1,51)]),st 5 6 52]) .skip))
 (.reg [s 53 (.fa 1 6),s 54 (.ld1 53),s 55 (.bin .add 54 (k 1)),s 56 (.fa 2 6),s 57 (.ld1 56),m 58 10,s 59 (.bin .add 57 58),s 60 (.fa 3 6),s 61 (.ld1 60),m 62 10,s 63 (.mn 61 62),s 64 (.fa 4 6),s 65 (.ld1 64),m 66 10,s 67 (.mx 65 66),s 68 (.fa 1 6),st 1 68 55,s 69 (.fa 2 6),st 1 69 59,s 70 (.fa 3 6),st 1 70 63,s 71 (.fa 4 6),st 1 71 67])))))
 (.reg [m 24 9,s 25 (.bin .add 24 (k 1)),m 9 25]))))))
 (.seq (.dreg 0 [.st 0 (s 72 (.ldn 5 6)),
  .st 1 (s 73 (.fa 1 6)),
  .st 2 (s 74 (.ld1 73)),
  .st 3 (s 75 (.bin .gtr 74 (k 0))),
  .ef 4 (st 5 4 72) [] [s 74 (.ld1 73)],
  .st 5 (m 5 75)])
 .ret)))))) [.cn 4 5,.t 5]
def af89 : AFn := .code 81 (.seq (.reg [f 2 (.box 0),s 4 (.mv (.c .sn))])
 (.seq (.seq (.reg [s 14 (.ldn 4 2),m 15 1,c 16 (.call 147 [14,15]),s 17 (.un .not 16)])
 (.cond 17 (.seq (.reg [s 4 (.mv (.c .sn))])
 .ret) .skip))
 (.seq (.reg [m 19 1,c 20 (.call 148 [19]),m 18 20,s 21 (.ext 18 0),s 22 (.ext 18 1),f 5 (.alloc [(i 0),(i 0),(i 0)]),st 3 5 21,m 6 22])
 (.seq (.reg [s 24 (.ldn 4 2),c 25 (.call 149 [24]),m 23 25,s 26 (.ext 23 0),s 27 (.ext 23 1),s 28 (.ext 23 2),m 7 26,m 8 27,m 9 28])
 (.seq (.reg [s 29 (.fa 1 5),s 30 (.ldn 2 29),s 31 (.fa 0 5),s 32 (.ld1 31),c 33 (.call 150 [30,32]),m 10 33])
 (.seq (.seq (.reg [s 11 (.mv (k 0))])
 (.block 0 (.loop (.seq (.seq (.reg [m 34 11,m 35 10,s 36 (.len 35),s 37 (.bin .lss 34 36)])
 (.cond 37 .skip (.exit 0)))
 (.seq (.block 1 (.dreg 0 [.st 0 (m 40 10),
  .st 1 (m 41 11),
  .st 2 (m 42 10),
  .st 3 (m 43 11),
  .st 4 (s 44 (.ia 2 42 43)),
  .st 5 (s 45 (.iaa 2 1 44 (k 0))),
  .st 6 (s 46 (.ld1 45)),
  .st 7 (m 47 7),
  .st 8 (s 48 (.bin .mul (k 3) 47)),
  .st 9 (s 49 (.bin .sub 46 48)),
  .st 10 (m 50 10),
  .st 11 (m 51 11),
  .st 12 (s 52 (.ia 2 50 51)),
  .st 13 (s 53 (.iaa 2 1 52 (k 1))),
  .st 14 (s 54 (.ld1 53)),
  .st 15 (m 55 8),
  .st 16 (s 56 (.bin .mul (k 3) 55)),
  .st 17 (s 57 (.bin .sub 54 56)),
  .st 18 (s 58 (.build [(i 0),(i 0)] [(0,1,49),(1,1,57)])),
  .st 19 (s 59 (.ia 2 40 41)),
  .ef 20 (st 2 59 58) [] []]))
 (.reg [m 38 11,s 39 (.bin .add 38 (k 1)),m 11 39]))))))
 (.seq (.reg [s 60 (.fa 0 2),s 61 (.ld1 60),s 62 (.bin .sub (k 18) 61),c 63 (.call 151 [62]),m 12 63])
 (.seq (.reg [m 64 10,m 65 12,s 66 (.bin .mul (.c (.i .i64 (-192))) 65),m 67 12,s 68 (.bin .mul (.c (.i .i64 (-192))) 67),s 69 (.build [(i 0),(i 0)] [(0,1,66),(1,1,68)]),m 70 12,s 71 (.bin .mul (k 12480) 70),m 72 12,s 73 (.bin .mul (k 12480) 72),s 74 (.build [(i 0),(i 0)] [(0,1,71),(1,1,73)]),c 75 (.call 152 [64,69,74]),m 13 75])
 (.seq (.reg [m 76 13,m 77 12,s 78 (.bin .mul (k 3) 77),c 79 (.call 154 [76,78]),c 80 (.call 153 [79]),m 4 80])
 .ret))))))))) [.t 4]
def af90 : AFn := .code 88 (.seq (.reg [s 2 (.mv (.c (.s [])))])
 (.seq (.seq (.reg [m 8 0,s 9 (.len 8),s 10 (.bin .eql 9 (k 0))])
 (.cond 10 (.seq (.reg [s 2 (.mv (.c (.s [])))])
 .ret) .skip))
 (.seq (.reg [c 11 (.call 155 [(k 15),(.c (.i .u64 2))]),c 12 (.call 156 [(k 1),(.c (.s [99,101,108,108,115]))]),s 13 (.bin .add 11 12),m 3 13])
 (.seq (.seq (.reg [s 4 (.mv (k 0))])
 (.block 0 (.loop (.seq (.seq (.reg [m 14 4,m 15 0,s 16 (.len 15),s 17 (.bin .lss 14 16)])
 (.cond 17 .skip (.exit 0)))
 (.seq (.block 1 (.dreg 0 [.st 0 (m 20 3),
  .st 1 (m 21 0),
  .st 2 (m 22 4),
  .st 3 (s 23 (.ia 6 21 22)),
  .st 4 (s 24 (.fa 0 23)),
  .st 5 (s 25 (.ld1 24)),
  .st 6 (m 26 0),
  .st 7 (m 27 4),
  .st 8 (s 28 (.ia 6 26 27)),
  .st 9 (s 29 (.fa 1 28)),
  .st 10 (s 30 (.ld1 29)),
  .st 11 (m 31 4),
  .st 12 (s 32 (.bin .mul (k 4) 31)),
  .ef 13 (c 33 (.call 157 [25,30,32])) [] [],
  .ef 14 (c 34 (.call 156 [(k 2),33])) [] [],
  .st 15 (s 35 (.bin .add 20 34)),
  .st 16 (m 3 35)]))
 (.reg [m 18 4,s 19 (.bin .add 18 (k 1)),m 4 19]))))))
 (.seq (.reg [m 36 3,c 37 (.call 156 [(k 3),(.c (.s [99,111,117,110,116]))]),s 38 (.bin .add 36 37),c 39 (.call 156 [(k 3),(.c (.s [115,117,109]))]),s 40 (.bin .add 38 39),c 41 (.call 156 [(k 3),(.c (.s [109,105,110]))]),s 42 (.bin .add 40 41),c 43 (.call 156 [(k 3),(.c (.s [109,97,120]))]),s 44 (.bin .add 42 43),m 3 44])
 (.seq (.seq (.reg [s 5 (.mv (k 0))])
 (.block 2 (.loop (.seq (.seq (.reg [m 45 5,m 46 0,s 47 (.len 46),s 48 (.bin .lss 45 47)])
 (.cond 48 .skip (.exit 2)))
 (.seq (.block 3 (.seq (.dreg 1 [.st 0 (m 51 0),
  .st 1 (m 52 5),
  .st 2 (s 53 (.ia 6 51 52)),
  .st 3 (s 54 (.fa 2 53)),
  .st 4 (s 55 (.ld1 54)),
  .st 5 (m 56 0),
  .st 6 (m 57 5),
  .st 7 (s 58 (.ia 6 56 57)),
  .st 8 (s 59 (.fa 3 58)),
  .st 9 (s 60 (.ld1 59)),
  .st 10 (m 61 0),
  .st 11 (m 62 5),
  .st 12 (s 63 (.ia 6 61 62)),
  .st 13 (s 64 (.fa 4 63)),
  .st 14 (s 65 (.ld1 64)),
  .st 15 (m 66 0),
  .st 16 (m 67 5),
  .st 17 (s 68 (.ia 6 66 67)),
  .st 18 (s 69 (.fa 5 68)),
  .st 19 (s 70 (.ld1 69)),
  .st 20 (s 71 (.build [(i 0),(i 0),(i 0),(i 0)] [(0,1,55),(1,1,60),(2,1,65),(3,1,70)])),
  .fl 21 (f 6 (.alloc [(i 0),(i 0),(i 0),(i 0)])) 0,
  .ef 22 (st 4 6 71) [0] []])
 (.seq (.reg [s 7 (.mv (k 0))])
 (.block 4 (.loop (.seq (.seq (.reg [m 72 7,s 73 (.bin .lss 72 (k 4))])
 (.cond 73 .skip (.exit 4)))
 (.seq (.block 5 (.reg [m 76 3,m 77 7,s 78 (.iaa 4 1 6 77),s 79 (.ld1 78),c 80 (.call 158 [79]),c 81 (.call 155 [(k 6),80]),c 82 (.call 156 [(k 4),81]),s 83 (.bin .add 76 82),m 3 83]))
 (.reg [m 74 7,s 75 (.bin .add 74 (k 1)),m 7 75]))))))))
 (.reg [m 49 5,s 50 (.bin .add 49 (k 1)),m 5 50]))))))
 (.seq (.reg [m 84 3,c 85 (.call 155 [(k 5),(.c (.i .u64 4096))]),s 86 (.bin .add 84 85),c 87 (.call 156 [(k 3),86]),m 2 87])
 .ret))))))) [.t 2]
def af91 : AFn := .code 8 (.seq (.reg [s 2 (.mv (k 0))])
 (.seq (.reg [m 3 0,s 4 (.nilc 3),s 5 (.fa 0 4),s 6 (.ld1 5),s 7 (.len 6),m 2 7])
 .ret)) [.t 2]
def af92 : AFn := .code 93 (.seq (.reg [f 6 (.alloc [(.i .u64 0),(.i .u64 0),.sn]),s 7 (.mv (.c (.b false))),s 8 (.mv (k 0))])
 (.seq (.seq (.reg [m 17 0,m 18 1,m 19 2,c 20 (.call 159 [17,18,19]),s 21 (.un .not 20)])
 (.cond 21 (.seq (.reg [s 22 (.build [(.i .u64 0),(.i .u64 0),.sn] []),st 3 6 22,s 7 (.mv (.c (.b false))),s 8 (.mv (k 1))])
 .ret) .skip))
 (.seq (.reg [m 24 0,m 25 1,m 26 2,c 27 (.call 93 [24,25,26]),m 23 27,s 28 (.ext 23 0),s 29 (.ext 23 1),m 9 28,m 10 29])
 (.seq (.seq (.reg [m 30 10,s 31 (.bin .neq 30 (k 0))])
 (.cond 31 (.seq (.reg [s 32 (.build [(.i .u64 0),(.i .u64 0),.sn] []),m 33 10,st 3 6 32,s 7 (.mv (.c (.b false))),m 8 33])
 .ret) .skip))
 (.seq (.reg [m 34 9,s 35 (.slc 1 34 (some (k 1)) none none),s 36 (.build [.sn,(.b false)] [(0,1,35)]),f 37 (.box 36),m 11 37])
 (.seq (.reg [m 38 11,c 39 (.call 160 [38,(k 8)]),m 40 11,c 41 (.call 160 [40,(k 8)]),s 42 (.build [(.i .u64 0),(.i .u64 0),.sn] [(0,1,39),(1,1,41)]),f 12 (.alloc [(.i .u64 0),(.i .u64 0),.sn]),st 3 12 42])
 (.seq (.reg [m 43 11,c 44 (.call 160 [43,(k 4)]),m 13 44])
 (.seq (.seq (.reg [m 45 9,s 46 (.ia 1 45 (k 0)),s 47 (.ld1 46),s 48 (.bin .neq 47 (.c (.i .u8 197))),m 49 48,sg 50 49 false (.mv 11),sg 51 49 false (.nilc 50),sg 52 49 false (.fa 1 51),sg 53 49 false (.ld1 52),s 54 (.pick 49 (.c (.b true)) 53),m 55 54,sg 56 55 false (.mv 13),sg 57 55 false (.mv 11),sg 58 55 false (.nilc 57),sg 59 55 false (.fa 0 58),sg 60 55 false (.ld1 59),sg 61 55 false (.len 60),sg 62 55 false (.bin .quo 61 (k 16)),sg 63 55 false (.cvi .u64 62),sg 64 55 false (.bin .gtr 56 63),s 65 (.pick 55 (.c (.b true)) 64)])
 (.cond 65 (.seq (.reg [s 66 (.build [(.i .u64 0),(.i .u64 0),.sn] []),st 3 6 66,s 7 (.mv (.c (.b false))),s 8 (.mv (k 0))])
 .ret) .skip))
 (.seq (.reg [m 68 11,s 69 (.nilc 68),s 70 (.fa 0 69),s 71 (.ld1 70),m 72 13,s 73 (.bin .mul 72 (.c (.i .u64 16))),s 74 (.slc 1 71 none (some 73) none),c 75 (.call 161 [74]),m 67 75,s 76 (.ext 67 0),s 77 (.ext 67 1),m 14 76,m 10 77])
 (.seq (.reg [m 78 14,s 79 (.fa 2 12),st 1 79 78])
 (.seq (.seq (.reg [s 81 (.ldn 3 12),c 82 (.call 162 [81]),m 80 82,s 83 (.ext 80 0),s 84 (.ext 80 1),m 15 83,m 16 84])
 (.seq (.reg [m 85 16,s 86 (.un .not 85),m 87 86,sg 88 87 false (.mv 10),sg 89 87 false (.bin .neq 88 (k 0)),s 90 (.pick 87 (.c (.b true)) 89)])
 (.cond 90 (.seq (.reg [s 91 (.build [(.i .u64 0),(.i .u64 0),.sn] []),st 3 6 91,s 7 (.mv (.c (.b false))),s 8 (.mv (k 0))])
 .ret) .skip)))
 (.seq (.reg [s 92 (.ldn 3 12),st 3 6 92,s 7 (.mv (.c (.b true))),s 8 (.mv (k 0))])
 .ret)))))))))))) [.cn 6 3,.t 7,.t 8]
def af93 : AFn := .code 29 (.seq (.reg [s 6 (.mv (.c .sn)),s 7 (.mv (k 0))])
 (.seq (.block 0 (.seq (.reg [m 9 0,m 10 1,m 11 2,c 12 (.call 163 [9,10,11]),s 13 (.un .not 12),m 8 13])
 (.cond 8 (.seq (.reg [s 6 (.mv (.c .sn)),s 7 (.mv (k 1))])
 .ret) (.seq (.reg [m 15 0,s 16 (.nilc 15),s 17 (.fa 3 16),s 18 (.ld1 17),m 14 18])
 (.cond 14 (.seq (.reg [s 6 (.mv (.c .sn)),s 7 (.mv (k 9))])
 .ret) .skip)))))
 (.seq (.reg [m 19 0,s 20 (.nilc 19),s 21 (.fa 0 20),s 22 (.ld1 21),m 23 1,m 24 1,m 25 2,s 26 (.bin .add 24 25),s 27 (.slc 1 22 (some 23) (some 26) none),c 28 (.call 164 [27]),m 6 28,s 7 (.mv (k 0))])
 .ret))) [.t 6,.t 7]
def af94 : AFn := .code 8 (.seq (.reg [s 2 (.mv (k 0))])
 (.seq (.reg [m 3 0,s 4 (.nilc 3),s 5 (.fa 1 4),s 6 (.ld1 5),s 7 (.bin .mul (k 2) 6),m 2 7])
 .ret)) [.t 2]
def af95 : AFn := .code 41 (.seq (.reg [m 11 1,m 12 0,s 13 (.nilc 12),s 14 (.fa 4 13),s 15 (.ld1 14),c 16 (.call 165 [11,15]),m 10 16,s 17 (.ext 10 0),s 18 (.ext 10 1),m 4 17,m 5 18])
 (.seq (.reg [m 19 4,s 20 (.len 19),s 21 (.mv (k 0))])
 (.block 0 (.loop (.seq (.reg [s 22 (.bin .lss 21 20)])
 (.seq (.cond 22 .skip (.exit 0))
 (.seq (.block 1 (.seq (.reg [s 23 (.ia 1 19 21),s 24 (.ld1 23),m 7 24])
 (.seq (.reg [m 26 7,c 27 (.call 166 [26]),m 25 27,s 28 (.ext 25 0),s 29 (.ext 25 1),m 8 28,m 9 29])
 (.seq (.reg [m 30 9,s 31 (.bin .neq 30 (k 0)),m 32 31,sg 33 32 false (.mv 0),sg 34 32 false (.mv 8),sg 35 32 false (.mv 7),sg 36 32 false (.len 35),cg 37 32 false (.call 167 [33,34,36]),sg 38 32 false (.un .not 37),s 39 (.pick 32 (.c (.b true)) 38)])
 (.cond 39 .ret .skip)))))
 (.reg [s 40 (.bin .add 21 (k 1)),m 21 40])))))))) []
def af96 : AFn := .code 9 (.seq (.reg [s 4 (.mv (.c (.b false)))])
 (.seq (.reg [m 5 0,m 6 1,c 7 (.call 168 [5,6]),s 8 (.bin .geq 7 (k 0)),m 4 8])
 .ret)) [.t 4]
def af97 : AFn := .code 5 (.seq (.reg [s 2 (.mv (.c (.b false)))])
 (.seq (.reg [m 3 0,s 4 (.bin .neq 3 (.c (.i .u8 0))),m 2 4])
 .ret)) [.t 2]
def af99 : AFn := .code 18 (.seq (.reg [s 2 (.mv (.c .pn))])
 (.seq (.reg [c 6 (.call 171 []),m 3 6])
 (.seq (.seq (.reg [m 7 0,s 8 (.len 7),s 9 (.mv (k 0))])
 (.block 0 (.loop (.seq (.reg [s 10 (.bin .lss 9 8)])
 (.seq (.cond 10 .skip (.exit 0))
 (.seq (.block 1 (.seq (.reg [s 11 (.ia 4 7 9),s 12 (.ldn 4 11),f 5 (.alloc [(i 0),(i 0),(i 0),(i 0)]),st 4 5 12])
 (.reg [m 13 3,s 14 (.ldn 4 5),c 15 (.call 172 [13,14])])))
 (.reg [s 16 (.bin .add 9 (k 1)),m 9 16])))))))
 (.seq (.reg [m 17 3,m 2 17])
 .ret)))) [.t 2]
def af100 : AFn := .code 8 (.seq (.reg [s 2 (.mv (.c .sn))])
 (.seq (.reg [m 3 0,s 4 (.nilc 3),s 5 (.fa 6 4),s 6 (.ld1 5),c 7 (.call 173 [6]),m 2 7])
 .ret)) [.t 2]
def af101 : AFn := .code 8 (.seq (.reg [s 2 (.mv (.c .pn))])
 (.seq (.reg [m 3 0,s 4 (.mx 3 (k 0)),s 5 (.mn 4 (k 1000)),s 6 (.build [(i 0),(i 0),.sn] [(0,1,5)]),f 7 (.box 6),m 2 7])
 .ret)) [.t 2]
def af102 : AFn := .code 19 (.seq (.reg [s 4 (.mv (.c (.b false)))])
 (.seq (.reg [m 5 0,s 6 (.bin .geq 5 (k 0)),m 7 6,sg 8 7 true (.mv 0),sg 9 7 true (.bin .lss 8 (k 1073741824)),s 10 (.pick 7 9 (.c (.b false))),m 11 10,sg 12 11 true (.mv 1),sg 13 11 true (.bin .geq 12 (k 0)),s 14 (.pick 11 13 (.c (.b false))),m 15 14,sg 16 15 true (.mv 1),sg 17 15 true (.bin .lss 16 (k 1073741824)),s 18 (.pick 15 17 (.c (.b false))),m 4 18])
 .ret)) [.t 4]
def af103 : AFn := .code 36 (.seq (.reg [f 2 (.box 0),f 3 (.box 1),f 4 (.alloc [(i 0),(i 0)]),s 5 (.mv (.c (.b false)))])
 (.seq (.reg [s 7 (.fa 1 2),s 8 (.ld1 7),s 9 (.fa 1 3),s 10 (.ld1 9),c 11 (.call 174 [8,10]),f 6 (.alloc [(.i .u64 0),(.i .u64 0)]),st 2 6 11])
 (.seq (.dreg 0 [.st 0 (s 12 (.fa 0 2)),
  .st 1 (s 13 (.ld1 12)),
  .st 2 (s 14 (.fa 0 3)),
  .st 3 (s 15 (.ld1 14)),
  .st 5 (s 17 (.ldn 2 6)),
  .st 8 (s 20 (.fa 0 2)),
  .st 9 (s 21 (.ld1 20)),
  .st 10 (s 22 (.fa 1 3)),
  .st 11 (s 23 (.ld1 22)),
  .st 13 (s 25 (.fa 1 2)),
  .st 14 (s 26 (.ld1 25)),
  .st 15 (s 27 (.fa 0 3)),
  .st 16 (s 28 (.ld1 27)),
  .st 19 (s 31 (.ldn 2 6)),
  .ef 4 (c 16 (.call 174 [13,15])) [] [s 17 (.ldn 2 6),s 21 (.ld1 20),s 23 (.ld1 22),s 26 (.ld1 25),s 28 (.ld1 27),s 31 (.ldn 2 6)],
  .ef 6 (c 18 (.call 177 [17])) [] [s 21 (.ld1 20),s 23 (.ld1 22),s 26 (.ld1 25),s 28 (.ld1 27),s 31 (.ldn 2 6)],
  .ef 7 (c 19 (.call 176 [16,18])) [] [s 21 (.ld1 20),s 23 (.ld1 22),s 26 (.ld1 25),s 28 (.ld1 27),s 31 (.ldn 2 6)],
  .ef 12 (c 24 (.call 174 [21,23])) [] [s 26 (.ld1 25),s 28 (.ld1 27),s 31 (.ldn 2 6)],
  .ef 17 (c 29 (.call 174 [26,28])) [] [s 31 (.ldn 2 6)],
  .ef 18 (c 30 (.call 176 [24,29])) [] [s 31 (.ldn 2 6)],
  .ef 20 (c 32 (.call 176 [30,31])) [] [],
  .ef 21 (c 33 (.call 175 [19,32])) [] [],
  .st 22 (s 34 (.ext 33 0)),
  .st 23 (s 35 (.ext 33 1)),
  .ef 24 (st 2 4 34) [] [],
  .st 25 (m 5 35)])
 .ret))) [.cn 4 2,.t 5]
def af104 : AFn := .code 19 (.seq (.reg [f 2 (.alloc [(i 0),(i 0)])])
 (.seq (.reg [m 6 0,c 7 (.call 178 [6]),m 5 7,s 8 (.ext 5 0),s 9 (.ext 5 1),f 3 (.alloc [(i 0),(i 0)]),st 2 3 8,m 4 9])
 (.seq (.reg [s 10 (.fa 0 3),s 11 (.ld1 10),s 12 (.fa 1 3),s 13 (.ld1 12),s 14 (.bin .add 11 13),s 15 (.fa 1 3),s 16 (.ld1 15),s 17 (.un .neg 16),s 18 (.build [(i 0),(i 0)] [(0,1,14),(1,1,17)]),st 2 2 18])
 .ret))) [.cn 2 2]
def af105 : AFn := .code 85 (.seq (.reg [f 2 (.box 0),f 4 (.alloc [(i 0),(i 0)]),s 5 (.mv (.c (.b false)))])
 (.seq (.seq (.reg [m 14 1,s 15 (.bin .lss 14 (k 1)),m 16 15,sg 17 16 false (.mv 1),sg 18 16 false (.bin .gtr 17 (k 1125899906842624)),s 19 (.pick 16 (.c (.b true)) 18),m 20 19,sg 21 20 false (.fa 0 2),sg 22 20 false (.ld1 21),sg 23 20 false (.bin .lss 22 (.c (.i .i64 (-1152921504606846976)))),s 24 (.pick 20 (.c (.b true)) 23),m 25 24,sg 26 25 false (.fa 0 2),sg 27 25 false (.ld1 26),sg 28 25 false (.bin .gtr 27 (k 1152921504606846976)),s 29 (.pick 25 (.c (.b true)) 28),m 30 29,sg 31 30 false (.fa 1 2),sg 32 30 false (.ld1 31),sg 33 30 false (.bin .lss 32 (.c (.i .i64 (-1152921504606846976)))),s 34 (.pick 30 (.c (.b true)) 33),m 35 34,sg 36 35 false (.fa 1 2),sg 37 35 false (.ld1 36),sg 38 35 false (.bin .gtr 37 (k 1152921504606846976)),s 39 (.pick 35 (.c (.b true)) 38)])
 (.cond 39 (.seq (.reg [s 40 (.build [(i 0),(i 0)] []),st 2 4 40,s 5 (.mv (.c (.b false)))])
 .ret) .skip))
 (.seq (.reg [s 42 (.fa 0 2),s 43 (.ld1 42),m 44 1,c 45 (.call 179 [43,44]),m 41 45,s 46 (.ext 41 0),s 47 (.ext 41 1),s 48 (.ext 41 2),m 6 46,m 7 47,m 8 48])
 (.seq (.reg [s 50 (.fa 1 2),s 51 (.ld1 50),m 52 1,c 53 (.call 179 [51,52]),m 49 53,s 54 (.ext 49 0),s 55 (.ext 49 1),s 56 (.ext 49 2),m 9 54,m 10 55,m 11 56])
 (.seq (.seq (.reg [s 12 (.mv (.c (.i .i64 (-1))))])
 (.block 0 (.loop (.seq (.seq (.reg [m 57 12,s 58 (.bin .leq 57 (k 2))])
 (.cond 58 .skip (.exit 0)))
 (.seq (.block 1 (.seq (.reg [s 13 (.mv (.c (.i .i64 (-1))))])
 (.block 2 (.loop (.seq (.seq (.reg [m 61 13,s 62 (.bin .leq 61 (k 2))])
 (.cond 62 .skip (.exit 2)))
 (.seq (.block 3 (.seq (.reg [m 65 7,m 66 12,m 67 1,s 68 (.bin .mul 66 67),s 69 (.bin .sub 65 68),m 70 10,m 71 13,m 72 1,s 73 (.bin .mul 71 72),s 74 (.bin .sub 70 73),m 75 1,c 76 (.call 180 [69,74,75])])
 (.cond 76 (.seq (.reg [m 77 6,m 78 12,s 79 (.bin .add 77 78),m 80 9,m 81 13,s 82 (.bin .add 80 81),s 83 (.build [(i 0),(i 0)] [(0,1,79),(1,1,82)]),st 2 4 83,s 5 (.mv (.c (.b true)))])
 .ret) .skip)))
 (.reg [m 63 13,s 64 (.bin .add 63 (k 1)),m 13 64])))))))
 (.reg [m 59 12,s 60 (.bin .add 59 (k 1)),m 12 60]))))))
 (.seq (.reg [s 84 (.build [(i 0),(i 0)] []),st 2 4 84,s 5 (.mv (.c (.b false)))])
 .ret)))))) [.cn 4 2,.t 5]
def af106 : AFn := .code 11 (.seq (.reg [s 2 (.mv (k 0))])
 (.seq (.reg [m 6 0,c 7 (.call 181 [(k 7),6]),m 5 7,s 8 (.ext 5 0),s 9 (.ext 5 1),m 3 8,m 4 9])
 (.seq (.reg [m 10 3,m 2 10])
 .ret))) [.t 2]
def af107 : AFn := .code 68 (.seq (.reg [f 1 (.box 0),s 2 (.mv (.c (.b false)))])
 (.seq (.seq (.reg [s 5 (.fa 0 1),s 6 (.ld1 5),s 7 (.bin .lss 6 (k 0)),m 8 7,sg 9 8 false (.fa 0 1),sg 10 8 false (.ld1 9),sg 11 8 false (.bin .gtr 10 (k 12)),s 12 (.pick 8 (.c (.b true)) 11),m 13 12,sg 14 13 false (.fa 1 1),sg 15 13 false (.fa 0 14),sg 16 13 false (.ld1 15),sg 17 13 false (.bin .lss 16 (.c (.i .i64 (-1073741824)))),s 18 (.pick 13 (.c (.b true)) 17),m 19 18,sg 20 19 false (.fa 1 1),sg 21 19 false (.fa 0 20),sg 22 19 false (.ld1 21),sg 23 19 false (.bin .gtr 22 (k 1073741824)),s 24 (.pick 19 (.c (.b true)) 23),m 25 24,sg 26 25 false (.fa 1 1),sg 27 25 false (.fa 1 26),sg 28 25 false (.ld1 27),sg 29 25 false (.bin .lss 28 (.c (.i .i64 (-1073741824)))),s 30 (.pick 25 (.c (.b true)) 29),m 31 30,sg 32 31 false (.fa 1 1),sg 33 31 false (.fa 1 32),sg 34 31 false (.ld1 33),sg 35 31 false (.bin .gtr 34 (k 1073741824)),s 36 (.pick 31 (.c (.b true)) 35)])
 (.cond 36 (.seq (.reg [s 2 (.mv (.c (.b false)))])
 .ret) .skip))
 (.seq (.reg [s 37 (.fa 1 1),s 38 (.ldn 2 37),f 3 (.alloc [(i 0),(i 0)]),st 2 3 38])
 (.seq (.seq (.reg [s 4 (.mv (k 0))])
 (.block 0 (.loop (.seq (.seq (.reg [m 39 4,s 40 (.fa 0 1),s 41 (.ld1 40),s 42 (.bin .lss 39 41)])
 (.cond 42 .skip (.exit 0)))
 (.seq (.block 1 (.reg [s 46 (.ldn 2 3),c 47 (.call 108 [46]),m 45 47,s 48 (.ext 45 0),s 49 (.ext 45 1),st 2 3 48]))
 (.reg [m 43 4,s 44 (.bin .add 43 (k 1)),m 4 44]))))))
 (.seq (.reg [s 50 (.fa 0 3),s 51 (.ld1 50),s 52 (.bin .geq 51 (.c (.i .i64 (-512)))),m 53 52,sg 54 53 true (.fa 0 3),sg 55 53 true (.ld1 54),sg 56 53 true (.bin .leq 55 (k 511)),s 57 (.pick 53 56 (.c (.b false))),m 58 57,sg 59 58 true (.fa 1 3),sg 60 58 true (.ld1 59),sg 61 58 true (.bin .geq 60 (.c (.i .i64 (-512)))),s 62 (.pick 58 61 (.c (.b false))),m 63 62,sg 64 63 true (.fa 1 3),sg 65 63 true (.ld1 64),sg 66 63 true (.bin .leq 65 (k 511)),s 67 (.pick 63 66 (.c (.b false))),m 2 67])
 .ret))))) [.t 2]
def af109 : AFn := .code 15 (.seq (.reg [s 4 (.mv (.c .sn)),s 5 (.mv (.c (.b false)))])
 (.seq (.seq (.reg [m 6 0,m 7 1,c 8 (.call 183 [6,7]),s 9 (.un .not 8)])
 (.cond 9 (.seq (.reg [m 10 0,m 4 10,s 5 (.mv (.c (.b false)))])
 .ret) .skip))
 (.seq (.reg [m 11 0,m 12 1,s 13 (.len 12),s 14 (.slc 1 11 (some 13) none none),m 4 14,s 5 (.mv (.c (.b true)))])
 .ret))) [.t 4,.t 5]
def af110 : AFn := .code 8 (.seq (.reg [s 4 (.mv (k 0))])
 (.seq (.reg [m 5 0,m 6 1,c 7 (.call 184 [5,6,(.c (.b true))]),m 4 7])
 .ret)) [.t 4]
def af111 : AFn := .code 9 (.seq (.reg [s 2 (.mv (.c (.b false)))])
 (.seq (.reg [m 3 0,s 4 (.bin .eql 3 (.c (.i .i32 63))),m 5 4,sg 6 5 false (.mv 0),sg 7 5 false (.bin .eql 6 (.c (.i .i32 10))),s 8 (.pick 5 (.c (.b true)) 7),m 2 8])
 .ret)) [.t 2]
def af112 : AFn := .code 17 (.seq (.reg [f 2 (.alloc [(i 0),(.s []),.sn]),s 3 (.mv (.c (.b false)))])
 (.seq (.reg [c 6 (.call 185 []),m 4 6])
 (.seq (.reg [m 7 4,m 8 0,c 9 (.call 186 [7,8]),m 5 9])
 (.seq (.seq (.reg [m 10 5,s 11 (.bin .lss 10 (k 0))])
 (.cond 11 (.seq (.reg [s 12 (.build [(i 0),(.s []),.sn] []),st 3 2 12,s 3 (.mv (.c (.b false)))])
 .ret) .skip))
 (.seq (.reg [m 13 4,m 14 5,s 15 (.ia 3 13 14),s 16 (.ldn 3 15),st 3 2 16,s 3 (.mv (.c (.b true)))])
 .ret))))) [.cn 2 3,.t 3]
def af113 : AFn := .code 12 (.seq (.reg [f 3 (.box 0),s 4 (.mv (.c (.b false)))])
 (.seq (.dreg 0 [.st 0 (s 5 (.fa 1 3)),
  .st 1 (s 6 (.ld1 5)),
  .st 2 (s 7 (.ld1 1)),
  .st 3 (s 8 (.ld1 2)),
  .st 4 (s 9 (.slc 1 7 none (some 8) none)),
  .st 5 (s 10 (.cvb 9)),
  .st 6 (s 11 (.bin .eql 6 10)),
  .st 7 (m 4 11)])
 .ret)) [.t 4]
def af114 : AFn := .code 92 (.seq (.reg [f 2 (.box 0),f 4 (.alloc [(i 0),.sn,.sn,.sn,.sn]),s 5 (.mv (k 0))])
 (.seq (.block 0 (.seq (.reg [s 16 (.fa 0 2),s 17 (.ld1 16),s 18 (.bin .eql 17 (k 16)),m 15 18])
 (.cond 15 (.seq (.reg [m 20 1,s 21 (.slc 1 20 (some (k 1)) none none),c 22 (.call 166 [21]),m 19 22,s 23 (.ext 19 0),s 24 (.ext 19 1),m 6 23,m 7 24])
 (.seq (.seq (.reg [m 25 7,s 26 (.bin .neq 25 (k 0))])
 (.cond 26 (.seq (.reg [s 27 (.build [(i 0),.sn,.sn,.sn,.sn] []),m 28 7,st 5 4 27,m 5 28])
 .ret) .skip))
 (.seq (.reg [s 29 (.fa 0 2),s 30 (.ld1 29),m 31 6,s 32 (.build [(i 0),.sn,.sn,.sn,.sn] [(0,1,30),(4,1,31)]),st 5 4 32,s 5 (.mv (k 0))])
 .ret))) (.seq (.reg [s 34 (.fa 2 2),s 35 (.ld1 34),s 36 (.len 35),s 37 (.bin .eql 36 (k 0)),m 38 37,sg 39 38 true (.mv 1),sg 40 38 true (.len 39),sg 41 38 true (.bin .eql 40 (k 0)),s 42 (.pick 38 41 (.c (.b false))),m 33 42])
 (.cond 33 (.seq (.reg [s 43 (.fa 0 2),s 44 (.ld1 43),s 45 (.build [(i 0),.sn,.sn,.sn,.sn] [(0,1,44)]),st 5 4 45,s 5 (.mv (k 0))])
 .ret) (.seq (.reg [s 47 (.fa 2 2),s 48 (.ld1 47),s 49 (.len 48),s 50 (.bin .eql 49 (k 0)),m 51 50,sg 52 51 false (.mv 1),sg 53 51 false (.len 52),sg 54 51 false (.bin .eql 53 (k 0)),s 55 (.pick 51 (.c (.b true)) 54),m 46 55])
 (.cond 46 (.seq (.reg [s 56 (.build [(i 0),.sn,.sn,.sn,.sn] []),st 5 4 56,s 5 (.mv (k 16))])
 .ret) .skip)))))))
 (.seq (.dreg 1 [.st 0 (s 58 (.ldn 3 2)),
  .st 1 (m 59 1),
  .st 2 (s 60 (.slc 1 59 (some (k 1)) none none)),
  .st 3 (s 61 (.cvb 60)),
  .ef 4 (c 62 (.call 187 [58,61])) [] [],
  .st 5 (m 57 62),
  .st 6 (s 63 (.ext 57 0)),
  .st 7 (s 64 (.ext 57 1)),
  .st 8 (s 65 (.ext 57 2)),
  .fl 9 (f 8 (.alloc [(i 0),.sn,.sn,.sn,.sn])) 0,
  .ef 10 (st 5 8 63) [0] [],
  .st 11 (m 9 64),
  .st 12 (m 10 65)])
 (.seq (.seq (.reg [m 66 10,s 67 (.un .not 66)])
 (.cond 67 (.seq (.reg [s 68 (.build [(i 0),.sn,.sn,.sn,.sn] []),st 5 4 68,s 5 (.mv (k 16))])
 .ret) .skip))
 (.seq (.seq (.reg [m 69 9,s 70 (.len 69),s 71 (.mv (k 0))])
 (.block 1 (.loop (.seq (.reg [s 72 (.bin .lss 71 70)])
 (.seq (.cond 72 .skip (.exit 1))
 (.seq (.block 2 (.seq (.reg [s 73 (.ia 1 69 71),s 74 (.ld1 73),m 12 74])
 (.seq (.reg [m 76 12,c 77 (.call 188 [76]),m 75 77,s 78 (.ext 75 0),s 79 (.ext 75 1),m 13 78,m 14 79])
 (.seq (.seq (.reg [m 80 14,s 81 (.bin .neq 80 (k 0))])
 (.cond 81 (.seq (.reg [s 82 (.build [(i 0),.sn,.sn,.sn,.sn] []),m 83 14,st 5 4 82,m 5 83])
 .ret) .skip))
 (.reg [s 84 (.fa 2 8),s 85 (.ld1 84),m 86 13,f 87 (.bsl 1 1 [(.i .u64 0)] [(0,1,86)]),e 88 (.app 1 8 85 87),s 89 (.fa 2 8),st 1 89 88])))))
 (.reg [s 90 (.bin .add 71 (k 1)),m 71 90])))))))
 (.seq (.reg [s 91 (.ldn 5 8),st 5 4 91,s 5 (.mv (k 0))])
 .ret)))))) [.cn 4 5,.t 5]
def af115 : AFn := .code 24 (.seq (.reg [s 6 (.mv (.c .sn))])
 (.seq (.seq (.reg [m 8 2,s 9 (.bin .sub 8 (k 1)),m 7 9])
 (.block 0 (.loop (.seq (.seq (.reg [m 10 7,s 11 (.bin .geq 10 (k 0))])
 (.cond 11 .skip (.exit 0)))
 (.seq (.block 1 (.reg [m 14 0,m 15 1,m 16 7,s 17 (.bin .mul (k 8) 16),s 18 (.cvi .u64 17),s 19 (.bin .shr 15 18),s 20 (.cvi .u8 19),f 21 (.bsl 1 1 [(.i .u8 0)] [(0,1,20)]),e 22 (.app 1 1 14 21),m 0 22]))
 (.reg [m 12 7,s 13 (.bin .sub 12 (k 1)),m 7 13]))))))
 (.seq (.reg [m 23 0,m 6 23])
 .ret))) [.t 6]
def af116 : AFn := .code 56 (.seq (.reg [f 1 (.box 0),s 2 (.mv (.c .sn)),s 3 (.mv (.c (.b false)))])
 (.seq (.reg [s 12 (.mkfn (.func 189) [] [1]),c 13 (.call 112 [12]),m 11 13,s 14 (.ext 11 0),s 15 (.ext 11 1),f 4 (.alloc [(i 0),(.s []),.sn]),st 3 4 14,m 5 15])
 (.seq (.seq (.reg [m 16 5,s 17 (.un .not 16),m 18 17,sg 19 18 false (.fa 3 1),sg 20 18 false (.ld1 19),sg 21 18 false (.len 20),sg 22 18 false (.bin .gtr 21 (k 200)),s 23 (.pick 18 (.c (.b true)) 22)])
 (.cond 23 (.seq (.reg [s 2 (.mv (.c .sn)),s 3 (.mv (.c (.b false)))])
 .ret) .skip))
 (.seq (.reg [s 24 (.ldn 3 4),s 25 (.ldn 5 1),c 26 (.call 190 [24,25]),e 27 (.s2b 26),m 6 27])
 (.seq (.seq (.reg [s 28 (.fa 0 4),s 29 (.ld1 28),s 30 (.bin .eql 29 (k 16))])
 (.cond 30 (.seq (.reg [s 32 (.fa 4 1),s 33 (.ld1 32),c 34 (.call 191 [33]),m 31 34,s 35 (.ext 31 0),s 36 (.ext 31 1),m 7 35,m 8 36])
 (.reg [m 37 6,f 38 (.bsl 1 1 [(.i .u8 0)] [(0,1,(.c (.i .u8 10)))]),e 39 (.app 1 1 37 38),m 40 7,e 41 (.app 1 1 39 40),m 6 41])) .skip))
 (.seq (.reg [m 43 6,c 44 (.call 55 [43]),m 42 44,s 45 (.ext 42 0),s 46 (.ext 42 1),f 9 (.alloc [(i 0),.sn,.sn,.sn,.sn]),st 5 9 45,m 10 46])
 (.seq (.seq (.reg [m 47 10,s 48 (.bin .neq 47 (k 0)),m 49 48,sg 50 49 false (.ldn 5 1),sg 51 49 false (.ldn 5 9),cg 52 49 false (.call 192 [50,51]),sg 53 49 false (.un .not 52),s 54 (.pick 49 (.c (.b true)) 53)])
 (.cond 54 (.seq (.reg [s 2 (.mv (.c .sn)),s 3 (.mv (.c (.b false)))])
 .ret) .skip))
 (.seq (.reg [m 55 6,m 2 55,s 3 (.mv (.c (.b true)))])
 .ret)))))))) [.t 2,.t 3]
def af117 : AFn := .code 2 (.seq (.reg [f 0 (.alloc [.nf,.nf,.nf,.nf,.nf,.nf,.nf,.nf,.nf,.nf,.nf,.nf,.nf,.nf,.nf,.nf,.nf])])
 (.seq (.reg [s 1 (.build [.nf,.nf,.nf,.nf,.nf,.nf,.nf,.nf,.nf,.nf,.nf,.nf,.nf,.nf,.nf,.nf,.nf] [(1,1,(.c (.f (.func 193) [] []))),(2,1,(.c (.f (.func 194) [] []))),(3,1,(.c (.f (.func 195) [] []))),(4,1,(.c (.f (.func 196) [] []))),(5,1,(.c (.f (.func 197) [] []))),(6,1,(.c (.f (.func 198) [] []))),(7,1,(.c (.f (.func 199) [] []))),(8,1,(.c (.f (.func 200) [] []))),(9,1,(.c (.f (.func 201) [] []))),(10,1,(.c (.f (.func 202) [] []))),(11,1,(.c (.f (.func 203) [] []))),(12,1,(.c (.f (.func 204) [] []))),(13,1,(.c (.f (.func 205) [] []))),(14,1,(.c (.f (.func 206) [] []))),(15,1,(.c (.f (.func 207) [] []))),(16,1,(.c (.f (.func 208) [] [])))]),st 17 0 1])
 .ret)) [.cn 0 17]
def af126 : AFn := .code 11 (.seq (.reg [f 2 (.box 0),f 3 (.box 1),f 4 (.alloc [(i 0),(i 0)]),s 5 (.mv (.c (.b false)))])
 (.seq (.reg [s 6 (.ldn 2 2),s 7 (.ldn 2 3),c 8 (.call 72 [6,7,(.c (.f (.func 130) [] []))]),s 9 (.ext 8 0),s 10 (.ext 8 1),st 2 4 9,m 5 10])
 .ret)) [.cn 4 2,.t 5]
def af128 : AFn := .code 51 (.seq (.reg [s 4 (.mv (.c (.i .u64 0))),s 5 (.mv (.c (.i .u64 0)))])
 (.seq (.reg [m 14 0,s 15 (.bin .and 14 (.c (.i .u64 4294967295))),m 6 15])
 (.seq (.reg [m 16 0,s 17 (.bin .shr 16 (.c (.i .u64 32))),m 7 17])
 (.seq (.reg [m 18 1,s 19 (.bin .and 18 (.c (.i .u64 4294967295))),m 8 19])
 (.seq (.reg [m 20 1,s 21 (.bin .shr 20 (.c (.i .u64 32))),m 9 21])
 (.seq (.reg [m 22 6,m 23 8,s 24 (.bin .mul 22 23),m 10 24])
 (.seq (.reg [m 25 7,m 26 8,s 27 (.bin .mul 25 26),m 28 10,s 29 (.bin .shr 28 (.c (.i .u64 32))),s 30 (.bin .add 27 29),m 11 30])
 (.seq (.reg [m 31 11,s 32 (.bin .and 31 (.c (.i .u64 4294967295))),m 12 32])
 (.seq (.reg [m 33 11,s 34 (.bin .shr 33 (.c (.i .u64 32))),m 13 34])
 (.seq (.reg [m 35 12,m 36 6,m 37 9,s 38 (.bin .mul 36 37),s 39 (.bin .add 35 38),m 12 39])
 (.seq (.reg [m 40 7,m 41 9,s 42 (.bin .mul 40 41),m 43 13,s 44 (.bin .add 42 43),m 45 12,s 46 (.bin .shr 45 (.c (.i .u64 32))),s 47 (.bin .add 44 46),m 4 47])
 (.seq (.reg [m 48 0,m 49 1,s 50 (.bin .mul 48 49),m 5 50])
 .ret)))))))))))) [.t 4,.t 5]
def af130 : AFn := .code 21 (.seq (.reg [s 4 (.mv (k 0)),s 5 (.mv (.c (.b false)))])
 (.seq (.reg [m 7 0,m 8 1,s 9 (.bin .sub 7 8),m 6 9])
 (.seq (.seq (.reg [m 10 6,m 11 0,s 12 (.bin .lss 10 11),m 13 1,s 14 (.bin .gtr 13 (k 0)),s 15 (.eqb true 12 14),m 16 15,sg 17 16 true (.mv 1),sg 18 16 true (.bin .neq 17 (k 0)),s 19 (.pick 16 18 (.c (.b false)))])
 (.cond 19 (.seq (.reg [s 4 (.mv (k 0)),s 5 (.mv (.c (.b false)))])
 .ret) .skip))
 (.seq (.reg [m 20 6,m 4 20,s 5 (.mv (.c (.b true)))])
 .ret)))) [.t 4,.t 5]
def af131 : AFn := .code 10 (.seq (.reg [s 2 (.mv (.c (.i .u64 0)))])
 (.seq (.seq (.reg [m 3 0,s 4 (.bin .lss 3 (k 0))])
 (.cond 4 (.seq (.reg [m 5 0,s 6 (.cvi .u64 5),s 7 (.un .neg 6),m 2 7])
 .ret) .skip))
 (.seq (.reg [m 8 0,s 9 (.cvi .u64 8),m 2 9])
 .ret))) [.t 2]
def af132 : AFn := .code 22 (.seq (.reg [f 1 (.box 0),s 2 (.mv (.c .sn))])
 (.seq (.reg [s 3 (.fa 0 1),s 4 (.ldn 2 3),s 5 (.fa 2 1),s 6 (.iaa 2 1 5 (k 0)),s 7 (.ld1 6),s 8 (.fa 0 1),s 9 (.iaa 2 1 8 (k 1)),s 10 (.ld1 9),s 11 (.build [(i 0),(i 0)] [(0,1,7),(1,1,10)]),s 12 (.fa 2 1),s 13 (.ldn 2 12),s 14 (.fa 0 1),s 15 (.iaa 2 1 14 (k 0)),s 16 (.ld1 15),s 17 (.fa 2 1),s 18 (.iaa 2 1 17 (k 1)),s 19 (.ld1 18),s 20 (.build [(i 0),(i 0)] [(0,1,16),(1,1,19)]),f 21 (.bsl 2 4 [(i 0),(i 0),(i 0),(i 0),(i 0),(i 0),(i 0),(i 0)] [(0,2,4),(2,2,11),(4,2,13),(6,2,20)]),m 2 21])
 .ret)) [.t 2]
def af133 : AFn := .code 23 (.block 0 (.loop (.block 1 (.seq (.reg [m 5 1,s 6 (.bin .sub 5 (k 1)),s 7 (.bin .quo 6 (k 2)),m 4 7])
 (.seq (.seq (.reg [m 8 4,m 9 1,s 10 (.bin .eql 8 9),m 11 10,sg 12 11 false (.mv 0),sg 13 11 false (.mv 1),sg 14 11 false (.mv 4),cg 15 11 false (.inv 12 "Less" [13,14]),sg 16 11 false (.un .not 15),s 17 (.pick 11 (.c (.b true)) 16)])
 (.cond 17 (.exit 0) .skip))
 (.seq (.reg [m 18 0,m 19 4,m 20 1,c 21 (.inv 18 "Swap" [19,20])])
 (.reg [m 22 4,m 1 22]))))))) []
def af134 : AFn := .code 49 (.seq (.reg [m 8 1,s 9 (.bin .add 8 (k 1)),m 6 9])
 (.block 0 (.loop (.seq (.seq (.reg [m 10 6,m 11 2,s 12 (.bin .lss 10 11)])
 (.cond 12 .skip (.exit 0)))
 (.seq (.block 1 (.seq (.reg [m 15 6,m 7 15])
 (.block 2 (.loop (.seq (.seq (.dreg 0 [.st 0 (m 16 7),
  .st 1 (m 17 1),
  .st 2 (s 18 (.bin .gtr 16 17)),
  .st 3 (m 19 18),
  .st 4 (sg 20 19 true (.mv 0)),
  .st 5 (sg 21 19 true (.mv 7)),
  .st 6 (sg 22 19 true (.ia 1 20 21)),
  .st 7 (sg 23 19 true (.ld1 22)),
  .st 8 (sg 24 19 true (.mv 0)),
  .st 9 (sg 25 19 true (.mv 7)),
  .st 10 (sg 26 19 true (.bin .sub 25 (k 1))),
  .st 11 (sg 27 19 true (.ia 1 24 26)),
  .st 12 (sg 28 19 true (.ld1 27)),
  .ef 13 (cg 29 19 true (.call 140 [23,28])) [] [],
  .st 14 (s 30 (.pick 19 29 (.c (.b false))))])
 (.cond 30 .skip (.exit 2)))
 (.seq (.block 3 (.dreg 0 [.st 0 (m 33 0),
  .st 1 (m 34 7),
  .st 2 (m 35 0),
  .st 3 (m 36 7),
  .st 4 (s 37 (.bin .sub 36 (k 1))),
  .st 5 (m 38 0),
  .st 6 (m 39 7),
  .st 7 (s 40 (.bin .sub 39 (k 1))),
  .st 8 (s 41 (.ia 1 38 40)),
  .st 9 (s 42 (.ld1 41)),
  .st 10 (m 43 0),
  .st 11 (m 44 7),
  .st 12 (s 45 (.ia 1 43 44)),
  .st 13 (s 46 (.ld1 45)),
  .st 14 (s 47 (.ia 1 33 34)),
  .ef 15 (st 1 47 42) [] [],
  .st 16 (s 48 (.ia 1 35 37)),
  .ef 17 (st 1 48 46) [] []]))
 (.reg [m 31 7,s 32 (.bin .sub 31 (k 1)),m 7 32])))))))
 (.reg [m 13 6,s 14 (.bin .add 13 (k 1)),m 6 14])))))) []
def af144 : AFn := .code 25 (.seq (.reg [s 2 (.mv (k 0))])
 (.seq (.seq (.reg [m 3 0,s 4 (.bin .geq 3 (.c (.i .u64 4294967296)))])
 (.cond 4 (.seq (.reg [m 5 0,s 6 (.bin .shr 5 (.c (.i .u64 32))),m 0 6])
 (.reg [s 2 (.mv (k 32))])) .skip))
 (.seq (.seq (.reg [m 7 0,s 8 (.bin .geq 7 (.c (.i .u64 65536)))])
 (.cond 8 (.seq (.reg [m 9 0,s 10 (.bin .shr 9 (.c (.i .u64 16))),m 0 10])
 (.reg [m 11 2,s 12 (.bin .add 11 (k 16)),m 2 12])) .skip))
 (.seq (.seq (.reg [m 13 0,s 14 (.bin .geq 13 (.c (.i .u64 256)))])
 (.cond 14 (.seq (.reg [m 15 0,s 16 (.bin .shr 15 (.c (.i .u64 8))),m 0 16])
 (.reg [m 17 2,s 18 (.bin .add 17 (k 8)),m 2 18])) .skip))
 (.seq (.reg [m 19 2,m 20 0,s 21 (.cvi .u8 20),s 22 (.ixs (.c (.s [0,1,2,2,3,3,3,3,4,4,4,4,4,4,4,4,5,5,5,5,5,5,5,5,5,5,5,5,5,5,5,5,6,6,6,6,6,6,6,6,6,6,6,6,6,6,6,6,6,6,6,6,6,6,6,6,6,6,6,6,6,6,6,6,7,7,7,7,7,7,7,7,7,7,7,7,7,7,7,7,7,7,7,7,7,7,7,7,7,7,7,7,7,7,7,7,7,7,7,7,7,7,7,7,7,7,7,7,7,7,7,7,7,7,7,7,7,7,7,7,7,7,7,7,7,7,7,7,8,8,8,8,8,8,8,8,8,8,8,8,8,8,8,8,8,8,8,8,8,8,8,8,8,8,8,8,8,8,8,8,8,8,8,8,8,8,8,8,8,8,8,8,8,8,8,8,8,8,8,8,8,8,8,8,8,8,8,8,8,8,8,8,8,8,8,8,8,8,8,8,8,8,8,8,8,8,8,8,8,8,8,8,8,8,8,8,8,8,8,8,8,8,8,8,8,8,8,8,8,8,8,8,8,8,8,8,8,8,8,8,8,8,8,8,8,8,8,8,8,8,8,8,8,8,8,8])) 21),s 23 (.cvi .i64 22),s 24 (.bin .add 19 23),m 2 24])
 .ret))))) [.t 2]
def af145 : AFn := .code 14 (.seq (.reg [f 1 (.box 0),f 2 (.alloc [(i 0),(i 0)])])
 (.seq (.reg [s 3 (.fa 0 1),s 4 (.ld1 3),s 5 (.bin .mul (k 52) 4),s 6 (.fa 1 1),s 7 (.ld1 6),s 8 (.bin .mul (k 26) 7),s 9 (.bin .add 5 8),s 10 (.fa 1 1),s 11 (.ld1 10),s 12 (.bin .mul (k 45) 11),s 13 (.build [(i 0),(i 0)] [(0,1,9),(1,1,12)]),st 2 2 13])
 .ret)) [.cn 2 2]
def af146 : AFn := .code 38 (.seq (.reg [s 4 (.mv (.c .sn))])
 (.seq (.reg [s 5 (.mv (.c .sn))])
 (.seq (.seq (.reg [s 6 (.mv (k 0))])
 (.block 0 (.loop (.seq (.seq (.reg [m 7 6,m 8 0,s 9 (.len 8),s 10 (.bin .lss 7 9),m 11 10,sg 12 11 true (.mv 1),sg 13 11 true (.bin .geq 12 (k 0)),s 14 (.pick 11 13 (.c (.b false))),m 15 14,sg 16 15 true (.mv 1),sg 17 15 true (.bin .leq 16 (k 12)),s 18 (.pick 15 17 (.c (.b false)))])
 (.cond 18 .skip (.exit 0)))
 (.seq (.block 1 (.dreg 1 [.st 0 (m 21 5),
  .st 1 (m 22 0),
  .st 2 (m 23 6),
  .st 3 (s 24 (.ia 4 22 23)),
  .st 4 (s 25 (.fa 1 24)),
  .st 5 (s 26 (.ld1 25)),
  .st 6 (m 27 0),
  .st 7 (m 28 6),
  .st 8 (s 29 (.ia 4 27 28)),
  .st 9 (s 30 (.fa 2 29)),
  .st 10 (s 31 (.ld1 30)),
  .st 11 (m 32 1),
  .ef 12 (c 33 (.call 21 [26,31,32])) [] [],
  .fl 13 (f 34 (.bsl 1 1 [(.i .u64 0)] [(0,1,33)])) 0,
  .ef 14 (e 35 (.app 1 8 21 34)) [0] [],
  .st 15 (m 5 35)]))
 (.reg [m 19 6,s 20 (.bin .add 19 (k 1)),m 6 20]))))))
 (.seq (.reg [m 36 5,c 37 (.call 216 [36]),m 4 37])
 .ret)))) [.t 4]
def af147 : AFn := .code 49 (.seq (.reg [f 2 (.box 0),s 4 (.mv (.c (.b false)))])
 (.seq (.reg [m 11 1,c 12 (.call 148 [11]),m 10 12,s 13 (.ext 10 0),s 14 (.ext 10 1),f 5 (.alloc [(i 0),(i 0),(i 0)]),st 3 5 13,m 6 14])
 (.seq (.reg [s 16 (.ldn 4 2),c 17 (.call 149 [16]),m 15 17,s 18 (.ext 15 0),s 19 (.ext 15 1),s 20 (.ext 15 2),m 7 18,m 8 19,m 9 20])
 (.seq (.reg [s 21 (.ldn 4 2),c 22 (.call 217 [21]),s 23 (.bin .eql 22 (k 0)),m 24 23,sg 25 24 true (.mv 6),sg 26 24 true (.bin .eql 25 (k 0)),s 27 (.pick 24 26 (.c (.b false))),m 28 27,sg 29 28 true (.fa 0 5),sg 30 28 true (.ld1 29),sg 31 28 true (.fa 3 2),sg 32 28 true (.ld1 31),sg 33 28 true (.bin .eql 30 32),s 34 (.pick 28 33 (.c (.b false))),m 35 34,sg 36 35 true (.ldn 3 5),sg 37 35 true (.mv 7),sg 38 35 true (.mv 8),sg 39 35 true (.build [(i 0),(i 0)] [(0,1,37),(1,1,38)]),sg 40 35 true (.mv 7),sg 41 35 true (.mv 9),sg 42 35 true (.bin .add 40 41),sg 43 35 true (.mv 8),sg 44 35 true (.mv 9),sg 45 35 true (.bin .add 43 44),sg 46 35 true (.build [(i 0),(i 0)] [(0,1,42),(1,1,45)]),cg 47 35 true (.call 218 [36,39,46]),s 48 (.pick 35 47 (.c (.b false))),m 4 48])
 .ret)))) [.t 4]
def af148 : AFn := .code 77 (.seq (.reg [f 2 (.alloc [(i 0),(i 0),(i 0)]),s 3 (.mv (k 0))])
 (.seq (.reg [m 9 0,s 10 (.bin .shr 9 (.c (.i .u64 56))),s 11 (.bin .and 10 (.c (.i .u64 15))),s 12 (.cvi .i64 11),m 4 12])
 (.seq (.seq (.reg [m 13 0,s 14 (.bin .shr 13 (.c (.i .u64 60))),s 15 (.bin .neq 14 (.c (.i .u64 1))),m 16 15,sg 17 16 false (.mv 4),sg 18 16 false (.bin .gtr 17 (k 12)),s 19 (.pick 16 (.c (.b true)) 18)])
 (.cond 19 (.seq (.reg [s 20 (.build [(i 0),(i 0),(i 0)] []),st 3 2 20,s 3 (.mv (k 5))])
 .ret) .skip))
 (.seq (.reg [m 21 0,s 22 (.bin .shr 21 (.c (.i .u64 46))),s 23 (.bin .and 22 (.c (.i .u64 1023))),s 24 (.cvi .i64 23),s 25 (.bin .sub 24 (k 512)),m 26 0,s 27 (.bin .shr 26 (.c (.i .u64 36))),s 28 (.bin .and 27 (.c (.i .u64 1023))),s 29 (.cvi .i64 28),s 30 (.bin .sub 29 (k 512)),s 31 (.build [(i 0),(i 0)] [(0,1,25),(1,1,30)]),f 5 (.alloc [(i 0),(i 0)]),st 2 5 31])
 (.seq (.seq (.reg [s 6 (.mv (k 1))])
 (.block 0 (.loop (.seq (.seq (.reg [m 32 6,s 33 (.bin .leq 32 (k 12))])
 (.cond 33 .skip (.exit 0)))
 (.seq (.block 1 (.seq (.reg [m 36 0,m 37 6,s 38 (.bin .mul (k 3) 37),s 39 (.bin .sub (k 36) 38),s 40 (.bin .shr 36 39),s 41 (.bin .and 40 (.c (.i .u64 7))),s 42 (.cvi .i64 41),m 7 42])
 (.seq (.seq (.reg [m 43 6,m 44 4,s 45 (.bin .gtr 43 44)])
 (.cond 45 (.seq (.seq (.reg [m 46 7,s 47 (.bin .neq 46 (k 7))])
 (.cond 47 (.seq (.reg [s 48 (.build [(i 0),(i 0),(i 0)] []),st 3 2 48,s 3 (.mv (k 5))])
 .ret) .skip))
 (.exit 1)) .skip))
 (.seq (.seq (.reg [m 49 7,s 50 (.bin .eql 49 (k 7))])
 (.cond 50 (.seq (.reg [s 51 (.build [(i 0),(i 0),(i 0)] []),st 3 2 51,s 3 (.mv (k 5))])
 .ret) .skip))
 (.seq (.reg [s 53 (.ldn 2 5),s 54 (.build [(i 0),(i 0)] [(0,1,(k 2)),(1,1,(k 1))]),c 55 (.call 103 [53,54]),m 52 55,s 56 (.ext 52 0),s 57 (.ext 52 1),st 2 5 56])
 (.seq (.reg [m 58 7,s 59 (.bin .gtr 58 (k 0))])
 (.cond 59 (.seq (.reg [m 60 7,s 61 (.bin .sub 60 (k 1)),c 62 (.call 182 [61]),f 8 (.alloc [(i 0),(i 0)]),st 2 8 62])
 (.reg [s 63 (.fa 0 5),s 64 (.ld1 63),s 65 (.fa 0 8),s 66 (.ld1 65),s 67 (.bin .add 64 66),s 68 (.fa 1 5),s 69 (.ld1 68),s 70 (.fa 1 8),s 71 (.ld1 70),s 72 (.bin .add 69 71),s 73 (.build [(i 0),(i 0)] [(0,1,67),(1,1,72)]),st 2 5 73])) .skip)))))))
 (.reg [m 34 6,s 35 (.bin .add 34 (k 1)),m 6 35]))))))
 (.seq (.reg [m 74 4,s 75 (.ldn 2 5),s 76 (.build [(i 0),(i 0),(i 0)] [(0,1,74),(1,2,75)]),st 3 2 76,s 3 (.mv (k 0))])
 .ret)))))) [.cn 2 3,.t 3]
def af149 : AFn := .code 22 (.seq (.reg [f 1 (.box 0),s 2 (.mv (k 0)),s 3 (.mv (k 0)),s 4 (.mv (k 0))])
 (.seq (.seq (.reg [s 6 (.ldn 4 1),c 7 (.call 219 [6]),s 8 (.un .not 7)])
 (.cond 8 (.seq (.reg [s 2 (.mv (k 0)),s 3 (.mv (k 0)),s 4 (.mv (k 0))])
 .ret) .skip))
 (.seq (.reg [s 9 (.fa 0 1),s 10 (.ld1 9),s 11 (.bin .sub (k 30) 10),c 12 (.call 151 [11]),m 5 12])
 (.seq (.dreg 0 [.st 0 (s 13 (.fa 1 1)),
  .st 1 (s 14 (.ld1 13)),
  .st 2 (m 15 5),
  .st 3 (s 16 (.bin .mul 14 15)),
  .st 4 (s 17 (.fa 2 1)),
  .st 5 (s 18 (.ld1 17)),
  .st 6 (m 19 5),
  .st 7 (s 20 (.bin .mul 18 19)),
  .st 8 (m 21 5),
  .st 9 (m 2 16),
  .st 10 (m 3 20),
  .st 11 (m 4 21)])
 .ret)))) [.t 2,.t 3,.t 4]
def af150 : AFn := .code 78 (.seq (.reg [f 2 (.box 0),s 4 (.mv (.c .sn))])
 (.seq (.seq (.reg [s 16 (.ldn 2 2),m 17 1,c 18 (.call 220 [16,17]),m 15 18,s 19 (.ext 15 0),s 20 (.ext 15 1),s 21 (.ext 15 2),m 5 19,m 6 20,m 7 21])
 (.seq (.reg [m 22 7,s 23 (.un .not 22)])
 (.cond 23 (.seq (.reg [s 4 (.mv (.c .sn))])
 .ret) .skip)))
 (.seq (.reg [m 25 1,s 26 (.bin .sub (k 12) 25),c 27 (.call 178 [26]),m 24 27,s 28 (.ext 24 0),s 29 (.ext 24 1),f 8 (.alloc [(i 0),(i 0)]),st 2 8 28,m 9 29])
 (.seq (.reg [s 30 (.build [(i 0),(i 0)] [(0,1,(k 1)),(1,1,(k 1))]),s 31 (.build [(i 0),(i 0)] [(0,1,(.c (.i .i64 (-1)))),(1,1,(k 2))]),s 32 (.build [(i 0),(i 0)] [(0,1,(.c (.i .i64 (-2)))),(1,1,(k 1))]),s 33 (.build [(i 0),(i 0)] [(0,1,(.c (.i .i64 (-1)))),(1,1,(.c (.i .i64 (-1))))]),s 34 (.build [(i 0),(i 0)] [(0,1,(k 1)),(1,1,(.c (.i .i64 (-2))))]),s 35 (.build [(i 0),(i 0)] [(0,1,(k 2)),(1,1,(.c (.i .i64 (-1))))]),s 36 (.build [(i 0),(i 0),(i 0),(i 0),(i 0),(i 0),(i 0),(i 0),(i 0),(i 0),(i 0),(i 0)] [(0,2,30),(2,2,31),(4,2,32),(6,2,33),(8,2,34),(10,2,35)]),f 10 (.alloc [(i 0),(i 0),(i 0),(i 0),(i 0),(i 0),(i 0),(i 0),(i 0),(i 0),(i 0),(i 0)]),st 12 10 36])
 (.seq (.reg [s 11 (.mv (.c .sn))])
 (.seq (.seq (.reg [s 12 (.mv (k 0))])
 (.block 0 (.loop (.seq (.seq (.reg [m 37 12,s 38 (.bin .lss 37 (k 6))])
 (.cond 38 .skip (.exit 0)))
 (.seq (.block 1 (.seq (.dreg 1 [.st 0 (s 42 (.fa 0 2)),
  .st 1 (s 43 (.ld1 42)),
  .st 2 (s 44 (.bin .mul (k 3) 43)),
  .st 3 (m 45 12),
  .st 4 (s 46 (.iaa 6 2 10 45)),
  .st 5 (s 47 (.fa 0 46)),
  .st 6 (s 48 (.ld1 47)),
  .st 7 (s 49 (.bin .add 44 48)),
  .st 8 (s 50 (.fa 1 2)),
  .st 9 (s 51 (.ld1 50)),
  .st 10 (s 52 (.bin .mul (k 3) 51)),
  .st 11 (m 53 12),
  .st 12 (s 54 (.iaa 6 2 10 53)),
  .st 13 (s 55 (.fa 1 54)),
  .st 14 (s 56 (.ld1 55)),
  .st 15 (s 57 (.bin .add 52 56)),
  .st 16 (s 58 (.build [(i 0),(i 0)] [(0,1,49),(1,1,57)])),
  .st 17 (s 59 (.ldn 2 8)),
  .ef 18 (c 60 (.call 103 [58,59])) [] [],
  .st 19 (m 41 60),
  .st 20 (s 61 (.ext 41 0)),
  .st 21 (s 62 (.ext 41 1)),
  .fl 22 (f 13 (.alloc [(i 0),(i 0)])) 0,
  .ef 23 (st 2 13 61) [0] [],
  .st 24 (m 14 62)])
 (.reg [m 63 11,s 64 (.fa 0 13),s 65 (.ld1 64),s 66 (.bin .mul (k 52) 65),s 67 (.fa 1 13),s 68 (.ld1 67),s 69 (.bin .mul (k 26) 68),s 70 (.bin .add 66 69),s 71 (.fa 1 13),s 72 (.ld1 71),s 73 (.bin .mul (k 45) 72),s 74 (.build [(i 0),(i 0)] [(0,1,70),(1,1,73)]),f 75 (.bsl 2 1 [(i 0),(i 0)] [(0,2,74)]),e 76 (.app 2 16 63 75),m 11 76])))
 (.reg [m 39 12,s 40 (.bin .add 39 (k 1)),m 12 40]))))))
 (.seq (.reg [m 77 11,m 4 77])
 .ret))))))) [.t 4]
def af151 : AFn := .code 5 (.seq (.reg [s 2 (.mv (k 0))])
 (.seq (.reg [m 3 0,s 4 (.bin .shl (k 1) 3),m 2 4])
 .ret)) [.t 2]
def af152 : AFn := .code 20 (.seq (.reg [f 4 (.box 1),f 5 (.box 2),s 6 (.mv (.c .sn))])
 (.seq (.dreg 0 [.st 0 (m 7 0),
  .st 1 (s 8 (.iaa 2 1 4 (k 0))),
  .st 2 (s 9 (.ld1 8)),
  .st 4 (s 11 (.iaa 2 1 5 (k 0))),
  .st 5 (s 12 (.ld1 11)),
  .st 7 (s 14 (.iaa 2 1 4 (k 1))),
  .st 8 (s 15 (.ld1 14)),
  .st 10 (s 17 (.iaa 2 1 5 (k 1))),
  .st 11 (s 18 (.ld1 17)),
  .ef 3 (c 10 (.call 221 [7,(k 0),9,(.c (.b true))])) [] [s 12 (.ld1 11),s 15 (.ld1 14),s 18 (.ld1 17)],
  .ef 6 (c 13 (.call 221 [10,(k 0),12,(.c (.b false))])) [] [s 15 (.ld1 14),s 18 (.ld1 17)],
  .ef 9 (c 16 (.call 221 [13,(k 1),15,(.c (.b true))])) [] [s 18 (.ld1 17)],
  .ef 12 (c 19 (.call 221 [16,(k 1),18,(.c (.b false))])) [] [],
  .st 13 (m 6 19)])
 .ret)) [.t 6]
def af153 : AFn := .code 98 (.seq (.reg [s 2 (.mv (.c .sn))])
 (.seq (.seq (.reg [m 12 0,c 13 (.call 222 [12,(k 1000)]),s 14 (.un .not 13),m 15 14,sg 16 15 false (.mv 0),sg 17 15 false (.len 16),sg 18 15 false (.bin .eql 17 (k 0)),s 19 (.pick 15 (.c (.b true)) 18)])
 (.cond 19 (.seq (.reg [s 2 (.mv (.c .sn))])
 .ret) .skip))
 (.seq (.reg [m 20 0,s 21 (.ia 2 20 (k 0)),s 22 (.ldn 2 21),f 3 (.alloc [(i 0),(i 0)]),st 2 3 22])
 (.seq (.seq (.reg [s 4 (.mv (k 0))])
 (.block 0 (.loop (.seq (.seq (.reg [m 23 4,m 24 0,s 25 (.len 24),s 26 (.bin .lss 23 25)])
 (.cond 26 .skip (.exit 0)))
 (.seq (.block 1 (.seq (.dreg 0 [.st 0 (m 29 0),
  .st 1 (m 30 4),
  .st 2 (s 31 (.ia 2 29 30)),
  .st 3 (s 32 (.ldn 2 31)),
  .st 4 (s 33 (.ldn 2 3)),
  .ef 5 (c 34 (.call 223 [32,33])) [] []])
 (.cond 34 (.reg [m 35 0,m 36 4,s 37 (.ia 2 35 36),s 38 (.ldn 2 37),st 2 3 38]) .skip)))
 (.reg [m 27 4,s 28 (.bin .add 27 (k 1)),m 4 28]))))))
 (.seq (.reg [s 5 (.mv (.c .sn))])
 (.seq (.reg [s 39 (.ldn 2 3),f 6 (.alloc [(i 0),(i 0)]),st 2 6 39])
 (.seq (.seq (.reg [s 7 (.mv (k 0))])
 (.block 2 (.loop (.seq (.seq (.reg [m 40 7,m 41 0,s 42 (.len 41),s 43 (.bin .leq 40 42)])
 (.cond 43 .skip (.exit 2)))
 (.seq (.block 3 (.seq (.reg [m 46 5,s 47 (.ldn 2 6),f 48 (.bsl 2 1 [(i 0),(i 0)] [(0,2,47)]),e 49 (.app 2 16 46 48),m 5 49])
 (.seq (.reg [s 50 (.ldn 2 6),f 8 (.alloc [(i 0),(i 0)]),st 2 8 50])
 (.seq (.seq (.reg [s 9 (.mv (k 0))])
 (.block 4 (.loop (.seq (.seq (.reg [m 51 9,m 52 0,s 53 (.len 52),s 54 (.bin .lss 51 53)])
 (.cond 54 .skip (.exit 4)))
 (.seq (.block 5 (.seq (.reg [m 57 0,m 58 9,s 59 (.ia 2 57 58),s 60 (.ldn 2 59),f 10 (.alloc [(i 0),(i 0)]),st 2 10 60])
 (.seq (.seq (.reg [s 61 (.ldn 2 10),s 62 (.ldn 2 6),s 63 (.cmpA [.i64,.i64] false 61 62)])
 (.cond 63 (.exit 5) .skip))
 (.seq (.seq (.reg [s 64 (.ldn 2 8),s 65 (.ldn 2 6),s 66 (.cmpA [.i64,.i64] false 64 65)])
 (.cond 66 (.seq (.reg [s 67 (.ldn 2 10),st 2 8 67])
 (.exit 5)) .skip))
 (.seq (.reg [s 68 (.ldn 2 6),s 69 (.ldn 2 8),s 70 (.ldn 2 10),c 71 (.call 224 [68,69,70]),m 11 71])
 (.seq (.reg [m 72 11,s 73 (.bin .lss 72 (k 0)),m 74 73,sg 75 74 false (.mv 11),sg 76 74 false (.bin .eql 75 (k 0)),sg 77 74 false (.mv 76),sg 78 77 true (.ldn 2 6),sg 79 77 true (.ldn 2 8),sg 80 77 true (.ldn 2 10),cg 81 77 true (.call 225 [78,79,80]),sg 82 74 false (.pick 77 81 (.c (.b false))),s 83 (.pick 74 (.c (.b true)) 82)])
 (.cond 83 (.reg [s 84 (.ldn 2 10),st 2 8 84]) .skip)))))))
 (.reg [m 55 9,s 56 (.bin .add 55 (k 1)),m 9 56]))))))
 (.seq (.seq (.reg [s 85 (.ldn 2 8),s 86 (.ldn 2 3),s 87 (.cmpA [.i64,.i64] false 85 86),m 88 87,sg 89 88 false (.ldn 2 8),sg 90 88 false (.ldn 2 6),sg 91 88 false (.cmpA [.i64,.i64] false 89 90),s 92 (.pick 88 (.c (.b true)) 91)])
 (.cond 92 (.exit 2) .skip))
 (.reg [s 93 (.ldn 2 8),st 2 6 93]))))))
 (.reg [m 44 7,s 45 (.bin .add 44 (k 1)),m 7 45]))))))
 (.seq (.seq (.reg [m 94 5,s 95 (.len 94),s 96 (.bin .lss 95 (k 3))])
 (.cond 96 (.seq (.reg [s 2 (.mv (.c .sn))])
 .ret) .skip))
 (.seq (.reg [m 97 5,m 2 97])
 .ret))))))))) [.t 2]
def af154 : AFn := .code 55 (.seq (.reg [s 4 (.mv (.c .sn))])
 (.seq (.seq (.reg [m 13 0,c 14 (.call 226 [13]),s 15 (.un .not 14),m 16 15,sg 17 16 false (.mv 1),sg 18 16 false (.bin .lss 17 (k 1)),s 19 (.pick 16 (.c (.b true)) 18)])
 (.cond 19 (.seq (.reg [s 4 (.mv (.c .sn))])
 .ret) .skip))
 (.seq (.reg [s 5 (.mv (.c .sn))])
 (.seq (.seq (.reg [s 6 (.mv (k 0))])
 (.block 0 (.loop (.seq (.seq (.reg [m 20 6,m 21 0,s 22 (.len 21),s 23 (.bin .lss 20 22)])
 (.cond 23 .skip (.exit 0)))
 (.seq (.block 1 (.seq (.reg [m 27 0,m 28 6,s 29 (.ia 2 27 28),s 30 (.iaa 2 1 29 (k 0)),s 31 (.ld1 30),m 32 1,c 33 (.call 179 [31,32]),m 26 33,s 34 (.ext 26 0),s 35 (.ext 26 1),s 36 (.ext 26 2),m 7 34,m 8 35,m 9 36])
 (.seq (.reg [m 38 0,m 39 6,s 40 (.ia 2 38 39),s 41 (.iaa 2 1 40 (k 1)),s 42 (.ld1 41),m 43 1,c 44 (.call 179 [42,43]),m 37 44,s 45 (.ext 37 0),s 46 (.ext 37 1),s 47 (.ext 37 2),m 10 45,m 11 46,m 12 47])
 (.reg [m 48 5,m 49 7,m 50 10,s 51 (.build [(i 0),(i 0)] [(0,1,49),(1,1,50)]),f 52 (.bsl 2 1 [(i 0),(i 0)] [(0,2,51)]),e 53 (.app 2 16 48 52),m 5 53]))))
 (.reg [m 24 6,s 25 (.bin .add 24 (k 1)),m 6 25]))))))
 (.seq (.reg [m 54 5,m 4 54])
 .ret))))) [.t 4]
def af155 : AFn := .code 15 (.seq (.reg [s 4 (.mv (.c (.s [])))])
 (.seq (.seq (.reg [m 5 0,c 6 (.call 227 [5]),s 7 (.un .not 6)])
 (.cond 7 (.seq (.reg [s 4 (.mv (.c (.s [])))])
 .ret) .skip))
 (.seq (.reg [m 8 0,s 9 (.bin .mul (k 8) 8),s 10 (.cvi .u64 9),c 11 (.call 228 [10]),m 12 1,c 13 (.call 228 [12]),s 14 (.bin .add 11 13),m 4 14])
 .ret))) [.t 4]
def af156 : AFn := .code 20 (.seq (.reg [s 4 (.mv (.c (.s [])))])
 (.seq (.seq (.reg [m 5 0,c 6 (.call 227 [5]),s 7 (.un .not 6)])
 (.cond 7 (.seq (.reg [s 4 (.mv (.c (.s [])))])
 .ret) .skip))
 (.seq (.reg [m 8 0,s 9 (.bin .mul (k 8) 8),s 10 (.bin .add 9 (k 2)),s 11 (.cvi .u64 10),c 12 (.call 228 [11]),m 13 1,s 14 (.lens 13),s 15 (.cvi .u64 14),c 16 (.call 228 [15]),s 17 (.bin .add 12 16),m 18 1,s 19 (.bin .add 17 18),m 4 19])
 .ret))) [.t 4]
def af157 : AFn := .code 29 (.seq (.reg [s 6 (.mv (.c (.s [])))])
 (.seq (.reg [m 8 2,s 9 (.mx 8 (k 0)),s 10 (.cvi .u64 9),m 7 10])
 (.seq (.reg [m 11 0,c 12 (.call 155 [(k 1),11]),m 13 7,m 14 7,s 15 (.bin .add 14 (.c (.i .u64 1))),m 16 7,s 17 (.bin .add 16 (.c (.i .u64 2))),m 18 7,s 19 (.bin .add 18 (.c (.i .u64 3))),f 20 (.bsl 1 8 [(.i .u64 0),(.i .u64 0),(.i .u64 0),(.i .u64 0),(.i .u64 0),(.i .u64 0),(.i .u64 0),(.i .u64 0)] [(0,1,(.c (.i .u64 0))),(1,1,13),(2,1,(.c (.i .u64 1))),(3,1,15),(4,1,(.c (.i .u64 2))),(5,1,17),(6,1,(.c (.i .u64 3))),(7,1,19)]),c 21 (.call 229 [(k 2),20]),s 22 (.bin .add 12 21),c 23 (.call 155 [(k 3),(.c (.i .u64 3))]),s 24 (.bin .add 22 23),m 25 1,c 26 (.call 230 [25]),c 27 (.call 229 [(k 4),26]),s 28 (.bin .add 24 27),m 6 28])
 .ret))) [.t 6]
def af158 : AFn := .code 10 (.seq (.reg [s 2 (.mv (.c (.i .u64 0)))])
 (.seq (.reg [m 3 0,s 4 (.cvi .u64 3),s 5 (.bin .shl 4 (.c (.i .u64 1))),m 6 0,s 7 (.bin .shr 6 (.c (.i .u64 63))),s 8 (.cvi .u64 7),s 9 (.bin .xor 5 8),m 2 9])
 .ret)) [.t 2]
def af159 : AFn := .code 31 (.seq (.reg [s 6 (.mv (.c (.b false)))])
 (.seq (.reg [m 7 0,s 8 (.nilp true 7 (.c .pn)),m 9 8,sg 10 9 true (.mv 1),sg 11 9 true (.bin .geq 10 (k 0)),s 12 (.pick 9 11 (.c (.b false))),m 13 12,sg 14 13 true (.mv 2),sg 15 13 true (.bin .geq 14 (k 21)),s 16 (.pick 13 15 (.c (.b false))),m 17 16,sg 18 17 true (.mv 1),sg 19 17 true (.mv 0),cg 20 17 true (.call 91 [19]),sg 21 17 true (.bin .leq 18 20),s 22 (.pick 17 21 (.c (.b false))),m 23 22,sg 24 23 true (.mv 2),sg 25 23 true (.mv 0),cg 26 23 true (.call 91 [25]),sg 27 23 true (.mv 1),sg 28 23 true (.bin .sub 26 27),sg 29 23 true (.bin .leq 24 28),s 30 (.pick 23 29 (.c (.b false))),m 6 30])
 .ret)) [.t 6]
def af160 : AFn := .code 48 (.seq (.reg [s 4 (.mv (.c (.i .u64 0)))])
 (.seq (.seq (.reg [m 8 0,s 9 (.nilc 8),s 10 (.fa 0 9),s 11 (.ld1 10),s 12 (.len 11),m 13 1,s 14 (.bin .lss 12 13)])
 (.cond 14 (.seq (.reg [m 15 0,m 16 0,s 17 (.nilc 15),s 18 (.fa 0 17),en (.st 1 18 (.c .sn)),s 19 (.nilc 16),s 20 (.fa 1 19),en (.st 1 20 (.c (.b true)))])
 (.seq (.reg [s 4 (.mv (.c (.i .u64 0)))])
 .ret)) .skip))
 (.seq (.reg [s 5 (.mv (.c (.i .u64 0)))])
 (.seq (.seq (.reg [m 21 0,s 22 (.nilc 21),s 23 (.fa 0 22),s 24 (.ld1 23),m 25 1,s 26 (.slc 1 24 none (some 25) none),s 27 (.len 26),s 28 (.mv (k 0))])
 (.block 0 (.loop (.seq (.reg [s 29 (.bin .lss 28 27)])
 (.seq (.cond 29 .skip (.exit 0))
 (.seq (.block 1 (.seq (.reg [s 30 (.ia 1 26 28),s 31 (.ld1 30),m 7 31])
 (.reg [m 32 5,s 33 (.bin .shl 32 (.c (.i .u64 8))),m 34 7,s 35 (.cvi .u64 34),s 36 (.bin .or 33 35),m 5 36])))
 (.reg [s 37 (.bin .add 28 (k 1)),m 28 37])))))))
 (.seq (.reg [m 38 0,m 39 0,s 40 (.nilc 39),s 41 (.fa 0 40),s 42 (.ld1 41),m 43 1,s 44 (.slc 1 42 (some 43) none none),s 45 (.nilc 38),s 46 (.fa 0 45),st 1 46 44])
 (.seq (.reg [m 47 5,m 4 47])
 .ret)))))) [.t 4]
def af163 : AFn := .code 33 (.seq (.reg [s 6 (.mv (.c (.b false)))])
 (.seq (.reg [m 7 1,s 8 (.bin .geq 7 (k 0)),m 9 8,sg 10 9 true (.mv 2),sg 11 9 true (.bin .geq 10 (k 0)),s 12 (.pick 9 11 (.c (.b false))),m 13 12,sg 14 13 true (.mv 1),sg 15 13 true (.mv 0),sg 16 13 true (.nilc 15),sg 17 13 true (.fa 0 16),sg 18 13 true (.ld1 17),sg 19 13 true (.len 18),sg 20 13 true (.bin .leq 14 19),s 21 (.pick 13 20 (.c (.b false))),m 22 21,sg 23 22 true (.mv 2),sg 24 22 true (.mv 0),sg 25 22 true (.nilc 24),sg 26 22 true (.fa 0 25),sg 27 22 true (.ld1 26),sg 28 22 true (.len 27),sg 29 22 true (.mv 1),sg 30 22 true (.bin .sub 28 29),sg 31 22 true (.bin .leq 23 30),s 32 (.pick 22 31 (.c (.b false))),m 6 32])
 .ret)) [.t 6]
def af164 : AFn := .code 8 (.seq (.reg [s 2 (.mv (.c .sn))])
 (.seq (.seq (.reg [m 3 0,s 4 (.nils false 3 (.c .sn))])
 (.cond 4 (.seq (.reg [s 2 (.mv (.c .sn))])
 .ret) .skip))
 (.seq (.reg [f 5 (.bsl 1 0 [] []),m 6 0,e 7 (.app 1 1 5 6),m 2 7])
 .ret))) [.t 2]
def af165 : AFn := .code 38 (.seq (.reg [s 4 (.mv (.c .sn)),s 5 (.mv (k 0))])
 (.seq (.seq (.reg [m 8 1,s 9 (.bin .lss 8 (.c (.i .u64 1))),m 10 9,sg 11 10 false (.mv 1),sg 12 10 false (.bin .gtr 11 (.c (.i .u64 4611686018427387904))),s 13 (.pick 10 (.c (.b true)) 12)])
 (.cond 13 (.seq (.reg [s 4 (.mv (.c .sn)),s 5 (.mv (k 0))])
 .ret) .skip))
 (.block 0 (.loop (.block 1 (.seq (.reg [m 15 0,m 16 5,s 17 (.slc 1 15 (some 16) none none),m 18 1,c 19 (.call 234 [17,18]),m 14 19,s 20 (.ext 14 0),s 21 (.ext 14 1),m 6 20,m 7 21])
 (.seq (.seq (.reg [m 22 7,s 23 (.un .not 22)])
 (.cond 23 (.seq (.reg [m 24 4,m 25 5,m 4 24,m 5 25])
 .ret) .skip))
 (.seq (.reg [m 26 4,f 27 (.bsl 1 0 [] []),m 28 6,e 29 (.app 1 1 27 28),f 30 (.bsl 1 1 [.sn] [(0,1,29)]),e 31 (.app 1 24 26 30),m 4 31])
 (.reg [m 32 5,m 33 6,s 34 (.len 33),s 35 (.bin .add (k 12) 34),s 36 (.bin .add 35 (k 1)),s 37 (.bin .add 32 36),m 5 37]))))))))) [.t 4,.t 5]
def af166 : AFn := .code 56 (.seq (.reg [s 2 (.mv (.c .sn)),s 3 (.mv (k 0))])
 (.seq (.reg [m 9 0,s 10 (.build [.sn,(.b false)] [(0,1,9)]),f 11 (.box 10),m 4 11])
 (.seq (.reg [s 5 (.mv (.c .sn))])
 (.seq (.block 0 (.loop (.seq (.seq (.reg [m 12 4,s 13 (.nilc 12),s 14 (.fa 0 13),s 15 (.ld1 14),s 16 (.len 15),s 17 (.bin .gtr 16 (k 0)),m 18 17,sg 19 18 true (.mv 5),sg 20 18 true (.len 19),sg 21 18 true (.bin .leq 20 (k 500)),s 22 (.pick 18 21 (.c (.b false)))])
 (.cond 22 .skip (.exit 0)))
 (.block 1 (.seq (.reg [m 23 4,c 24 (.call 160 [23,(k 1)]),s 25 (.cvi .i64 24),s 26 (.build [(i 0),(i 0),(i 0),(i 0),(i 0)] [(0,1,25)]),f 6 (.alloc [(i 0),(i 0),(i 0),(i 0),(i 0)]),st 5 6 26])
 (.seq (.seq (.reg [s 27 (.fa 0 6),s 28 (.ld1 27),s 29 (.bin .eql 28 (k 1))])
 (.cond 29 (.reg [m 30 4,c 31 (.call 231 [30]),s 32 (.fa 1 6),st 4 32 31]) (.reg [m 33 4,c 34 (.call 160 [33,(k 4)]),s 35 (.cvi .i64 34),s 36 (.fa 1 6),s 37 (.fa 0 36),st 1 37 35])))
 (.reg [m 38 5,s 39 (.ldn 5 6),f 40 (.bsl 5 1 [(i 0),(i 0),(i 0),(i 0),(i 0)] [(0,5,39)]),e 41 (.app 5 40 38 40),m 5 41])))))))
 (.seq (.seq (.reg [m 43 5,c 44 (.call 191 [43]),m 42 44,s 45 (.ext 42 0),s 46 (.ext 42 1),m 7 45,m 8 46])
 (.seq (.reg [m 47 4,s 48 (.nilc 47),s 49 (.fa 1 48),s 50 (.ld1 49),m 51 50,sg 52 51 false (.mv 8),sg 53 51 false (.bin .neq 52 (k 0)),s 54 (.pick 51 (.c (.b true)) 53)])
 (.cond 54 (.seq (.reg [s 2 (.mv (.c .sn)),s 3 (.mv (k 10))])
 .ret) .skip)))
 (.seq (.reg [m 55 5,m 2 55,s 3 (.mv (k 0))])
 .ret)))))) [.t 2,.t 3]
def af167 : AFn := .code 49 (.seq (.reg [s 6 (.mv (.c (.b false)))])
 (.seq (.reg [m 10 0,s 11 (.nilc 10),s 12 (.fa 6 11),s 13 (.ld1 12),m 14 1,c 15 (.call 235 [13,14]),m 7 15])
 (.seq (.seq (.reg [m 16 7,s 17 (.len 16),s 18 (.bin .gtr 17 (k 2000))])
 (.cond 18 (.seq (.reg [s 6 (.mv (.c (.b false)))])
 .ret) .skip))
 (.seq (.dreg 1 [.st 0 (m 20 0),
  .st 1 (s 21 (.nilc 20)),
  .st 2 (s 22 (.fa 4 21)),
  .st 3 (s 23 (.ld1 22)),
  .st 4 (m 24 2),
  .fl 5 (f 25 (.mks 1 (.i .u8 0) 24)) 0,
  .ef 6 (c 26 (.call 236 [23,25])) [0] [],
  .st 7 (m 19 26),
  .st 8 (s 27 (.ext 19 0)),
  .st 9 (s 28 (.ext 19 1)),
  .st 10 (m 8 27),
  .st 11 (m 9 28)])
 (.seq (.reg [m 29 0,m 30 7,s 31 (.nilc 29),s 32 (.fa 6 31),st 1 32 30])
 (.seq (.reg [m 33 0,s 34 (.nilc 33),s 35 (.fa 5 34),s 36 (.ld1 35),s 37 (.bin .add 36 (.c (.i .u64 1))),s 38 (.nilc 33),s 39 (.fa 5 38),st 1 39 37])
 (.seq (.reg [m 40 0,s 41 (.nilc 40),s 42 (.fa 7 41),s 43 (.ld1 42),m 44 8,s 45 (.len 44),s 46 (.bin .add 43 45),s 47 (.nilc 40),s 48 (.fa 7 47),st 1 48 46])
 (.seq (.reg [s 6 (.mv (.c (.b true)))])
 .ret)))))))) [.t 6]
def af168 : AFn := .code 19 (.seq (.reg [s 4 (.mv (k 0))])
 (.seq (.seq (.reg [m 6 0,s 7 (.len 6),s 8 (.mv (k 0))])
 (.block 0 (.loop (.seq (.reg [s 9 (.bin .lss 8 7)])
 (.seq (.cond 9 .skip (.exit 0))
 (.seq (.block 1 (.seq (.reg [m 10 8,m 5 10])
 (.seq (.reg [m 11 1,m 12 0,m 13 5,s 14 (.ia 1 12 13),s 15 (.ld1 14),c 16 (.dyn 11 [15])])
 (.cond 16 (.seq (.reg [m 17 5,m 4 17])
 .ret) .skip))))
 (.reg [s 18 (.bin .add 8 (k 1)),m 8 18])))))))
 (.seq (.reg [s 4 (.mv (.c (.i .i64 (-1))))])
 .ret))) [.t 4]
def af169 : AFn := .code 42 (.seq (.reg [s 6 (.mv (k 0))])
 (.seq (.seq (.reg [m 9 0,m 10 1,m 11 2,s 12 (.len 11),c 13 (.call 163 [9,10,12]),s 14 (.un .not 13)])
 (.cond 14 (.seq (.reg [s 6 (.mv (k 1))])
 .ret) .skip))
 (.seq (.seq (.reg [m 15 0,c 16 (.call 237 [15]),m 7 16])
 (.seq (.reg [m 17 7,s 18 (.bin .neq 17 (k 0))])
 (.cond 18 (.seq (.reg [m 19 7,m 6 19])
 .ret) .skip)))
 (.seq (.reg [m 20 1,m 21 2,c 22 (.call 164 [21]),s 23 (.build [(i 0),.sn] [(0,1,20),(1,1,22)]),f 8 (.alloc [(i 0),.sn]),st 2 8 23])
 (.seq (.dreg 0 [.st 0 (s 24 (.ldn 2 8)),
  .st 1 (m 25 0),
  .st 2 (s 26 (.nilc 25)),
  .st 3 (s 27 (.fa 0 26)),
  .st 4 (s 28 (.ld1 27)),
  .st 5 (m 29 2),
  .st 6 (s 30 (.len 29)),
  .ef 7 (c 31 (.call 238 [24,28,30])) [] []])
 (.seq (.dreg 1 [.st 0 (m 32 0),
  .st 1 (m 33 0),
  .st 2 (s 34 (.nilc 33)),
  .st 3 (s 35 (.fa 2 34)),
  .st 4 (s 36 (.ld1 35)),
  .st 5 (s 37 (.ldn 2 8)),
  .fl 6 (f 38 (.bsl 2 1 [(i 0),.sn] [(0,2,37)])) 0,
  .ef 7 (e 39 (.app 2 32 36 38)) [0] [],
  .st 8 (s 40 (.nilc 32)),
  .st 9 (s 41 (.fa 2 40)),
  .ef 10 (st 1 41 39) [] []])
 (.seq (.reg [s 6 (.mv (k 0))])
 .ret))))))) [.t 6]
def af171 : AFn := .code 18 (.seq (.reg [s 0 (.mv (.c .pn))])
 (.seq (.reg [f 3 (.mkm),c 4 (.call 239 []),s 5 (.build [.mn,.pn,.mn,.mn,.mn,.mn,.mn,.mn,.mn,.mn,.mn,.mn,.mn,.mn,.mn] [(0,1,3),(1,1,4)]),f 6 (.box 5),m 1 6])
 (.seq (.seq (.reg [s 7 (.mv (k 0))])
 (.block 0 (.loop (.seq (.reg [s 8 (.bin .lss 7 (k 13))])
 (.seq (.cond 8 .skip (.exit 0))
 (.seq (.block 1 (.seq (.reg [m 9 7,m 2 9])
 (.reg [m 10 1,m 11 2,f 12 (.mkm),s 13 (.nilc 10),s 14 (.fa 2 13),s 15 (.iaa 13 1 14 11),st 1 15 12])))
 (.reg [s 16 (.bin .add 7 (k 1)),m 7 16])))))))
 (.seq (.reg [m 17 1,m 0 17])
 .ret)))) [.t 0]
def af172 : AFn := .code 75 (.seq (.reg [f 3 (.box 1),s 4 (.mv (.c (.b false)))])
 (.seq (.dreg 1 [.st 0 (m 11 0),
  .st 1 (s 12 (.nilc 11)),
  .st 2 (s 13 (.fa 0 12)),
  .st 3 (s 14 (.ld1 13)),
  .st 4 (s 15 (.fa 0 3)),
  .st 5 (s 16 (.ld1 15)),
  .st 6 (s 17 (.lkp (.ag [(i 0),(i 0),(i 0),(i 0)]) true 14 16)),
  .st 7 (m 10 17),
  .st 8 (s 18 (.ext 10 0)),
  .st 9 (s 19 (.ext 10 1)),
  .fl 10 (f 5 (.alloc [(i 0),(i 0),(i 0),(i 0)])) 0,
  .ef 11 (st 4 5 18) [0] [],
  .st 12 (m 6 19)])
 (.seq (.seq (.reg [s 20 (.ldn 4 3),c 21 (.call 240 [20]),s 22 (.un .not 21),m 23 22,sg 24 23 false (.mv 6),sg 25 23 false (.un .not 24),sg 26 23 false (.mv 25),sg 27 26 true (.mv 0),sg 28 26 true (.nilc 27),sg 29 26 true (.fa 0 28),sg 30 26 true (.ld1 29),sg 31 26 true (.lenm 30),sg 32 26 true (.bin .geq 31 (k 2000)),sg 33 23 false (.pick 26 32 (.c (.b false))),s 34 (.pick 23 (.c (.b true)) 33)])
 (.cond 34 (.seq (.reg [s 4 (.mv (.c (.b false)))])
 .ret) .skip))
 (.seq (.reg [m 35 0,s 36 (.fa 0 3),s 37 (.ld1 36),c 38 (.call 241 [35,37])])
 (.seq (.dreg 0 [.st 0 (m 39 0),
  .st 1 (s 40 (.nilc 39)),
  .st 2 (s 41 (.fa 0 40)),
  .st 3 (s 42 (.ld1 41)),
  .st 4 (s 43 (.fa 0 3)),
  .st 5 (s 44 (.ld1 43)),
  .st 6 (s 45 (.ldn 4 3)),
  .ef 7 (en (.mup 42 44 45)) [] []])
 (.seq (.reg [m 46 0,s 47 (.nilc 46),s 48 (.fa 1 47),s 49 (.ld1 48),s 50 (.mkfn (.func 242) [49] []),m 7 50])
 (.seq (.seq (.reg [s 51 (.mv (k 0))])
 (.block 0 (.loop (.seq (.reg [s 52 (.bin .lss 51 (k 13))])
 (.seq (.cond 52 .skip (.exit 0))
 (.seq (.block 1 (.seq (.reg [m 53 51,m 8 53])
 (.seq (.reg [s 54 (.ldn 4 3),m 55 8,c 56 (.call 243 [54,55]),m 9 56])
 (.seq (.reg [m 57 7,m 58 9,s 59 (.fa 3 3),s 60 (.ld1 59),s 61 (.fa 0 3),s 62 (.ld1 61),s 63 (.build [(.i .u64 0),(i 0),(i 0)] [(0,1,58),(1,1,60),(2,1,62)]),c 64 (.dyn 57 [63])])
 (.reg [m 65 0,m 66 8,s 67 (.nilc 65),s 68 (.fa 2 67),s 69 (.iaa 13 1 68 66),s 70 (.ld1 69),m 71 9,s 72 (.lkp (i 0) false 70 71),s 73 (.bin .add 72 (k 1)),en (.mup 70 71 73)])))))
 (.reg [s 74 (.bin .add 51 (k 1)),m 51 74])))))))
 (.seq (.reg [s 4 (.mv (.c (.b true)))])
 .ret)))))))) [.t 4]
def af173 : AFn := .code 8 (.seq (.reg [s 2 (.mv (.c .sn))])
 (.seq (.seq (.reg [m 3 0,s 4 (.nils false 3 (.c .sn))])
 (.cond 4 (.seq (.reg [s 2 (.mv (.c .sn))])
 .ret) .skip))
 (.seq (.reg [f 5 (.bsl 4 0 [] []),m 6 0,e 7 (.app 4 32 5 6),m 2 7])
 .ret))) [.t 2]
def af174 : AFn := .code 39 (.seq (.reg [f 4 (.alloc [(.i .u64 0),(.i .u64 0)])])
 (.seq (.reg [m 9 0,s 10 (.cvi .u64 9),m 11 1,s 12 (.cvi .u64 11),m 5 10,m 6 12])
 (.seq (.seq (.reg [m 13 0,s 14 (.bin .lss 13 (k 0))])
 (.cond 14 (.reg [m 15 5,s 16 (.un .neg 15),m 5 16]) .skip))
 (.seq (.seq (.reg [m 17 1,s 18 (.bin .lss 17 (k 0))])
 (.cond 18 (.reg [m 19 6,s 20 (.un .neg 19),m 6 20]) .skip))
 (.seq (.reg [m 22 5,m 23 6,c 24 (.call 128 [22,23]),m 21 24,s 25 (.ext 21 0),s 26 (.ext 21 1),m 7 25,m 8 26])
 (.seq (.seq (.reg [m 27 0,s 28 (.bin .lss 27 (k 0)),m 29 1,s 30 (.bin .lss 29 (k 0)),s 31 (.eqb true 28 30)])
 (.cond 31 (.seq (.reg [m 32 7,m 33 8,s 34 (.build [(.i .u64 0),(.i .u64 0)] [(0,1,32),(1,1,33)]),c 35 (.call 177 [34]),st 2 4 35])
 .ret) .skip))
 (.seq (.reg [m 36 7,m 37 8,s 38 (.build [(.i .u64 0),(.i .u64 0)] [(0,1,36),(1,1,37)]),st 2 4 38])
 .ret))))))) [.cn 4 2]
def af175 : AFn := .code 30 (.seq (.reg [f 2 (.box 0),f 3 (.box 1),f 4 (.alloc [(i 0),(i 0)]),s 5 (.mv (.c (.b false)))])
 (.seq (.reg [s 11 (.ldn 2 2),c 12 (.call 244 [11]),m 10 12,s 13 (.ext 10 0),s 14 (.ext 10 1),m 6 13,m 7 14])
 (.seq (.reg [s 16 (.ldn 2 3),c 17 (.call 244 [16]),m 15 17,s 18 (.ext 15 0),s 19 (.ext 15 1),m 8 18,m 9 19])
 (.seq (.seq (.reg [m 20 7,s 21 (.un .not 20),m 22 21,sg 23 22 false (.mv 9),sg 24 22 false (.un .not 23),s 25 (.pick 22 (.c (.b true)) 24)])
 (.cond 25 (.seq (.reg [s 26 (.build [(i 0),(i 0)] []),st 2 4 26,s 5 (.mv (.c (.b false)))])
 .ret) .skip))
 (.seq (.reg [m 27 6,m 28 8,s 29 (.build [(i 0),(i 0)] [(0,1,27),(1,1,28)]),st 2 4 29,s 5 (.mv (.c (.b true)))])
 .ret))))) [.cn 4 2,.t 5]
def af176 : AFn := .code 29 (.seq (.reg [f 2 (.box 0),f 3 (.box 1),f 4 (.alloc [(.i .u64 0),(.i .u64 0)])])
 (.seq (.reg [s 10 (.fa 1 2),s 11 (.ld1 10),s 12 (.fa 1 3),s 13 (.ld1 12),c 14 (.call 127 [11,13,(.c (.i .u64 0))]),m 9 14,s 15 (.ext 9 0),s 16 (.ext 9 1),m 5 15,m 6 16])
 (.seq (.reg [s 18 (.fa 0 2),s 19 (.ld1 18),s 20 (.fa 0 3),s 21 (.ld1 20),m 22 6,c 23 (.call 127 [19,21,22]),m 17 23,s 24 (.ext 17 0),s 25 (.ext 17 1),m 7 24,m 8 25])
 (.seq (.reg [m 26 7,m 27 5,s 28 (.build [(.i .u64 0),(.i .u64 0)] [(0,1,26),(1,1,27)]),st 2 4 28])
 .ret)))) [.cn 4 2]
def af177 : AFn := .code 12 (.seq (.reg [f 1 (.box 0),f 2 (.alloc [(.i .u64 0),(.i .u64 0)])])
 (.seq (.reg [s 3 (.fa 0 1),s 4 (.ld1 3),s 5 (.un .xor 4),s 6 (.fa 1 1),s 7 (.ld1 6),s 8 (.un .xor 7),s 9 (.build [(.i .u64 0),(.i .u64 0)] [(0,1,5),(1,1,8)]),s 10 (.build [(.i .u64 0),(.i .u64 0)] [(0,1,(.c (.i .u64 0))),(1,1,(.c (.i .u64 1)))]),c 11 (.call 176 [9,10]),st 2 2 11])
 .ret)) [.cn 2 2]
def af178 : AFn := .code 26 (.seq (.reg [f 2 (.alloc [(i 0),(i 0)]),s 3 (.mv (.c (.b false)))])
 (.seq (.seq (.reg [m 6 0,s 7 (.bin .lss 6 (k 0)),m 8 7,sg 9 8 false (.mv 0),sg 10 8 false (.bin .gtr 9 (k 20)),s 11 (.pick 8 (.c (.b true)) 10)])
 (.cond 11 (.seq (.reg [s 12 (.build [(i 0),(i 0)] []),st 2 2 12,s 3 (.mv (.c (.b false)))])
 .ret) .skip))
 (.seq (.reg [s 13 (.build [(i 0),(i 0)] [(0,1,(k 1))]),f 4 (.alloc [(i 0),(i 0)]),st 2 4 13])
 (.seq (.seq (.reg [s 5 (.mv (k 0))])
 (.block 0 (.loop (.seq (.seq (.reg [m 14 5,m 15 0,s 16 (.bin .lss 14 15)])
 (.cond 16 .skip (.exit 0)))
 (.seq (.block 1 (.reg [s 20 (.ldn 2 4),s 21 (.build [(i 0),(i 0)] [(0,1,(k 2)),(1,1,(k 1))]),c 22 (.call 103 [20,21]),m 19 22,s 23 (.ext 19 0),s 24 (.ext 19 1),st 2 4 23]))
 (.reg [m 17 5,s 18 (.bin .add 17 (k 1)),m 5 18]))))))
 (.seq (.reg [s 25 (.ldn 2 4),st 2 2 25,s 3 (.mv (.c (.b true)))])
 .ret))))) [.cn 2 2,.t 3]
def af179 : AFn := .code 26 (.seq (.reg [s 4 (.mv (k 0)),s 5 (.mv (k 0)),s 6 (.mv (.c (.b false)))])
 (.seq (.seq (.reg [m 9 1,s 10 (.bin .leq 9 (k 0))])
 (.cond 10 (.seq (.reg [s 4 (.mv (k 0)),s 5 (.mv (k 0)),s 6 (.mv (.c (.b false)))])
 .ret) .skip))
 (.seq (.dreg 0 [.st 0 (m 11 0),
  .st 1 (m 12 1),
  .st 2 (s 13 (.bin .quo 11 12)),
  .st 3 (m 14 0),
  .st 4 (m 15 1),
  .st 5 (s 16 (.bin .rem 14 15)),
  .st 6 (m 7 13),
  .st 7 (m 8 16)])
 (.seq (.seq (.reg [m 17 8,s 18 (.bin .lss 17 (k 0))])
 (.cond 18 (.reg [m 19 7,s 20 (.bin .sub 19 (k 1)),m 21 8,m 22 1,s 23 (.bin .add 21 22),m 7 20,m 8 23]) .skip))
 (.seq (.reg [m 24 7,m 25 8,m 4 24,m 5 25,s 6 (.mv (.c (.b true)))])
 .ret))))) [.t 4,.t 5,.t 6]
def af180 : AFn := .code 31 (.seq (.reg [s 6 (.mv (.c (.b false)))])
 (.seq (.reg [m 7 0,s 8 (.bin .mul (k 2) 7),m 9 1,s 10 (.bin .add 8 9),c 11 (.call 245 [10]),m 12 2,s 13 (.bin .leq 11 12),m 14 13,sg 15 14 true (.mv 0),sg 16 14 true (.mv 1),sg 17 14 true (.bin .mul (k 2) 16),sg 18 14 true (.bin .add 15 17),cg 19 14 true (.call 245 [18]),sg 20 14 true (.mv 2),sg 21 14 true (.bin .leq 19 20),s 22 (.pick 14 21 (.c (.b false))),m 23 22,sg 24 23 true (.mv 0),sg 25 23 true (.mv 1),sg 26 23 true (.bin .sub 24 25),cg 27 23 true (.call 245 [26]),sg 28 23 true (.mv 2),sg 29 23 true (.bin .leq 27 28),s 30 (.pick 23 29 (.c (.b false))),m 6 30])
 .ret)) [.t 6]
def af181 : AFn := .code 44 (.seq (.reg [s 4 (.mv (k 0)),s 5 (.mv (.c (.b false)))])
 (.seq (.seq (.reg [m 10 1,s 11 (.bin .lss 10 (k 0))])
 (.cond 11 (.seq (.reg [s 4 (.mv (k 0)),s 5 (.mv (.c (.b false)))])
 .ret) .skip))
 (.seq (.reg [s 6 (.mv (k 1))])
 (.seq (.seq (.reg [s 7 (.mv (k 0))])
 (.block 0 (.loop (.seq (.seq (.reg [m 12 7,m 13 1,s 14 (.bin .lss 12 13)])
 (.cond 14 .skip (.exit 0)))
 (.seq (.block 1 (.seq (.seq (.reg [m 17 6,s 18 (.bin .eql 17 (k 0)),m 19 18,sg 20 19 false (.mv 6),sg 21 19 false (.bin .eql 20 (k 1)),sg 22 19 false (.mv 21),sg 23 22 true (.mv 0),sg 24 22 true (.bin .eql 23 (k 1)),sg 25 19 false (.pick 22 24 (.c (.b false))),s 26 (.pick 19 (.c (.b true)) 25)])
 (.cond 26 (.seq (.reg [m 27 6,m 4 27,s 5 (.mv (.c (.b true)))])
 .ret) .skip))
 (.seq (.seq (.reg [m 28 0,s 29 (.bin .eql 28 (.c (.i .i64 (-1))))])
 (.cond 29 (.seq (.seq (.reg [m 30 1,s 31 (.bin .rem 30 (k 2)),s 32 (.bin .eql 31 (k 1))])
 (.cond 32 (.seq (.reg [s 4 (.mv (.c (.i .i64 (-1)))),s 5 (.mv (.c (.b true)))])
 .ret) .skip))
 (.seq (.reg [s 4 (.mv (k 1)),s 5 (.mv (.c (.b true)))])
 .ret)) .skip))
 (.seq (.reg [m 34 6,m 35 0,c 36 (.call 174 [34,35]),c 37 (.call 244 [36]),m 33 37,s 38 (.ext 33 0),s 39 (.ext 33 1),m 8 38,m 9 39])
 (.seq (.seq (.reg [m 40 9,s 41 (.un .not 40)])
 (.cond 41 (.seq (.reg [s 4 (.mv (k 0)),s 5 (.mv (.c (.b false)))])
 .ret) .skip))
 (.reg [m 42 8,m 6 42]))))))
 (.reg [m 15 7,s 16 (.bin .add 15 (k 1)),m 7 16]))))))
 (.seq (.reg [m 43 6,m 4 43,s 5 (.mv (.c (.b true)))])
 .ret))))) [.t 4,.t 5]
def af183 : AFn := .code 18 (.seq (.reg [s 4 (.mv (.c (.b false)))])
 (.seq (.reg [m 5 0,s 6 (.len 5),m 7 1,s 8 (.len 7),s 9 (.bin .geq 6 8),m 10 9,sg 11 10 true (.mv 0),sg 12 10 true (.mv 1),sg 13 10 true (.len 12),sg 14 10 true (.slc 1 11 none (some 13) none),sg 15 10 true (.mv 1),cg 16 10 true (.call 246 [14,15]),s 17 (.pick 10 16 (.c (.b false))),m 4 17])
 .ret)) [.t 4]
def af184 : AFn := .code 30 (.seq (.reg [s 6 (.mv (k 0))])
 (.seq (.reg [s 7 (.mv (k 0))])
 (.seq (.block 0 (.loop (.seq (.seq (.reg [m 10 7,m 11 0,s 12 (.len 11),s 13 (.bin .lss 10 12)])
 (.cond 13 .skip (.exit 0)))
 (.block 1 (.seq (.reg [m 15 0,m 16 7,s 17 (.slc 1 15 (some 16) none none),c 18 (.call 247 [17]),m 14 18,s 19 (.ext 14 0),s 20 (.ext 14 1),m 8 19,m 9 20])
 (.seq (.seq (.reg [m 21 1,m 22 8,c 23 (.dyn 21 [22]),m 24 2,s 25 (.eqb false 23 24)])
 (.cond 25 (.seq (.reg [m 26 7,m 6 26])
 .ret) .skip))
 (.reg [m 27 7,m 28 9,s 29 (.bin .add 27 28),m 7 29])))))))
 (.seq (.reg [s 6 (.mv (.c (.i .i64 (-1))))])
 .ret)))) [.t 6]
def af185 : AFn := .code 30 (.seq (.reg [s 0 (.mv (.c .sn))])
 (.seq (.reg [c 1 (.call 248 [(.c (.s [120,32,121,32,114]))]),s 2 (.build [(i 0),(.s []),.sn] [(0,1,(k 1)),(1,1,(.c (.s [99,101,108,108]))),(2,1,1)]),c 3 (.call 249 [(.c (.s [119]))]),s 4 (.build [(i 0),(.s []),.sn] [(0,1,(k 2)),(1,1,(.c (.s [112,97,114,101,110,116]))),(2,1,3)]),c 5 (.call 249 [(.c (.s [119]))]),s 6 (.build [(i 0),(.s []),.sn] [(0,1,(k 3)),(1,1,(.c (.s [107,105,100,115]))),(2,1,5)]),c 7 (.call 249 [(.c (.s [119]))]),s 8 (.build [(i 0),(.s []),.sn] [(0,1,(k 4)),(1,1,(.c (.s [110,101,97,114]))),(2,1,7)]),c 9 (.call 249 [(.c (.s [119,32,107]))]),s 10 (.build [(i 0),(.s []),.sn] [(0,1,(k 5)),(1,1,(.c (.s [114,105,110,103]))),(2,1,9)]),c 11 (.call 249 [(.c (.s [119,32,107]))]),s 12 (.build [(i 0),(.s []),.sn] [(0,1,(k 6)),(1,1,(.c (.s [100,105,115,107]))),(2,1,11)]),c 13 (.call 249 [(.c (.s [119,32,118]))]),s 14 (.build [(i 0),(.s []),.sn] [(0,1,(k 7)),(1,1,(.c (.s [100,105,115,116]))),(2,1,13)]),c 15 (.call 248 [(.c (.s [120,32,121,32,117,32,118,32,114]))]),s 16 (.build [(i 0),(.s []),.sn] [(0,1,(k 8)),(1,1,(.c (.s [98,111,120]))),(2,1,15)]),c 17 (.call 249 [(.c (.s [119]))]),s 18 (.build [(i 0),(.s []),.sn] [(0,1,(k 9)),(1,1,(.c (.s [115,116,97,116]))),(2,1,17)]),c 19 (.call 248 [(.c (.s [114,32,107]))]),s 20 (.build [(i 0),(.s []),.sn] [(0,1,(k 10)),(1,1,(.c (.s [116,111,112]))),(2,1,19)]),c 21 (.call 248 [(.c (.s [122,32,120,32,121,32,114]))]),s 22 (.build [(i 0),(.s []),.sn] [(0,1,(k 11)),(1,1,(.c (.s [116,105,108,101]))),(2,1,21)]),s 23 (.build [(i 0),(.s []),.sn] [(0,1,(k 12)),(1,1,(.c (.s [115,121,110,99]))),(2,1,(.c .sn))]),s 24 (.build [(i 0),(.s []),.sn] [(0,1,(k 13)),(1,1,(.c (.s [109,97,114,107]))),(2,1,(.c .sn))]),s 25 (.build [(i 0),(.s []),.sn] [(0,1,(k 14)),(1,1,(.c (.s [105,110,102,111]))),(2,1,(.c .sn))]),c 26 (.call 248 [(.c (.s [114]))]),s 27 (.build [(i 0),(.s []),.sn] [(0,1,(k 15)),(1,1,(.c (.s [102,105,108,108]))),(2,1,26)]),s 28 (.build [(i 0),(.s []),.sn] [(0,1,(k 16)),(1,1,(.c (.s [108,111,97,100]))),(2,1,(.c .sn))]),f 29 (.bsl 3 16 [(i 0),(.s []),.sn,(i 0),(.s []),.sn,(i 0),(.s []),.sn,(i 0),(.s []),.sn,(i 0),(.s []),.sn,(i 0),(.s []),.sn,(i 0),(.s []),.sn,(i 0),(.s []),.sn,(i 0),(.s []),.sn,(i 0),(.s []),.sn,(i 0),(.s []),.sn,(i 0),(.s []),.sn,(i 0),(.s []),.sn,(i 0),(.s []),.sn,(i 0),(.s []),.sn,(i 0),(.s []),.sn] [(0,3,2),(3,3,4),(6,3,6),(9,3,8),(12,3,10),(15,3,12),(18,3,14),(21,3,16),(24,3,18),(27,3,20),(30,3,22),(33,3,23),(36,3,24),(39,3,25),(42,3,27),(45,3,28)]),m 0 29])
 .ret)) [.t 0]
def af186 : AFn := .code 19 (.seq (.reg [s 4 (.mv (k 0))])
 (.seq (.seq (.reg [m 6 0,s 7 (.len 6),s 8 (.mv (k 0))])
 (.block 0 (.loop (.seq (.reg [s 9 (.bin .lss 8 7)])
 (.seq (.cond 9 .skip (.exit 0))
 (.seq (.block 1 (.seq (.reg [m 10 8,m 5 10])
 (.seq (.reg [m 11 1,m 12 0,m 13 5,s 14 (.ia 3 12 13),s 15 (.ldn 3 14),c 16 (.dyn 11 [15])])
 (.cond 16 (.seq (.reg [m 17 5,m 4 17])
 .ret) .skip))))
 (.reg [s 18 (.bin .add 8 (k 1)),m 8 18])))))))
 (.seq (.reg [s 4 (.mv (.c (.i .i64 (-1))))])
 .ret))) [.t 4]
def af187 : AFn := .code 102 (.seq (.reg [f 2 (.box 0),f 4 (.alloc [(i 0),.sn,.sn,.sn,.sn]),s 5 (.mv (.c .sn)),s 6 (.mv (.c (.b false)))])
 (.seq (.reg [s 15 (.fa 0 2),s 16 (.ld1 15),s 17 (.fa 0 4),st 1 17 16])
 (.seq (.reg [m 18 1,c 19 (.call 250 [18,(.c (.s [38]))]),m 7 19])
 (.seq (.seq (.reg [s 20 (.fa 0 2),s 21 (.ld1 20),s 22 (.bin .eql 21 (k 15))])
 (.cond 22 (.seq (.reg [s 24 (.build [(.s []),(.b false)] [(0,1,(.c (.s [112])))]),m 25 7,m 26 7,s 27 (.len 26),s 28 (.bin .sub 27 (k 1)),s 29 (.ia 1 25 28),s 30 (.ld1 29),c 31 (.call 251 [24,30]),m 23 31,s 32 (.ext 23 0),s 33 (.ext 23 1),m 8 32,m 9 33])
 (.seq (.reg [m 34 7,m 35 7,s 36 (.len 35),s 37 (.bin .sub 36 (k 1)),s 38 (.slc 1 34 none (some 37) none),m 7 38])
 (.seq (.reg [m 40 8,c 41 (.call 252 [40]),m 39 41,s 42 (.ext 39 0),s 43 (.ext 39 1),s 44 (.fa 3 4),st 1 44 42,m 6 43])
 (.seq (.reg [m 45 9,s 46 (.un .not 45),m 47 46,sg 48 47 false (.mv 6),sg 49 47 false (.un .not 48),s 50 (.pick 47 (.c (.b true)) 49)])
 (.cond 50 (.seq (.reg [s 51 (.ldn 5 4),st 5 4 51,s 5 (.mv (.c .sn)),s 6 (.mv (.c (.b false)))])
 .ret) .skip))))) .skip))
 (.seq (.seq (.reg [m 52 7,s 53 (.len 52),s 54 (.fa 2 2),s 55 (.ld1 54),s 56 (.len 55),s 57 (.bin .neq 53 56)])
 (.cond 57 (.seq (.reg [s 58 (.ldn 5 4),st 5 4 58,s 5 (.mv (.c .sn)),s 6 (.mv (.c (.b false)))])
 .ret) .skip))
 (.seq (.seq (.reg [s 59 (.fa 2 2),s 60 (.ld1 59),s 61 (.len 60),s 62 (.mv (k 0))])
 (.block 0 (.loop (.seq (.reg [s 63 (.bin .lss 62 61)])
 (.seq (.cond 63 .skip (.exit 0))
 (.seq (.block 1 (.seq (.reg [m 64 62,s 65 (.ia 2 60 62),s 66 (.ldn 2 65),f 11 (.alloc [(.s []),(.b false)]),m 10 64,st 2 11 66])
 (.seq (.dreg 0 [.st 0 (s 68 (.ldn 2 11)),
  .st 1 (m 69 7),
  .st 2 (m 70 10),
  .st 3 (s 71 (.ia 1 69 70)),
  .st 4 (s 72 (.ld1 71)),
  .ef 5 (c 73 (.call 251 [68,72])) [] [],
  .st 6 (m 67 73),
  .st 7 (s 74 (.ext 67 0)),
  .st 8 (s 75 (.ext 67 1)),
  .st 9 (m 12 74),
  .st 10 (m 13 75)])
 (.seq (.seq (.reg [m 76 13,s 77 (.un .not 76)])
 (.cond 77 (.seq (.reg [s 78 (.ldn 5 4),st 5 4 78,s 5 (.mv (.c .sn)),s 6 (.mv (.c (.b false)))])
 .ret) .skip))
 (.seq (.seq (.reg [s 79 (.fa 1 11),s 80 (.ld1 79)])
 (.cond 80 (.seq (.reg [m 81 5,m 82 12,f 83 (.bsl 1 1 [(.s [])] [(0,1,82)]),e 84 (.app 1 16 81 83),m 5 84])
 (.exit 1)) .skip))
 (.seq (.reg [m 86 12,c 87 (.call 253 [86]),m 85 87,s 88 (.ext 85 0),s 89 (.ext 85 1),m 14 88,m 13 89])
 (.seq (.seq (.reg [m 90 13,s 91 (.un .not 90)])
 (.cond 91 (.seq (.reg [s 92 (.ldn 5 4),st 5 4 92,s 5 (.mv (.c .sn)),s 6 (.mv (.c (.b false)))])
 .ret) .skip))
 (.reg [s 93 (.fa 1 4),s 94 (.ld1 93),m 95 14,f 96 (.bsl 1 1 [(i 0)] [(0,1,95)]),e 97 (.app 1 8 94 96),s 98 (.fa 1 4),st 1 98 97]))))))))
 (.reg [s 99 (.bin .add 62 (k 1)),m 62 99])))))))
 (.seq (.reg [s 100 (.ldn 5 4),m 101 5,st 5 4 100,m 5 101,s 6 (.mv (.c (.b true)))])
 .ret))))))) [.cn 4 5,.t 5,.t 6]
def af189 : AFn := .code 9 (.seq (.reg [f 2 (.box 0),s 3 (.mv (.c (.b false)))])
 (.seq (.reg [s 4 (.fa 0 2),s 5 (.ld1 4),s 6 (.fa 0 1),s 7 (.ld1 6),s 8 (.bin .eql 5 7),m 3 8])
 .ret)) [.t 3]
end
end Go.RE
