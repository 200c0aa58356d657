/- The printed tree of the table's row, behind its row: a part by itself, and what it ends with. -/
import Derived.Test.YtmdlhnojpcnnbaaTbH
set_option linter.unusedVariables false
namespace Go.Proofs.Ytmdlhnojpcnnbaa
open Go Go.X
noncomputable def rowEnd (ret0 : PV → (List HE) → R) (p1 : PV) (n2 : Int) (n3 : Int) (q : Nat) (h : List HE) : R :=
  bif (PV.isRp p1) then
    bif (true && true && (hokV h 116 (PV.rI p1))) then
      bif (true && decide ((0 : Int) ≤ n2) && decide (n2 < ((PV.rN (PV.fld (hvarOf h (PV.rI p1)) 2)) : Int))) then
        bif (true && true && (hokR h 149 (PV.rI (PV.fld (hvarOf h (PV.rI p1)) 2)) n2)) then
          bif (true && decide ((0 : Int) ≤ n3) && decide (n3 < ((PV.rN (List.getD (hrowOf h (PV.rI (PV.fld (hvarOf h (PV.rI p1)) 2))) (n2).toNat PV.nil)) : Int))) then
            bif (true && (hokR h 118 (PV.rI (List.getD (hrowOf h (PV.rI (PV.fld (hvarOf h (PV.rI p1)) 2))) (n2).toNat PV.nil)) n3)) then
              let h78 : List HE := (List.set h (PV.rI (List.getD (hrowOf h (PV.rI (PV.fld (hvarOf h (PV.rI p1)) 2))) (n2).toNat PV.nil)) (HE.row 118 (List.set (hrowOf h (PV.rI (List.getD (hrowOf h (PV.rI (PV.fld (hvarOf h (PV.rI p1)) 2))) (n2).toNat PV.nil))) (n3).toNat (PV.rp q))))
              ret0 (PV.rp q) h78
            else none
          else none
        else none
      else none
    else none
  else none
noncomputable def rowBody (c74 : PV → Int → Int → (List HE) → (PV → (List HE) → R) → R) (c75 : PV → Int → (List HE) → (Bool → (List HE) → R) → R) (c96 : PV → Int → (List HE) → ((List HE) → R) → R) (c97 : PV → Int → (Bool → R) → R) (c98 : PV → PV → (List HE) → ((List HE) → R) → R) (ret0 : PV → (List HE) → R) (w1 : (List HE) → (List HE) → PV → Int → (List HE) → R) (w2 : (List HE) → (List HE) → Int → (List HE) → R) (p1 : PV) (n2 : Int) (n3 : Int) (h4 : List HE) (h75 : List HE) : R :=
  bif (PV.isRp p1) then
    bif (true && true && (hokV h75 116 (PV.rI p1))) then
      bif (true && decide ((0 : Int) ≤ n2) && decide (n2 < ((PV.rN (PV.fld (hvarOf h75 (PV.rI p1)) 0)) : Int))) then
        bif (true && true && (hokR h75 122 (PV.rI (PV.fld (hvarOf h75 (PV.rI p1)) 0)) n2)) then
          let n76 : Int := (PV.num (PV.fld (PV.fld (List.getD (hrowOf h75 (PV.rI (PV.fld (hvarOf h75 (PV.rI p1)) 0))) (n2).toNat PV.nil) 0) 0))
          bif (decide (n76 = (1 : Int))) then
            c96 (PV.rp (List.length h4)) n3 h75 fun h77 =>
            bif (PV.isRp p1) then
              bif (true && true && (hokV h77 116 (PV.rI p1))) then
                bif (true && decide ((0 : Int) ≤ n2) && decide (n2 < ((PV.rN (PV.fld (hvarOf h77 (PV.rI p1)) 2)) : Int))) then
                  bif (true && true && (hokR h77 149 (PV.rI (PV.fld (hvarOf h77 (PV.rI p1)) 2)) n2)) then
                    bif (true && decide ((0 : Int) ≤ n3) && decide (n3 < ((PV.rN (List.getD (hrowOf h77 (PV.rI (PV.fld (hvarOf h77 (PV.rI p1)) 2))) (n2).toNat PV.nil)) : Int))) then
                      bif (true && (hokR h77 118 (PV.rI (List.getD (hrowOf h77 (PV.rI (PV.fld (hvarOf h77 (PV.rI p1)) 2))) (n2).toNat PV.nil)) n3)) then
                        let h78 : List HE := (List.set h77 (PV.rI (List.getD (hrowOf h77 (PV.rI (PV.fld (hvarOf h77 (PV.rI p1)) 2))) (n2).toNat PV.nil)) (HE.row 118 (List.set (hrowOf h77 (PV.rI (List.getD (hrowOf h77 (PV.rI (PV.fld (hvarOf h77 (PV.rI p1)) 2))) (n2).toNat PV.nil))) (n3).toNat (PV.rp (List.length h4)))))
                        ret0 (PV.rp (List.length h4)) h78
                      else none
                    else none
                  else none
                else none
              else none
            else none
          else bif (decide (n76 = (2 : Int))) then
            bif (PV.isRp p1) then
              bif (true && true && (hokV h75 116 (PV.rI p1))) then
                bif ((decide (n3 < (List.length (PV.els (PV.fld (hvarOf h75 (PV.rI p1)) 1)) : Int))) == true) then
                  bif (true && true && (hokR h75 122 (PV.rI (PV.fld (hvarOf h75 (PV.rI p1)) 0)) n2)) then
                    let p79 : PV := (PV.fld (PV.fld (List.getD (hrowOf h75 (PV.rI (PV.fld (hvarOf h75 (PV.rI p1)) 0))) (n2).toNat PV.nil) 0) 1)
                    bif (PV.isRp p1) then
                      bif (true && true && (hokV h75 116 (PV.rI p1))) then
                        bif (true && decide ((0 : Int) ≤ n3) && decide (n3 < (List.length (PV.els (PV.fld (hvarOf h75 (PV.rI p1)) 1)) : Int))) then
                          c97 p79 (PV.num (List.getD (PV.els (PV.fld (hvarOf h75 (PV.rI p1)) 1)) (n3).toNat PV.nil)) fun b80 =>
                          bif b80 then
                            c96 (PV.rp (List.length h4)) (IntKind.wrap .i64 (n3 + (1 : Int))) h75 fun h81 =>
                            bif (PV.isRp p1) then
                              bif (true && true && (hokV h81 116 (PV.rI p1))) then
                                bif (true && decide ((0 : Int) ≤ n2) && decide (n2 < ((PV.rN (PV.fld (hvarOf h81 (PV.rI p1)) 2)) : Int))) then
                                  bif (true && true && (hokR h81 149 (PV.rI (PV.fld (hvarOf h81 (PV.rI p1)) 2)) n2)) then
                                    bif (true && decide ((0 : Int) ≤ n3) && decide (n3 < ((PV.rN (List.getD (hrowOf h81 (PV.rI (PV.fld (hvarOf h81 (PV.rI p1)) 2))) (n2).toNat PV.nil)) : Int))) then
                                      bif (true && (hokR h81 118 (PV.rI (List.getD (hrowOf h81 (PV.rI (PV.fld (hvarOf h81 (PV.rI p1)) 2))) (n2).toNat PV.nil)) n3)) then
                                        let h82 : List HE := (List.set h81 (PV.rI (List.getD (hrowOf h81 (PV.rI (PV.fld (hvarOf h81 (PV.rI p1)) 2))) (n2).toNat PV.nil)) (HE.row 118 (List.set (hrowOf h81 (PV.rI (List.getD (hrowOf h81 (PV.rI (PV.fld (hvarOf h81 (PV.rI p1)) 2))) (n2).toNat PV.nil))) (n3).toNat (PV.rp (List.length h4)))))
                                        ret0 (PV.rp (List.length h4)) h82
                                      else none
                                    else none
                                  else none
                                else none
                              else none
                            else none
                          else bif (PV.isRp p1) then
                            bif (true && true && (hokV h75 116 (PV.rI p1))) then
                              bif (true && decide ((0 : Int) ≤ n2) && decide (n2 < ((PV.rN (PV.fld (hvarOf h75 (PV.rI p1)) 2)) : Int))) then
                                bif (true && true && (hokR h75 149 (PV.rI (PV.fld (hvarOf h75 (PV.rI p1)) 2)) n2)) then
                                  bif (true && decide ((0 : Int) ≤ n3) && decide (n3 < ((PV.rN (List.getD (hrowOf h75 (PV.rI (PV.fld (hvarOf h75 (PV.rI p1)) 2))) (n2).toNat PV.nil)) : Int))) then
                                    bif (true && (hokR h75 118 (PV.rI (List.getD (hrowOf h75 (PV.rI (PV.fld (hvarOf h75 (PV.rI p1)) 2))) (n2).toNat PV.nil)) n3)) then
                                      let h83 : List HE := (List.set h75 (PV.rI (List.getD (hrowOf h75 (PV.rI (PV.fld (hvarOf h75 (PV.rI p1)) 2))) (n2).toNat PV.nil)) (HE.row 118 (List.set (hrowOf h75 (PV.rI (List.getD (hrowOf h75 (PV.rI (PV.fld (hvarOf h75 (PV.rI p1)) 2))) (n2).toNat PV.nil))) (n3).toNat (PV.rp (List.length h4)))))
                                      ret0 (PV.rp (List.length h4)) h83
                                    else none
                                  else none
                                else none
                              else none
                            else none
                          else none
                        else none
                      else none
                    else none
                  else none
                else bif (PV.isRp p1) then
                  bif (true && true && (hokV h75 116 (PV.rI p1))) then
                    bif (true && decide ((0 : Int) ≤ n2) && decide (n2 < ((PV.rN (PV.fld (hvarOf h75 (PV.rI p1)) 2)) : Int))) then
                      bif (true && true && (hokR h75 149 (PV.rI (PV.fld (hvarOf h75 (PV.rI p1)) 2)) n2)) then
                        bif (true && decide ((0 : Int) ≤ n3) && decide (n3 < ((PV.rN (List.getD (hrowOf h75 (PV.rI (PV.fld (hvarOf h75 (PV.rI p1)) 2))) (n2).toNat PV.nil)) : Int))) then
                          bif (true && (hokR h75 118 (PV.rI (List.getD (hrowOf h75 (PV.rI (PV.fld (hvarOf h75 (PV.rI p1)) 2))) (n2).toNat PV.nil)) n3)) then
                            let h84 : List HE := (List.set h75 (PV.rI (List.getD (hrowOf h75 (PV.rI (PV.fld (hvarOf h75 (PV.rI p1)) 2))) (n2).toNat PV.nil)) (HE.row 118 (List.set (hrowOf h75 (PV.rI (List.getD (hrowOf h75 (PV.rI (PV.fld (hvarOf h75 (PV.rI p1)) 2))) (n2).toNat PV.nil))) (n3).toNat (PV.rp (List.length h4)))))
                            ret0 (PV.rp (List.length h4)) h84
                          else none
                        else none
                      else none
                    else none
                  else none
                else none
              else none
            else none
          else bif (decide (n76 = (3 : Int))) then
            bif (true && true && (hokR h75 122 (PV.rI (PV.fld (hvarOf h75 (PV.rI p1)) 0)) n2)) then
              bif (true && decide ((0 : Int) ≤ (0 : Int)) && decide ((0 : Int) < ((PV.rN (PV.fld (List.getD (hrowOf h75 (PV.rI (PV.fld (hvarOf h75 (PV.rI p1)) 0))) (n2).toNat PV.nil) 1)) : Int))) then
                bif (true && true && (hokR h75 3 (PV.rI (PV.fld (List.getD (hrowOf h75 (PV.rI (PV.fld (hvarOf h75 (PV.rI p1)) 0))) (n2).toNat PV.nil) 1)) (0 : Int))) then
                  let n85 : Int := (PV.num (List.getD (hrowOf h75 (PV.rI (PV.fld (List.getD (hrowOf h75 (PV.rI (PV.fld (hvarOf h75 (PV.rI p1)) 0))) (n2).toNat PV.nil) 1))) ((0 : Int)).toNat PV.nil))
                  c74 p1 n85 n3 h75 fun p86 h87 =>
                  w1 h4 h75 p86 n3 h87
                else none
              else none
            else none
          else bif (decide (n76 = (4 : Int))) then
            bif (true && true && (hokR h75 122 (PV.rI (PV.fld (hvarOf h75 (PV.rI p1)) 0)) n2)) then
              bif (true && decide ((0 : Int) ≤ (0 : Int)) && decide ((0 : Int) < ((PV.rN (PV.fld (List.getD (hrowOf h75 (PV.rI (PV.fld (hvarOf h75 (PV.rI p1)) 0))) (n2).toNat PV.nil) 1)) : Int))) then
                bif (true && true && (hokR h75 3 (PV.rI (PV.fld (List.getD (hrowOf h75 (PV.rI (PV.fld (hvarOf h75 (PV.rI p1)) 0))) (n2).toNat PV.nil) 1)) (0 : Int))) then
                  let n104 : Int := (PV.num (List.getD (hrowOf h75 (PV.rI (PV.fld (List.getD (hrowOf h75 (PV.rI (PV.fld (hvarOf h75 (PV.rI p1)) 0))) (n2).toNat PV.nil) 1))) ((0 : Int)).toNat PV.nil))
                  c74 p1 n104 n3 h75 fun p105 h106 =>
                  c98 (PV.rp (List.length h4)) p105 h106 fun h107 =>
                  bif (true && true && (hokR h107 122 (PV.rI (PV.fld (hvarOf h75 (PV.rI p1)) 0)) n2)) then
                    bif (true && decide ((0 : Int) ≤ (1 : Int)) && decide ((1 : Int) < ((PV.rN (PV.fld (List.getD (hrowOf h107 (PV.rI (PV.fld (hvarOf h75 (PV.rI p1)) 0))) (n2).toNat PV.nil) 1)) : Int))) then
                      bif (true && true && (hokR h107 3 (PV.rI (PV.fld (List.getD (hrowOf h107 (PV.rI (PV.fld (hvarOf h75 (PV.rI p1)) 0))) (n2).toNat PV.nil) 1)) (1 : Int))) then
                        let n108 : Int := (PV.num (List.getD (hrowOf h107 (PV.rI (PV.fld (List.getD (hrowOf h107 (PV.rI (PV.fld (hvarOf h75 (PV.rI p1)) 0))) (n2).toNat PV.nil) 1))) ((1 : Int)).toNat PV.nil))
                        c74 p1 n108 n3 h107 fun p109 h110 =>
                        c98 (PV.rp (List.length h4)) p109 h110 fun h111 =>
                        bif (PV.isRp p1) then
                          bif (true && true && (hokV h111 116 (PV.rI p1))) then
                            bif (true && decide ((0 : Int) ≤ n2) && decide (n2 < ((PV.rN (PV.fld (hvarOf h111 (PV.rI p1)) 2)) : Int))) then
                              bif (true && true && (hokR h111 149 (PV.rI (PV.fld (hvarOf h111 (PV.rI p1)) 2)) n2)) then
                                bif (true && decide ((0 : Int) ≤ n3) && decide (n3 < ((PV.rN (List.getD (hrowOf h111 (PV.rI (PV.fld (hvarOf h111 (PV.rI p1)) 2))) (n2).toNat PV.nil)) : Int))) then
                                  bif (true && (hokR h111 118 (PV.rI (List.getD (hrowOf h111 (PV.rI (PV.fld (hvarOf h111 (PV.rI p1)) 2))) (n2).toNat PV.nil)) n3)) then
                                    let h112 : List HE := (List.set h111 (PV.rI (List.getD (hrowOf h111 (PV.rI (PV.fld (hvarOf h111 (PV.rI p1)) 2))) (n2).toNat PV.nil)) (HE.row 118 (List.set (hrowOf h111 (PV.rI (List.getD (hrowOf h111 (PV.rI (PV.fld (hvarOf h111 (PV.rI p1)) 2))) (n2).toNat PV.nil))) (n3).toNat (PV.rp (List.length h4)))))
                                    ret0 (PV.rp (List.length h4)) h112
                                  else none
                                else none
                              else none
                            else none
                          else none
                        else none
                      else none
                    else none
                  else none
                else none
              else none
            else none
          else bif (decide (n76 = (5 : Int))) then
            c96 (PV.rp (List.length h4)) n3 h75 fun h113 =>
            w2 h4 h75 n3 h113
          else bif (decide (n76 = (6 : Int))) then
            bif (true && true && (hokR h75 122 (PV.rI (PV.fld (hvarOf h75 (PV.rI p1)) 0)) n2)) then
              bif (true && decide ((0 : Int) ≤ (0 : Int)) && decide ((0 : Int) < ((PV.rN (PV.fld (List.getD (hrowOf h75 (PV.rI (PV.fld (hvarOf h75 (PV.rI p1)) 0))) (n2).toNat PV.nil) 1)) : Int))) then
                bif (true && true && (hokR h75 3 (PV.rI (PV.fld (List.getD (hrowOf h75 (PV.rI (PV.fld (hvarOf h75 (PV.rI p1)) 0))) (n2).toNat PV.nil) 1)) (0 : Int))) then
                  let n130 : Int := (PV.num (List.getD (hrowOf h75 (PV.rI (PV.fld (List.getD (hrowOf h75 (PV.rI (PV.fld (hvarOf h75 (PV.rI p1)) 0))) (n2).toNat PV.nil) 1))) ((0 : Int)).toNat PV.nil))
                  c74 p1 n130 n3 h75 fun p131 h132 =>
                  c98 (PV.rp (List.length h4)) p131 h132 fun h133 =>
                  bif (PV.isRp p1) then
                    bif (true && true && (hokV h133 116 (PV.rI p1))) then
                      bif (true && decide ((0 : Int) ≤ n2) && decide (n2 < ((PV.rN (PV.fld (hvarOf h133 (PV.rI p1)) 2)) : Int))) then
                        bif (true && true && (hokR h133 149 (PV.rI (PV.fld (hvarOf h133 (PV.rI p1)) 2)) n2)) then
                          bif (true && decide ((0 : Int) ≤ n3) && decide (n3 < ((PV.rN (List.getD (hrowOf h133 (PV.rI (PV.fld (hvarOf h133 (PV.rI p1)) 2))) (n2).toNat PV.nil)) : Int))) then
                            bif (true && (hokR h133 118 (PV.rI (List.getD (hrowOf h133 (PV.rI (PV.fld (hvarOf h133 (PV.rI p1)) 2))) (n2).toNat PV.nil)) n3)) then
                              let h134 : List HE := (List.set h133 (PV.rI (List.getD (hrowOf h133 (PV.rI (PV.fld (hvarOf h133 (PV.rI p1)) 2))) (n2).toNat PV.nil)) (HE.row 118 (List.set (hrowOf h133 (PV.rI (List.getD (hrowOf h133 (PV.rI (PV.fld (hvarOf h133 (PV.rI p1)) 2))) (n2).toNat PV.nil))) (n3).toNat (PV.rp (List.length h4)))))
                              ret0 (PV.rp (List.length h4)) h134
                            else none
                          else none
                        else none
                      else none
                    else none
                  else none
                else none
              else none
            else none
          else bif (decide (n76 = (7 : Int))) then
            bif (true && true && (hokR h75 122 (PV.rI (PV.fld (hvarOf h75 (PV.rI p1)) 0)) n2)) then
              bif (true && decide ((0 : Int) ≤ (0 : Int)) && decide ((0 : Int) < ((PV.rN (PV.fld (List.getD (hrowOf h75 (PV.rI (PV.fld (hvarOf h75 (PV.rI p1)) 0))) (n2).toNat PV.nil) 1)) : Int))) then
                bif (true && true && (hokR h75 3 (PV.rI (PV.fld (List.getD (hrowOf h75 (PV.rI (PV.fld (hvarOf h75 (PV.rI p1)) 0))) (n2).toNat PV.nil) 1)) (0 : Int))) then
                  let n135 : Int := (PV.num (List.getD (hrowOf h75 (PV.rI (PV.fld (List.getD (hrowOf h75 (PV.rI (PV.fld (hvarOf h75 (PV.rI p1)) 0))) (n2).toNat PV.nil) 1))) ((0 : Int)).toNat PV.nil))
                  c74 p1 n135 n3 h75 fun p136 h137 =>
                  c98 (PV.rp (List.length h4)) p136 h137 fun h138 =>
                  bif (PV.isRp p1) then
                    bif (true && true && (hokV h138 116 (PV.rI p1))) then
                      bif (true && decide ((0 : Int) ≤ n2) && decide (n2 < ((PV.rN (PV.fld (hvarOf h138 (PV.rI p1)) 2)) : Int))) then
                        bif (true && true && (hokR h138 149 (PV.rI (PV.fld (hvarOf h138 (PV.rI p1)) 2)) n2)) then
                          bif (true && decide ((0 : Int) ≤ n3) && decide (n3 < ((PV.rN (List.getD (hrowOf h138 (PV.rI (PV.fld (hvarOf h138 (PV.rI p1)) 2))) (n2).toNat PV.nil)) : Int))) then
                            bif (true && (hokR h138 118 (PV.rI (List.getD (hrowOf h138 (PV.rI (PV.fld (hvarOf h138 (PV.rI p1)) 2))) (n2).toNat PV.nil)) n3)) then
                              let h139 : List HE := (List.set h138 (PV.rI (List.getD (hrowOf h138 (PV.rI (PV.fld (hvarOf h138 (PV.rI p1)) 2))) (n2).toNat PV.nil)) (HE.row 118 (List.set (hrowOf h138 (PV.rI (List.getD (hrowOf h138 (PV.rI (PV.fld (hvarOf h138 (PV.rI p1)) 2))) (n2).toNat PV.nil))) (n3).toNat (PV.rp (List.length h4)))))
                              ret0 (PV.rp (List.length h4)) h139
                            else none
                          else none
                        else none
                      else none
                    else none
                  else none
                else none
              else none
            else none
          else bif (PV.isRp p1) then
            bif (true && true && (hokV h75 116 (PV.rI p1))) then
              bif (true && decide ((0 : Int) ≤ n2) && decide (n2 < ((PV.rN (PV.fld (hvarOf h75 (PV.rI p1)) 2)) : Int))) then
                bif (true && true && (hokR h75 149 (PV.rI (PV.fld (hvarOf h75 (PV.rI p1)) 2)) n2)) then
                  bif (true && decide ((0 : Int) ≤ n3) && decide (n3 < ((PV.rN (List.getD (hrowOf h75 (PV.rI (PV.fld (hvarOf h75 (PV.rI p1)) 2))) (n2).toNat PV.nil)) : Int))) then
                    bif (true && (hokR h75 118 (PV.rI (List.getD (hrowOf h75 (PV.rI (PV.fld (hvarOf h75 (PV.rI p1)) 2))) (n2).toNat PV.nil)) n3)) then
                      let h140 : List HE := (List.set h75 (PV.rI (List.getD (hrowOf h75 (PV.rI (PV.fld (hvarOf h75 (PV.rI p1)) 2))) (n2).toNat PV.nil)) (HE.row 118 (List.set (hrowOf h75 (PV.rI (List.getD (hrowOf h75 (PV.rI (PV.fld (hvarOf h75 (PV.rI p1)) 2))) (n2).toNat PV.nil))) (n3).toNat (PV.rp (List.length h4)))))
                      ret0 (PV.rp (List.length h4)) h140
                    else none
                  else none
                else none
              else none
            else none
          else none
        else none
      else none
    else none
  else none
end Go.Proofs.Ytmdlhnojpcnnbaa
