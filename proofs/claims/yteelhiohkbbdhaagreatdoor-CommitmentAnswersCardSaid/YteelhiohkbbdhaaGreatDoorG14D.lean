/- A part of the proof: what the functions compute, and that their calls return it. No condition. -/
import Derived.Test.YteelhiohkbbdhaaGreatDoorTaSort
import Derived.Test.YteelhiohkbbdhaaGreatDoorTaVc
import Derived.Test.YteelhiohkbbdhaaGreatDoorPt
import Derived.Test.YteelhiohkbbdhaaGreatDoorProg
/- The shapes of data. No condition. -/
namespace Go.Proofs.YteelhiohkbbdhaaGreatDoor
open Go Go.TA

structure TTreasurymakeTape where
  l : (List Int)
  at_ : Int
  deriving Inhabited
def TTreasurymakeTape.e (x : TTreasurymakeTape) : DV := .agg [(eL (DV.i .i64) x.l), (DV.i .i64 x.at_)]
structure TApiReservation where
  Number : Int
  Code : List UInt8
  Year : Int
  Day : Int
  Amount : Int
  Released : Int
  deriving Inhabited
def TApiReservation.e (x : TApiReservation) : DV := .agg [(DV.i .i64 x.Number), (DV.str x.Code), (DV.i .i64 x.Year), (DV.i .i64 x.Day), (DV.i .i64 x.Amount), (DV.i .i64 x.Released)]
structure TApiCommitment where
  Number : Int
  Reservation : Int
  Day : Int
  Amount : Int
  Released : Int
  Payee : Int
  Due : Int
  deriving Inhabited
def TApiCommitment.e (x : TApiCommitment) : DV := .agg [(DV.i .i64 x.Number), (DV.i .i64 x.Reservation), (DV.i .i64 x.Day), (DV.i .i64 x.Amount), (DV.i .i64 x.Released), (DV.i .i64 x.Payee), (DV.i .i64 x.Due)]
structure TApiVerification where
  Number : Int
  Commitment : Int
  Day : Int
  Amount : Int
  deriving Inhabited
def TApiVerification.e (x : TApiVerification) : DV := .agg [(DV.i .i64 x.Number), (DV.i .i64 x.Commitment), (DV.i .i64 x.Day), (DV.i .i64 x.Amount)]
structure TApiOrder where
  Number : Int
  Verification : Int
  Attempt : Int
  Day : Int
  Back : Bool
  deriving Inhabited
def TApiOrder.e (x : TApiOrder) : DV := .agg [(DV.i .i64 x.Number), (DV.i .i64 x.Verification), (DV.i .i64 x.Attempt), (DV.i .i64 x.Day), (DV.b x.Back)]
structure TApiBook where
  Reservations : (List TApiReservation)
  Commitments : (List TApiCommitment)
  Verifications : (List TApiVerification)
  Orders : (List TApiOrder)
  deriving Inhabited
def TApiBook.e (x : TApiBook) : DV := .agg [(eL TApiReservation.e x.Reservations), (eL TApiCommitment.e x.Commitments), (eL TApiVerification.e x.Verifications), (eL TApiOrder.e x.Orders)]
structure TApiOwed where
  Office : Int
  Verification : Int
  Attempt : Int
  Payee : Int
  Amount : Int
  Due : Int
  deriving Inhabited
def TApiOwed.e (x : TApiOwed) : DV := .agg [(DV.i .i64 x.Office), (DV.i .i64 x.Verification), (DV.i .i64 x.Attempt), (DV.i .i64 x.Payee), (DV.i .i64 x.Amount), (DV.i .i64 x.Due)]
structure TApiHeading where
  Code : List UInt8
  Name : List UInt8
  deriving Inhabited
def TApiHeading.e (x : TApiHeading) : DV := .agg [(DV.str x.Code), (DV.str x.Name)]
structure TApiOpen where
  Office : Int
  Commitment : Int
  Code : List UInt8
  Year : Int
  Amount : Int
  deriving Inhabited
def TApiOpen.e (x : TApiOpen) : DV := .agg [(DV.i .i64 x.Office), (DV.i .i64 x.Commitment), (DV.str x.Code), (DV.i .i64 x.Year), (DV.i .i64 x.Amount)]

end Go.Proofs.YteelhiohkbbdhaaGreatDoor
