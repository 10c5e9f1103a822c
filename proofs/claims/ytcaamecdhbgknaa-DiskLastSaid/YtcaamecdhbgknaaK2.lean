/- A map's clone: by the shelf's contract. -/
import Derived.Test.YtcaamecdhbgknaaShelf
