/- Texts of the proof, joined: WireP3. -/
import Derived.Test.YtnmidfcefljafaaGreatQtWireP2

