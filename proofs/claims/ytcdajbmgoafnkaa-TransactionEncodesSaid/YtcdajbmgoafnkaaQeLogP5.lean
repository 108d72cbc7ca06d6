/- Texts of the proof, joined: LogP5. -/
import Derived.Test.YtcdajbmgoafnkaaQeLogP4

